/- The reference's functions, by the walk: signs. -/
import Derived.Test.YtlfbopiefjpeaaaDoorLyC
import Derived.LoopTactic
import Derived.Deep.QuietTactic
import Derived.BigQuiet
set_option linter.unusedSimpArgs false
set_option linter.unusedVariables false
namespace Go.Lx
open Go Go.Sv Go.Proofs Go.RowKit
set_option maxRecDepth 100000
theorem ex_cut {a b : Code} {s : St} {k : Exit → St → Prop} (Q : St → Prop) (h1 : ex E a s fun e s' => e = .normal ∧ Q s') (h2 : ∀ s', Q s' → ex E b s' k) : ex E (.seq a b) s k := by
  refine ex_seq (ex_mono a s _ _ (fun e s' h => ?_) h1)
  obtain ⟨rfl, h⟩ := h
  exact h2 _ h
def sigS : ByteArray := ⟨#[123, 125, 40, 41, 91, 93, 44, 59, 58, 46, 61, 60, 62, 43, 45, 42, 47, 37]⟩
def inSig (b : UInt8) : Bool := sigS.data.toList.any fun c => b == c
theorem inSig_cb (b : UInt8) : inSig b = ((cb b == 5) && !(b == 33)) := by
  have := allB (p := fun b => inSig b == ((cb b == 5) && !(b == 33))) (by kernel_rfl) b
  simpa using this
theorem cb_sg (b : UInt8) (h : b = 58 ∨ b = 60 ∨ b = 62 ∨ b = 33) : cb b = 5 := by
  rcases h with rfl | rfl | rfl | rfl <;> decide +kernel
/-- Where no sign of two bytes stands ahead. -/
theorem sgn_one (b : UInt8) (r : List UInt8) (h : ¬ (r.head? = some 61 ∧ (b = 58 ∨ b = 60 ∨ b = 62 ∨ b = 33))) : sgn (b :: r) = if inSig b = true then 1 else 0 := by
  rw [inSig_cb]
  simp only [sgn]
  by_cases h4 : b = 58 ∨ b = 60 ∨ b = 62 ∨ b = 33
  · rw [if_pos h4]
    have hq : ¬ r.head? = some 61 := fun e => h ⟨e, h4⟩
    rw [if_neg hq]
    have h5 := cb_sg b h4
    by_cases h33 : b = 33
    · simp [h33]
    · simp [h33, h5]
  · rw [if_neg h4]
    have h33 : ¬ b = 33 := fun e => h4 (.inr (.inr (.inr e)))
    simp [h33]
set_option maxHeartbeats 4000000 in
theorem sign43_two (s : ByteArray) (w : World) (h0 : 0 < s.size) (h1 : 1 < s.size) (hc : ((s[1]'h1).toNat : Int) = 61) (h4 : ((s[0]'h0).toNat : Int) = 58 ∨ ((s[0]'h0).toNat : Int) = 33 ∨ ((s[0]'h0).toNat : Int) = 60 ∨ ((s[0]'h0).toNat : Int) = 62) : Calls Tryd.prog 43 #[.string s] w fun e w' => e = .returned (.int .i64 2) ∧ Below w.heap.size w w' := by
  have h2 : (2 : Int) ≤ s.size := by omega
  go_enter Tryd.func43, Tryd.ntmps43
  go_wp2
  all_goals first | (go_ret; exact ⟨rfl, Below.refl _ _⟩) | (exfalso; omega) | (exfalso; simp only [beq_eq_false_iff_ne, ne_eq] at *; omega)
set_option maxHeartbeats 4000000 in
theorem sign43_one (s : ByteArray) (w : World) (b : UInt8) (R : Int) (hR1 : inSig b = true → R = 1) (hR0 : inSig b = false → R = 0) (h0 : 0 < s.size) (hb : s[0]'h0 = b) (hA : ∀ h1 : 1 < s.size, ((s[1]'h1).toNat : Int) = 61 → (b.toNat : Int) ≠ 58 ∧ (b.toNat : Int) ≠ 33 ∧ (b.toNat : Int) ≠ 60 ∧ (b.toNat : Int) ≠ 62) : Calls Tryd.prog 43 #[.string s] w fun e w' => e = .returned (.int .i64 R) ∧ Below w.heap.size w w' := by
  have h5 : (0 : Int) < s.size := by omega
  have hs18 : sigS.size = 18 := rfl
  go_enter Tryd.func43, Tryd.ntmps43
  go_wp2
  all_goals first
    | (exfalso
       have := hA (by omega) (by assumption)
       omega)
    | (exfalso
       have := hA (by omega) (by assumption)
       simp only [beq_eq_false_iff_ne, ne_eq, beq_iff_eq] at *
       omega)
    | (go_loopw [4] (fun p wr => ∃ i : Nat, p = .int .i64 i ∧ i ≤ 18 ∧ ((rest sigS i).any fun c => b == c) = inSig b ∧ Below w.heap.size w wr) (fun p _ => 18 - (RowKit.intOf p).toNat)
       case atStart => exact ⟨0, rfl, by omega, rfl, Below.refl _ _⟩
       case round =>
         obtain ⟨i, rfl, hi, hR2, hbw⟩ := hrel
         by_cases hlt : i < 18
         · obtain ⟨c, hc1, hc2⟩ := rest_cons (s := sigS) (i := i) hlt
           rw [hc2, List.any_cons] at hR2
           have hi18 : (i : Int) < 18 := by omega
           have hci : (({ data := #[123, 125, 40, 41, 91, 93, 44, 59, 58, 46, 61, 60, 62, 43, 45, 42, 47, 37] } : ByteArray)[i]'hlt) = c := by
             have := (Array.getElem?_eq_some_iff.1 hc1).2
             exact this
           by_cases hbc : b = c
           · have hv : ((b.toNat : Int) == (c.toNat : Int)) = true := by rw [hbc]; simp
             go_wp2
             go_quiet (fail)
             go_wp2
             have hin : inSig b = true := by rw [← hR2, hbc]; simp
             obtain rfl := hR1 hin
             first
               | (go_ret; exact ⟨rfl, hbw.trans ⟨rfl, rfl, rfl, Nat.le_refl _, fun _ _ => rfl⟩⟩)
               | exact ⟨rfl, hbw.trans ⟨rfl, rfl, rfl, Nat.le_refl _, fun _ _ => rfl⟩⟩
           · have hv : ((b.toNat : Int) == (c.toNat : Int)) = false := by
               rw [beq_eq_false_iff_ne]; intro e
               exact hbc (UInt8.toNat_inj.1 (by exact_mod_cast e))
             go_wp2
             go_quiet (fail)
             go_wp2
             have hbf : (b == c) = false := by simpa using hbc
             rw [hbf, Bool.false_or] at hR2
             go_roundw
             case rel => exact ⟨i + 1, by simp, by omega, hR2, hbw.trans ⟨rfl, rfl, rfl, Nat.le_refl _, fun _ _ => rfl⟩⟩
             case measure => simp [RowKit.intOf]; omega
         · have hi18 : ¬ (i : Int) < 18 := by omega
           rw [rest_nil (by rw [hs18]; omega)] at hR2
           go_wp2
           have hin : inSig b = false := by rw [← hR2]; rfl
           obtain rfl := hR0 hin
           first
             | (go_ret; exact ⟨rfl, hbw⟩)
             | exact ⟨rfl, hbw⟩)
theorem bget {s : ByteArray} {i : Nat} {b : UInt8} (h : s.data[i]? = some b) (hi : i < s.size) : s[i]'hi = b := (Array.getElem?_eq_some_iff.1 h).2
theorem sign43 (s : ByteArray) (hs : s.size ≤ 9223372036854775807) : PureC E 43 [.str s] (.int .i64 (sgn s.data.toList : Nat)) := by
  by_cases h0 : 0 < s.size
  · obtain ⟨b, hb, hr⟩ := rest_cons h0
    rw [rest0] at hr
    have hr1 : s.data.toList = b :: rest s 1 := hr
    have hb0 := bget hb h0
    refine pure_below ⟨_, Tryd.func43, rfl, by kernel_rfl⟩ fun w im vs _ _ h3 h4 => ?_
    have e0 := rd_str (h4 0 _ rfl)
    rw [arr1 h3, e0.1]
    by_cases hA : ∃ h1 : 1 < s.size, s[1]'h1 = 61 ∧ (b = 58 ∨ b = 33 ∨ b = 60 ∨ b = 62)
    · obtain ⟨h1, hc, h4⟩ := hA
      have hsg : sgn s.data.toList = 2 := by
        obtain ⟨c, hc1, hc2⟩ := rest_cons h1
        have : c = 61 := by rw [← hc]; exact (bget hc1 h1).symm
        rw [hr1]; simp only [sgn]
        rw [if_pos (by rcases h4 with h | h | h | h <;> simp [h]), if_pos (by rw [hc2, this]; rfl)]
      rw [hsg]
      refine (sign43_two s w h0 h1 (by rw [hc]; rfl) (by rw [hb0]; rcases h4 with h | h | h | h <;> rw [h] <;> decide)).mono ?_
      rintro e w' ⟨rfl, hbw⟩
      exact ⟨_, rfl, fun _ _ => .int _ _, hbw⟩
    · have hsg : sgn s.data.toList = if inSig b = true then 1 else 0 := by
        rw [hr1]
        refine sgn_one b _ fun h => hA ?_
        have h1 : 1 < s.size := by
          rcases Nat.lt_or_ge 1 s.size with h1 | h1
          · exact h1
          · have := h.1; rw [rest_nil h1] at this; cases this
        obtain ⟨c, hc1, hc2⟩ := rest_cons h1
        have hc61 : c = 61 := by have := h.1; rw [hc2] at this; exact Option.some.inj this
        exact ⟨h1, by rw [bget hc1 h1, hc61], by rcases h.2 with h | h | h | h <;> simp [h]⟩
      rw [hsg]
      refine (sign43_one s w b ((if inSig b = true then 1 else 0 : Nat) : Int) (fun h => by rw [if_pos h]; rfl) (fun h => by rw [h]; rfl) h0 hb0 (fun h1 hc => ?_)).mono ?_
      · have hc' : s[1]'h1 = 61 := UInt8.toNat_inj.1 (by exact_mod_cast hc)
        refine ⟨fun q => hA ⟨h1, hc', .inl (UInt8.toNat_inj.1 (by exact_mod_cast q))⟩, fun q => hA ⟨h1, hc', .inr (.inl (UInt8.toNat_inj.1 (by exact_mod_cast q)))⟩, fun q => hA ⟨h1, hc', .inr (.inr (.inl (UInt8.toNat_inj.1 (by exact_mod_cast q))))⟩, fun q => hA ⟨h1, hc', .inr (.inr (.inr (UInt8.toNat_inj.1 (by exact_mod_cast q))))⟩⟩
      · rintro e w' ⟨rfl, hbw⟩
        exact ⟨_, rfl, fun _ _ => .int _ _, hbw⟩
  · have hnil : s.data.toList = [] := by rw [← rest0, rest_nil (by omega)]
    rw [hnil, str_eq hnil]
    exact pure_of_run mixed orc_none Tryd.func43 (N := 20) (by kernel_rfl) (by kernel_rfl)
end Go.Lx
