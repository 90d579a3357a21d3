/- The lexer's Join, by the walk. -/
import Derived.Test.YtlfbopiefjpeaaaDoorLxU
import Derived.Deep.QuietTactic
set_option linter.unusedSimpArgs false
set_option linter.unusedVariables false
namespace Go.Lx
open Go Go.Sv Go.Proofs Go.Shelf Go.RowKit
set_option maxRecDepth 100000
theorem firstErr_at (l : List Tk) : ∀ (i : Nat) (x : Tk), l[i]? = some x → firstErr (l.drop i) = if rightErr x ≠ 0 then rightErr x else firstErr (l.drop (i + 1)) := by
  intro i x h
  have hlt := (List.getElem?_eq_some_iff.1 h).1
  rw [List.drop_eq_getElem_cons hlt]
  have : l[i] = x := by rw [List.getElem?_eq_getElem hlt] at h; exact Option.some.inj h
  rw [this]
  rfl
theorem firstErr_zero : ∀ (l : List Tk), firstErr l = 0 → ∀ x ∈ l, rightErr x = 0 := by
  intro l
  induction l with
  | nil => intro _ x hx; cases hx
  | cons y r ih =>
    intro h x hx
    have hd : firstErr (y :: r) = if rightErr y ≠ 0 then rightErr y else firstErr r := rfl
    rw [hd] at h
    by_cases h0 : rightErr y = 0
    · rw [if_neg (by simp [h0])] at h
      rcases List.mem_cons.1 hx with rfl | hx
      · exact h0
      · exact ih h x hx
    · rw [if_pos h0] at h
      exact absurd h h0
theorem sgn_le2 (l : List UInt8) : sgn l ≤ 2 := by
  cases l with
  | nil => simp [sgn]
  | cons b r => simp only [sgn]; repeat' split
                all_goals omega
theorem right_size (x : Tk) (h : rightErr x = 0) : x.t.size ≤ 100 := by
  have hl := size_list x.t
  unfold rightErr at h
  split at h
  · split at h
    · rename_i hw
      simp only [isW, decide_eq_true_eq] at hw
      omega
    · cases h
  · split at h
    · split at h
      · rename_i hn
        by_cases h100 : 100 < x.t.data.toList.length
        · exfalso
          have hd : numErr x.t.data.toList = if x.t.data.toList = [] ∨ x.t.data.toList.any badB = true then 4 else if 1 < x.t.data.toList.length ∧ x.t.data.toList.head? = some 48 then 3 else if 100 < x.t.data.toList.length then 10 else 0 := rfl
          rw [hd, if_pos h100] at hn
          split at hn
          · cases hn
          · split at hn <;> cases hn
        · omega
      · cases h
    · split at h
      · split at h
        · rename_i hs
          have := sgn_le2 x.t.data.toList
          omega
        · cases h
      · cases h
def prevT (l : List Tk) : Nat → Option Tk
  | 0 => none
  | j + 1 => l[j]?
set_option maxHeartbeats 4000000 in
theorem join16_some (l : List Tk) (z : Tk) (b o cap : Nat) (w : World) (hm : l.length + 1 ≤ 281474976710656) (hcap : l.length + 1 ≤ cap) (hlt : b < w.heap.size) (hz : TokAt w b (o + l.length * 3) z) (hl : ∀ i x, l[i]? = some x → TokAt w b (o + i * 3) x) (hk : z.k = 3)
    (hR : ∀ x, x ∈ l → ∀ W, Below w.heap.size w W → Calls Tryd.prog 44 #[x.v] W fun e w' => e = .returned (.int .i64 (rightErr x)) ∧ Below W.heap.size W w')
    (Q : Ending → World → Prop)
    (htext : firstErr l = 0 → z.t.data.toList ≠ [] → ∀ W, Below w.heap.size w W → Q (.returned (.tuple #[.string ⟨#[]⟩, .int .i64 3])) W)
    (hlong : firstErr l = 0 → z.t.data.toList = [] → joinOut none l [] = none → ∀ W, Below w.heap.size w W → Q (.returned (.tuple #[.string ⟨#[]⟩, .int .i64 13])) W)
    (hdone : ∀ s, firstErr l = 0 → z.t.data.toList = [] → joinOut none l [] = some s → ∀ W, Below w.heap.size w W → Q (.returned (.tuple #[.string ⟨s.toArray⟩, .int .i64 0])) W)
    (hAp : ∀ j y x, l[j]? = some y → l[j + 1]? = some x → ∀ W, Below w.heap.size w W → Calls Tryd.prog 45 #[y.v, x.v] W fun e w' => e = .returned (.bool (apartB y x)) ∧ Below W.heap.size W w')
    (hbad : firstErr l ≠ 0 → ∀ W, Below w.heap.size w W → Q (.returned (.tuple #[.string ⟨#[]⟩, .int .i64 (firstErr l)])) W) :
    Calls Tryd.prog 16 #[.slice (some ⟨b, o, none⟩) (l.length + 1) cap] w Q := by
  have hw : wrap64 ((l.length + 1 : Nat) - 1 : Int) = l.length := by
    rw [IntWalk.wrap64_in _ (by omega)]; omega
  have h1 : (0 : Int) ≤ l.length := by omega
  have h2 : (l.length : Int) < (l.length + 1 : Nat) := by omega
  have h3 : (0 : Int) ≤ l.length ∧ (l.length : Int) ≤ cap := by omega
  have hc := hz.k
  rw [hk] at hc
  go_enter Tryd.func16, Tryd.ntmps16
  go_wp2
  go_loopw [28] (fun p wr => ∃ i : Nat, p = .int .i64 i ∧ i ≤ l.length ∧ firstErr (l.drop i) = firstErr l ∧ Below w.heap.size w wr) (fun p _ => l.length - (RowKit.intOf p).toNat)
  case atStart => exact ⟨0, rfl, by omega, rfl, Below.refl _ _⟩
  case round =>
    obtain ⟨i, rfl, hi, he, hb⟩ := hrel
    by_cases hil : i < l.length
    · have hx : l[i]? = some l[i] := List.getElem?_eq_getElem hil
      generalize l[i] = x at hx
      have hT := (hl i x hx).below hb hlt
      have hc1 := hT.k
      have hc2 := hT.t
      have hc3 := hT.a
      have hi1 : (i : Int) < l.length := by omega
      have hi0 : (0 : Int) ≤ i := by omega
      have hmem : x ∈ l := List.mem_of_getElem? hx
      rw [firstErr_at l i x hx] at he
      have hRx := hR x hmem
      by_cases h0 : rightErr x = 0
      · rw [h0] at hRx
        rw [if_neg (by simp [h0])] at he
        go_wp2_with (go_at_call 44; refine (hRx _ (hb.alloc hb.size _)).mono ?_; rintro e w1 ⟨rfl, hb1⟩)
        go_roundw
        case rel => exact ⟨i + 1, by simp, by omega, he, (hb.alloc hb.size _).trans (hb1.mono (by simp [World.size_alloc]; have := hb.size; omega))⟩
        case measure => simp [RowKit.intOf]; omega
      · rw [if_pos h0] at he
        have hne : (rightErr x != 0) = true := by simpa using h0
        go_wp2_with (go_at_call 44; refine (hRx _ (hb.alloc hb.size _)).mono ?_; rintro e w1 ⟨rfl, hb1⟩)
        exact hbad (by rw [← he]; exact h0) _ ((hb.alloc hb.size _).trans (hb1.mono (by simp [World.size_alloc]; have := hb.size; omega)))
    · have hi1 : ¬ (i : Int) < l.length := by omega
      have hTz := hz.below hb hlt
      have hcz := hTz.t
      have hF : firstErr l = 0 := by rw [← he, List.drop_eq_nil_of_le (by omega)]; rfl
      by_cases ht : z.t.data.toList = []
      · have ht' : z.t = ⟨#[]⟩ := by apply ByteArray.ext; apply Array.ext'; exact ht
        rw [ht'] at hcz
        go_wp2
        have hB0 : Lib.IsBuilderF 67 5 wr.heap.size wr.heap.size [] (wr.alloc (.cells #[.pointer none, .slice none 0 0] 67)) := Lib.IsBuilderF.of (Lib.fresh_isBuilder 67 5 wr)
        have hBb : Below w.heap.size w (wr.alloc (.cells #[.pointer none, .slice none 0 0] 67)) := hb.alloc hb.size _
        have hBz := World.size_alloc wr (.cells #[.pointer none, .slice none 0 0] 67)
        generalize wr.alloc (.cells #[.pointer none, .slice none 0 0] 67) = wb at hB0 hBb hBz ⊢
        have hBle : w.heap.size ≤ wr.heap.size := hb.size
        generalize wr.heap.size = B at hB0 hBz hBle ⊢
        clear hw
        go_loopw [48] (fun p wr2 => ∃ (i : Nat) (out : List UInt8), p = .int .i64 i ∧ i ≤ l.length ∧ joinOut (prevT l i) (l.drop i) out = joinOut none l [] ∧ out.length ≤ 65536 ∧ Lib.IsBuilderF 67 5 B B (Lib.byteCells out) wr2 ∧ Below w.heap.size w wr2 ∧ B < wr2.heap.size)
          (fun p _ => l.length - (RowKit.intOf p).toNat)
        case atStart => exact ⟨0, [], rfl, by omega, rfl, by simp, hB0, hBb, by omega⟩
        case round =>
          obtain ⟨j, out, rfl, hj, hJ, hol, hBd, hb2, hBs⟩ := hrel
          by_cases hjl : j < l.length
          · have hx : l[j]? = some l[j] := List.getElem?_eq_getElem hjl
            generalize l[j] = x at hx
            have hT := (hl j x hx).below hb2 hlt
            have hc1 := hT.k
            have hc2 := hT.t
            have hc3 := hT.a
            have hi1 : (j : Int) < l.length := by omega
            have hi0 : (0 : Int) ≤ j := by omega
            have hwB : w.heap.size ≤ B := hBle
            have hdx : l.drop j = x :: l.drop (j + 1) := by
              rw [List.drop_eq_getElem_cons hjl]
              have : l[j] = x := by rw [List.getElem?_eq_getElem hjl] at hx; exact Option.some.inj hx
              rw [this]
            rw [hdx] at hJ
            by_cases hj0 : j = 0
            · subst hj0
              have hd0 : decide ((0 : Nat) > (0 : Int)) = false := by decide
              simp only [Nat.zero_mul, Nat.add_zero] at hc1 hc2 hc3
              have hJ1 : joinOut (prevT l 0) (x :: l.drop (0 + 1)) out = if 65536 < (out ++ x.t.data.toList).length then none else joinOut (some x) (l.drop (0 + 1)) (out ++ x.t.data.toList) := rfl
              go_wp2
              go_quiet (fail)
              generalize hW1 : (wr.alloc (.cells #[.int .i64 x.k, .string x.t, .int .i64 x.a] 53)).drewN nq = W1
              have hq1 : Below wr.heap.size wr W1 := by rw [← hW1]; exact ((Below.refl _ wr).alloc (Nat.le_refl _) _).trans ⟨rfl, rfl, rfl, Nat.le_refl _, fun _ _ => rfl⟩
              have hq2 : W1.heap[wr.heap.size]? = some (.cells #[.int .i64 x.k, .string x.t, .int .i64 x.a] 53 (0, 0)) := by rw [← hW1]; exact World.alloc_heap_new wr _
              have hq3 : Lib.IsBuilderF 67 5 B B (Lib.byteCells out) W1 := builder_below hBd hq1
              clear hW1
              have hbw : Below w.heap.size w W1 := hb2.trans (hq1.mono hb2.size)
              have hcx : W1.cell? ⟨wr.heap.size, 1, none⟩ = some (.string x.t) := by rw [Lib.cell_of_heap hq2]; rfl
              have hxs := right_size x (firstErr_zero l hF x (List.mem_of_getElem? hx))
              have hol1 : out.length ≤ 65537 := by omega
              have hWS := writeString47 B B (Lib.byteCells out) x.t W1 hq3 (by rw [Lib.byteCells_length]; omega) (by have := hq1.size; omega)
              have hW2' : ∀ W2, Below B W1 W2 → Lib.BuilderAtF 67 5 B B (.pointer (some ⟨B, 0, none⟩)) (Lib.byteCells out ++ Lib.strCells x.t) W2 → Calls Tryd.prog 48 #[.pointer (some ⟨B, 0, none⟩)] W2 fun e w' => e = .returned (.int .i64 (out ++ x.t.data.toList).length) ∧ w' = W2 := by
                intro W2 _ hb
                have := Tryd.Builder_Len_f B B (Lib.byteCells (out ++ x.t.data.toList)) W2 (by rw [Lib.byteCells_append, ← Lib.strCells_eq]; exact .inr hb)
                rw [Lib.byteCells_length] at this
                exact this
              by_cases hlg : 65536 < (out ++ x.t.data.toList).length
              · have hlg' : ((out ++ x.t.data.toList).length : Int) > 65536 := by omega
                generalize (out ++ x.t.data.toList).length = L1 at hW2' hlg'
                go_wp2_with (first
                  | (go_at_call 47; refine hWS.mono ?_; rintro e W2 ⟨rfl, hs1, hs2, hs3⟩)
                  | (go_at_call 48; refine (hW2' _ hs2 hs1).mono ?_; rintro e W3 ⟨rfl, rfl⟩))
                exact hlong hF ht (by rw [← hJ, hJ1, if_pos hlg]) _ (hbw.trans (hs2.mono hwB))
              · have hlg' : ¬ ((out ++ x.t.data.toList).length : Int) > 65536 := by omega
                obtain ⟨L1, hL1⟩ : ∃ n, (out ++ x.t.data.toList).length = n := ⟨_, rfl⟩
                rw [hL1] at hW2' hlg'
                go_wp2_with (first
                  | (go_at_call 47; refine hWS.mono ?_; rintro e W2 ⟨rfl, hs1, hs2, hs3⟩)
                  | (go_at_call 48; refine (hW2' _ hs2 hs1).mono ?_; rintro e W3 ⟨rfl, rfl⟩))
                go_roundw
                case rel =>
                  refine ⟨0 + 1, out ++ x.t.data.toList, by simp, by omega, ?_, by omega, ?_, hbw.trans (hs2.mono hwB), by have := hs2.size; have := hq1.size; omega⟩
                  · rw [show prevT l (0 + 1) = some x from hx, ← hJ, hJ1, if_neg hlg]
                  · rw [Lib.byteCells_append, ← Lib.strCells_eq]; exact .inr hs1
                case measure => simp [RowKit.intOf]; omega
            · obtain ⟨k, rfl⟩ : ∃ k, j = k + 1 := ⟨j - 1, by omega⟩
              have hkl : k < l.length := by omega
              have hy : l[k]? = some l[k] := List.getElem?_eq_getElem hkl
              generalize l[k] = y at hy
              have hTy := (hl k y hy).below hb2 hlt
              have hy1 := hTy.k
              have hy2 := hTy.t
              have hy3 := hTy.a
              have hm2 : l.length ≤ 281474976710656 := by omega
              clear hc hz hl hcz hTz h1 h2 h3
              obtain ⟨J1, hJe⟩ : ∃ J : Int, ((k + 1 : Nat) : Int) = J := ⟨_, rfl⟩
              have hJ0 : 0 ≤ J1 := by omega
              have hJlt : J1 < l.length := by omega
              have hJn : J1.toNat = k + 1 := by omega
              have hJg : J1 > 0 := by omega
              have hk0 : (0 : Int) ≤ k := by omega
              have hk2 : (k : Int) < (l.length : Int) + 1 := by omega
              have hk1 : (k : Int) < (l.length + 1 : Nat) := by omega
              have hk3 : (k : Int) ≤ l.length := by omega
              have hk4 : k < l.length + 1 := by omega
              have hk5 : k ≤ l.length := by omega
              have hwJ : wrap64 (J1 - 1) = (k : Int) := by rw [IntWalk.wrap64_in _ (by omega)]; omega
              rw [hJe]
              clear hi0 hi1
              have hA2 := hAp k y x hy hx
              have hAW : ∀ W, Below wr.heap.size wr W → Calls Tryd.prog 45 #[.agg #[.int .i64 y.k, .string y.t, .int .i64 y.a], .agg #[.int .i64 x.k, .string x.t, .int .i64 x.a]] W fun e w' => e = .returned (.bool (apartB y x)) ∧ Below W.heap.size W w' := fun W h => hA2 W (hb2.trans (h.mono hb2.size))
              cases hab : apartB y x
              · rw [hab] at hAW
                have hqb : Below wr.heap.size wr (wr.alloc (.cells #[.int .i64 x.k, .string x.t, .int .i64 x.a] 53)) := (Below.refl _ wr).alloc (Nat.le_refl _) _
                have hqn : (wr.alloc (.cells #[.int .i64 x.k, .string x.t, .int .i64 x.a] 53)).heap[wr.heap.size]? = some (.cells #[.int .i64 x.k, .string x.t, .int .i64 x.a] 53 (0, 0)) := World.alloc_heap_new wr _
                go_wp2
                generalize wr.alloc (.cells #[.int .i64 x.k, .string x.t, .int .i64 x.a] 53) = W1 at hqb hqn ⊢
                refine wp_region_still_tail 9 (by kernel_rfl) (by kernel_rfl) ?_
                change wpStill _ _ W1.drew (fun a' => wpList _ _ _ _ a' W1.drew) _ _
                have hqb2 : Below wr.heap.size wr W1.drew := hqb.drew
                have hqn2 : W1.drew.heap[wr.heap.size]? = some (.cells #[.int .i64 x.k, .string x.t, .int .i64 x.a] 53 (0, 0)) := hqn
                generalize W1.drew = W2 at hqb2 hqn2 ⊢
                have hbl : b < wr.heap.size := by have := hb2.size; omega
                have hy1b := (hTy.below hqb2 hbl).k
                have hy2b := (hTy.below hqb2 hbl).t
                have hy3b := (hTy.below hqb2 hbl).a
                have hx1b : W2.cell? ⟨wr.heap.size, 0, none⟩ = some (.int .i64 x.k) := by rw [Lib.cell_of_heap hqn2]; rfl
                have hx2b : W2.cell? ⟨wr.heap.size, 1, none⟩ = some (.string x.t) := by rw [Lib.cell_of_heap hqn2]; rfl
                have hx3b : W2.cell? ⟨wr.heap.size, 2, none⟩ = some (.int .i64 x.a) := by rw [Lib.cell_of_heap hqn2]; rfl
                have hAW2 := hAW W2 hqb2
                have hsz2 : wr.heap.size < W2.heap.size := (Array.getElem?_eq_some_iff.1 hqn2).1
                have hq1g : ∀ W3, Below W2.heap.size W2 W3 → Below wr.heap.size wr W3 := fun W3 h => hqb2.trans (h.mono (Nat.le_of_lt hsz2))
                have hq2g : ∀ W3, Below W2.heap.size W2 W3 → W3.heap[wr.heap.size]? = some (.cells #[.int .i64 x.k, .string x.t, .int .i64 x.a] 53 (0, 0)) := fun W3 h => (h.block _ hsz2).trans hqn2
                have hcg : ∀ W3 : World, W3.heap[wr.heap.size]? = some (.cells #[.int .i64 x.k, .string x.t, .int .i64 x.a] 53 (0, 0)) → W3.cell? ⟨wr.heap.size, 1, none⟩ = some (.string x.t) := fun W3 h => by rw [Lib.cell_of_heap h]; rfl
                have hxs := right_size x (firstErr_zero l hF x (List.mem_of_getElem? hx))
                have hWSg : ∀ W, Lib.IsBuilderF 67 5 B B (Lib.byteCells out) W → B ≤ W.heap.size → Calls Tryd.prog 47 #[.pointer (some ⟨B, 0, none⟩), .string x.t] W fun e w' => e = .returned (.tuple #[.int .i64 x.t.size, .nilIface]) ∧ (Lib.BuilderAtF 67 5 B B (.pointer (some ⟨B, 0, none⟩)) (Lib.byteCells out ++ Lib.strCells x.t) w' ∧ Below B W w' ∧ Lib.OthersKept 5 (some B) W w') :=
                  fun W h1 h2 => writeString47 B B _ x.t W h1 (by simp only [Lib.byteCells_length, List.length_append, List.length_cons, List.length_nil]; omega) h2
                have hLg : ∀ W2, Lib.BuilderAtF 67 5 B B (.pointer (some ⟨B, 0, none⟩)) (Lib.byteCells out ++ Lib.strCells x.t) W2 → Calls Tryd.prog 48 #[.pointer (some ⟨B, 0, none⟩)] W2 fun e w' => e = .returned (.int .i64 (out ++ x.t.data.toList).length) ∧ w' = W2 := by
                  intro W2 hb
                  have := Tryd.Builder_Len_f B B (Lib.byteCells (out ++ x.t.data.toList)) W2 (by rw [Lib.byteCells_append, ← Lib.strCells_eq]; exact .inr hb)
                  rw [Lib.byteCells_length] at this
                  exact this
                have hwI : IntKind.i64.wrap (J1 - 1) = (k : Int) := by rw [IntWalk.i64_left]; exact hwJ
                have hJ1 : joinOut (prevT l (k + 1)) (x :: l.drop (k + 1 + 1)) out = if 65536 < (out ++ x.t.data.toList).length then none else joinOut (some x) (l.drop (k + 1 + 1)) (out ++ x.t.data.toList) := by
                  rw [show prevT l (k + 1) = some y from hy]
                  simp only [joinOut, hab, if_true, if_false, Bool.false_eq_true]
                clear hwJ
                simp only [List.take_succ_cons, List.take_zero, List.drop_succ_cons, List.drop_zero]
                repeat still_step
                refine wpStill_nil ?_
                clear hwI hm2 hk1 hk2 hk3 hk4 hk5 hJ0 hJlt hJn hJg hk0
                by_cases hlg : 65536 < (out ++ x.t.data.toList).length
                · have hlg' : ((out ++ x.t.data.toList).length : Int) > 65536 := by omega
                  generalize (out ++ x.t.data.toList).length = L1 at hLg hlg'
                  go_wp2_with (first
                    | (go_at_call 45; refine hAW2.mono ?_; rintro ee W3 ⟨rfl, hA3⟩; have hq1 := hq1g W3 hA3; have hq2 := hq2g W3 hA3; have hcx := hcg W3 hq2; have hq3 := builder_below hBd hq1; have hq4 : B ≤ W3.heap.size := Nat.le_trans (Nat.le_of_lt hBs) hq1.size)
                    | (go_at_call 47; refine (hWSg _ hq3 hq4).mono ?_; rintro e W5 ⟨rfl, hs1, hs2, hs3⟩)
                    | (go_at_call 48; refine (hLg _ hs1).mono ?_; rintro e W6 ⟨rfl, rfl⟩))
                  exact hlong hF ht (by rw [← hJ, hJ1, if_pos hlg]) _ (hb2.trans ((hq1.mono hb2.size).trans (hs2.mono hwB)))
                · have hlg' : ¬ ((out ++ x.t.data.toList).length : Int) > 65536 := by omega
                  obtain ⟨L1, hL1⟩ : ∃ n, (out ++ x.t.data.toList).length = n := ⟨_, rfl⟩
                  rw [hL1] at hLg hlg'
                  go_wp2_with (first
                    | (go_at_call 45; refine hAW2.mono ?_; rintro ee W3 ⟨rfl, hA3⟩; have hq1 := hq1g W3 hA3; have hq2 := hq2g W3 hA3; have hcx := hcg W3 hq2; have hq3 := builder_below hBd hq1; have hq4 : B ≤ W3.heap.size := Nat.le_trans (Nat.le_of_lt hBs) hq1.size)
                    | (go_at_call 47; refine (hWSg _ hq3 hq4).mono ?_; rintro e W5 ⟨rfl, hs1, hs2, hs3⟩)
                    | (go_at_call 48; refine (hLg _ hs1).mono ?_; rintro e W6 ⟨rfl, rfl⟩))
                  go_roundw
                  case rel =>
                    refine ⟨k + 1 + 1, out ++ x.t.data.toList, ?_, by omega, ?_, by omega, ?_, hb2.trans ((hq1.mono hb2.size).trans (hs2.mono hwB)), by have := hs2.size; have := hq1.size; omega⟩
                    · rw [← hJe]; rfl
                    · rw [show prevT l (k + 1 + 1) = some x from hx, ← hJ, hJ1, if_neg hlg]
                    · rw [Lib.byteCells_append, ← Lib.strCells_eq]; exact .inr hs1
                  case measure => rw [← hJe]; simp [RowKit.intOf]; omega
              · rw [hab] at hAW
                have hqb : Below wr.heap.size wr (wr.alloc (.cells #[.int .i64 x.k, .string x.t, .int .i64 x.a] 53)) := (Below.refl _ wr).alloc (Nat.le_refl _) _
                have hqn : (wr.alloc (.cells #[.int .i64 x.k, .string x.t, .int .i64 x.a] 53)).heap[wr.heap.size]? = some (.cells #[.int .i64 x.k, .string x.t, .int .i64 x.a] 53 (0, 0)) := World.alloc_heap_new wr _
                go_wp2
                generalize wr.alloc (.cells #[.int .i64 x.k, .string x.t, .int .i64 x.a] 53) = W1 at hqb hqn ⊢
                refine wp_region_still_tail 9 (by kernel_rfl) (by kernel_rfl) ?_
                change wpStill _ _ W1.drew (fun a' => wpList _ _ _ _ a' W1.drew) _ _
                have hqb2 : Below wr.heap.size wr W1.drew := hqb.drew
                have hqn2 : W1.drew.heap[wr.heap.size]? = some (.cells #[.int .i64 x.k, .string x.t, .int .i64 x.a] 53 (0, 0)) := hqn
                generalize W1.drew = W2 at hqb2 hqn2 ⊢
                have hbl : b < wr.heap.size := by have := hb2.size; omega
                have hy1b := (hTy.below hqb2 hbl).k
                have hy2b := (hTy.below hqb2 hbl).t
                have hy3b := (hTy.below hqb2 hbl).a
                have hx1b : W2.cell? ⟨wr.heap.size, 0, none⟩ = some (.int .i64 x.k) := by rw [Lib.cell_of_heap hqn2]; rfl
                have hx2b : W2.cell? ⟨wr.heap.size, 1, none⟩ = some (.string x.t) := by rw [Lib.cell_of_heap hqn2]; rfl
                have hx3b : W2.cell? ⟨wr.heap.size, 2, none⟩ = some (.int .i64 x.a) := by rw [Lib.cell_of_heap hqn2]; rfl
                have hAW2 := hAW W2 hqb2
                have hsz2 : wr.heap.size < W2.heap.size := (Array.getElem?_eq_some_iff.1 hqn2).1
                have hq1g : ∀ W3, Below W2.heap.size W2 W3 → Below wr.heap.size wr W3 := fun W3 h => hqb2.trans (h.mono (Nat.le_of_lt hsz2))
                have hq2g : ∀ W3, Below W2.heap.size W2 W3 → W3.heap[wr.heap.size]? = some (.cells #[.int .i64 x.k, .string x.t, .int .i64 x.a] 53 (0, 0)) := fun W3 h => (h.block _ hsz2).trans hqn2
                have hcg : ∀ W3 : World, W3.heap[wr.heap.size]? = some (.cells #[.int .i64 x.k, .string x.t, .int .i64 x.a] 53 (0, 0)) → W3.cell? ⟨wr.heap.size, 1, none⟩ = some (.string x.t) := fun W3 h => by rw [Lib.cell_of_heap h]; rfl
                have hxs := right_size x (firstErr_zero l hF x (List.mem_of_getElem? hx))
                have hWSg : ∀ W, Lib.IsBuilderF 67 5 B B (Lib.byteCells (out ++ [32])) W → B ≤ W.heap.size → Calls Tryd.prog 47 #[.pointer (some ⟨B, 0, none⟩), .string x.t] W fun e w' => e = .returned (.tuple #[.int .i64 x.t.size, .nilIface]) ∧ (Lib.BuilderAtF 67 5 B B (.pointer (some ⟨B, 0, none⟩)) (Lib.byteCells (out ++ [32]) ++ Lib.strCells x.t) w' ∧ Below B W w' ∧ Lib.OthersKept 5 (some B) W w') :=
                  fun W h1 h2 => writeString47 B B _ x.t W h1 (by simp only [Lib.byteCells_length, List.length_append, List.length_cons, List.length_nil]; omega) h2
                have hLg : ∀ W2, Lib.BuilderAtF 67 5 B B (.pointer (some ⟨B, 0, none⟩)) (Lib.byteCells (out ++ [32]) ++ Lib.strCells x.t) W2 → Calls Tryd.prog 48 #[.pointer (some ⟨B, 0, none⟩)] W2 fun e w' => e = .returned (.int .i64 (out ++ [32] ++ x.t.data.toList).length) ∧ w' = W2 := by
                  intro W2 hb
                  have := Tryd.Builder_Len_f B B (Lib.byteCells (out ++ [32] ++ x.t.data.toList)) W2 (by rw [Lib.byteCells_append, ← Lib.strCells_eq]; exact .inr hb)
                  rw [Lib.byteCells_length] at this
                  exact this
                have hwI : IntKind.i64.wrap (J1 - 1) = (k : Int) := by rw [IntWalk.i64_left]; exact hwJ
                have hJ1 : joinOut (prevT l (k + 1)) (x :: l.drop (k + 1 + 1)) out = if 65536 < (out ++ [32] ++ x.t.data.toList).length then none else joinOut (some x) (l.drop (k + 1 + 1)) (out ++ [32] ++ x.t.data.toList) := by
                  rw [show prevT l (k + 1) = some y from hy]
                  simp only [joinOut, hab, if_true, if_false, Bool.false_eq_true]
                clear hwJ
                simp only [List.take_succ_cons, List.take_zero, List.drop_succ_cons, List.drop_zero]
                repeat still_step
                refine wpStill_nil ?_
                clear hwI hm2 hk1 hk2 hk3 hk4 hk5 hJ0 hJlt hJn hJg hk0
                by_cases hlg : 65536 < (out ++ [32] ++ x.t.data.toList).length
                · have hlg' : ((out ++ [32] ++ x.t.data.toList).length : Int) > 65536 := by omega
                  generalize (out ++ [32] ++ x.t.data.toList).length = L1 at hLg hlg'
                  go_wp2_with (first
                    | (go_at_call 45; refine hAW2.mono ?_; rintro ee W3 ⟨rfl, hA3⟩; have hq1 := hq1g W3 hA3; have hq2 := hq2g W3 hA3; have hcx := hcg W3 hq2; have hq3 := builder_below hBd hq1; have hq4 : B ≤ W3.heap.size := Nat.le_trans (Nat.le_of_lt hBs) hq1.size)
                    | (go_at_call 46; refine (writeByte46 B B (Lib.byteCells out) 32 _ hq3 (by rw [Lib.byteCells_length]; omega) hq4).mono ?_; rintro e W4 ⟨rfl, hv1, hv2, hv3⟩; have hcx4 := hcg W4 (hv3 _ _ hq2 (by simpa using Nat.ne_of_gt hBs) (by rintro c fz e; cases e)); have hv4 : Lib.IsBuilderF 67 5 B B (Lib.byteCells (out ++ [32])) W4 := by (rw [Lib.byteCells_append]; exact .inr hv1))
                    | (go_at_call 47; refine (hWSg _ hv4 (Nat.le_trans hq4 hv2.size)).mono ?_; rintro e W5 ⟨rfl, hs1, hs2, hs3⟩)
                    | (go_at_call 48; refine (hLg _ hs1).mono ?_; rintro e W6 ⟨rfl, rfl⟩))
                  exact hlong hF ht (by rw [← hJ, hJ1, if_pos hlg]) _ (hb2.trans ((hq1.mono hb2.size).trans ((hv2.mono hwB).trans (hs2.mono hwB))))
                · have hlg' : ¬ ((out ++ [32] ++ x.t.data.toList).length : Int) > 65536 := by omega
                  obtain ⟨L1, hL1⟩ : ∃ n, (out ++ [32] ++ x.t.data.toList).length = n := ⟨_, rfl⟩
                  rw [hL1] at hLg hlg'
                  go_wp2_with (first
                    | (go_at_call 45; refine hAW2.mono ?_; rintro ee W3 ⟨rfl, hA3⟩; have hq1 := hq1g W3 hA3; have hq2 := hq2g W3 hA3; have hcx := hcg W3 hq2; have hq3 := builder_below hBd hq1; have hq4 : B ≤ W3.heap.size := Nat.le_trans (Nat.le_of_lt hBs) hq1.size)
                    | (go_at_call 46; refine (writeByte46 B B (Lib.byteCells out) 32 _ hq3 (by rw [Lib.byteCells_length]; omega) hq4).mono ?_; rintro e W4 ⟨rfl, hv1, hv2, hv3⟩; have hcx4 := hcg W4 (hv3 _ _ hq2 (by simpa using Nat.ne_of_gt hBs) (by rintro c fz e; cases e)); have hv4 : Lib.IsBuilderF 67 5 B B (Lib.byteCells (out ++ [32])) W4 := by (rw [Lib.byteCells_append]; exact .inr hv1))
                    | (go_at_call 47; refine (hWSg _ hv4 (Nat.le_trans hq4 hv2.size)).mono ?_; rintro e W5 ⟨rfl, hs1, hs2, hs3⟩)
                    | (go_at_call 48; refine (hLg _ hs1).mono ?_; rintro e W6 ⟨rfl, rfl⟩))
                  go_roundw
                  case rel =>
                    refine ⟨k + 1 + 1, out ++ [32] ++ x.t.data.toList, ?_, by omega, ?_, by omega, ?_, hb2.trans ((hq1.mono hb2.size).trans ((hv2.mono hwB).trans (hs2.mono hwB))), by have := hs2.size; have := hv2.size; have := hq1.size; omega⟩
                    · rw [← hJe]; rfl
                    · rw [show prevT l (k + 1 + 1) = some x from hx, ← hJ, hJ1, if_neg hlg]
                    · rw [Lib.byteCells_append, ← Lib.strCells_eq]; exact .inr hs1
                  case measure => rw [← hJe]; simp [RowKit.intOf]; omega
          · have hj1 : ¬ (j : Int) < l.length := by omega
            have hS := Tryd.Builder_String_any_k B B out wr hBd (by omega)
            go_wp2_with (go_at_call 49; refine hS.mono ?_; rintro e w3 ⟨rfl, hb4, hw4, ho4⟩)
            rw [List.drop_eq_nil_of_le (by omega)] at hJ
            have hJ2 : joinOut none l [] = some out := by rw [← hJ]; cases prevT l j <;> rfl
            exact hdone out hF ht hJ2 _ (hb2.trans (hw4.mono hBle))
      · have ht' : ¬ z.t = ByteArray.empty := by rintro e; rw [e] at ht; exact ht rfl
        have hie : z.t.toList.isEmpty = false := by
          rw [ByteArray.toList_eq]
          cases h : z.t.data.toList with
          | nil => exact absurd h ht
          | cons a r => rfl
        go_wp2
        exact htext hF ht _ hb
end Go.Lx
