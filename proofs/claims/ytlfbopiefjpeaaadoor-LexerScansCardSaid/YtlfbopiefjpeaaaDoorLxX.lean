/- The lexer's Join and Strip, as contracts on data. -/
import Derived.Test.YtlfbopiefjpeaaaDoorLxW
import Derived.Test.YtlfbopiefjpeaaaDoorLxQ
set_option linter.unusedSimpArgs false
set_option linter.unusedVariables false
namespace Go.Lx
open Go Go.Sv Go.Proofs Go.Shelf Go.RowKit
set_option maxRecDepth 100000
set_option maxHeartbeats 4000000 in
theorem join16_zero (a : Option Addr) (cap : Nat) (w : World) : Calls Tryd.prog 16 #[.slice a 0 cap] w fun e w' => e = .returned (.tuple #[.string ⟨#[]⟩, .int .i64 20]) ∧ Below w.heap.size w w' := by
  go_enter Tryd.func16, Tryd.ntmps16
  go_wp2
  go_ret2
  exact ⟨rfl, Below.refl _ _⟩
theorem joinOut_len : ∀ (l : List Tk) (p : Option Tk) (out s : List UInt8), out.length ≤ 65536 → joinOut p l out = some s → s.length ≤ 65536 := by
  intro l
  induction l with
  | nil => intro p out s h e; cases p <;> (simp only [joinOut, Option.some.injEq] at e; subst e; exact h)
  | cons x r ih =>
    intro p out s h e
    cases p with
    | none =>
      simp only [joinOut] at e
      split at e
      · cases e
      · exact ih _ _ _ (by omega) e
    | some y =>
      have hd : joinOut (some y) (x :: r) out = if 65536 < ((if apartB y x = true then out ++ [32] else out) ++ x.t.data.toList).length then none else joinOut (some x) r ((if apartB y x = true then out ++ [32] else out) ++ x.t.data.toList) := rfl
      rw [hd] at e
      generalize (if apartB y x = true then out ++ [32] else out) = o1 at e
      split at e
      · cases e
      · exact ih _ _ _ (by omega) e
theorem joinM_len (l : List Tk) : (joinM l).1.length ≤ 65536 := by
  unfold joinM
  repeat' split
  all_goals first | (simp only [List.length_nil]; omega) | skip
  rename_i h
  exact joinOut_len _ _ _ _ (by simp) h
theorem arr_mk (l : List UInt8) : ByteArray.size ⟨l.toArray⟩ = l.length := rfl
theorem rd_join (W : World) (i : Nat → Prop) (s : List UInt8) (hs : s.length ≤ 65536) (e : Int) : Rd W i (.tup [.str ⟨s.toArray⟩, .int .i64 e]) (.tuple #[.string ⟨s.toArray⟩, .int .i64 e]) := by
  refine .tup _ _ rfl fun j c h => ?_
  match j, h with
  | 0, h => simp at h; subst h; exact .str _ (by rw [arr_mk]; unfold maxLen; omega)
  | 1, h => simp at h; subst h; exact .int _ _
theorem calls_tok {f : FuncId} {ds : List DV} {vs : Array Value} {r : DV} {v : Value} (hp : PureC E f ds r) (hv : ∀ W i, Rd W i r v) (hu : ∀ W i u, Rd W i r u → u = v) {w : World} {im : Nat → Prop} (h1 : ∀ b, im b → b < w.heap.size) (h2 : GlOk E w im) (h3 : vs.size = ds.length)
    (h4 : ∀ (j : Nat) (d : DV), ds[j]? = some d → Rd w im d (vs.getD j undef)) : Calls Tryd.prog f vs w fun e w' => e = .returned v ∧ Below w.heap.size w w' :=
  (below_of_pure hp h1 h2 h3 h4).mono fun _ _ ⟨u, im', he, hr, _, _, _, hb⟩ => ⟨by rw [he, hu _ _ _ hr], hb⟩
theorem join16 (l : List Tk) (hAp : ∀ (j : Nat) (y x : Tk), l.dropLast[j]? = some y → l.dropLast[j + 1]? = some x → y.t.size ≤ maxLen → x.t.size ≤ maxLen → PureC E 45 [y.d, x.d] (.bool (apartB y x))) :
    PureC E 16 [.sl 3 (l.map Tk.d)] (.tup [.str ⟨(joinM l).1.toArray⟩, .int .i64 (joinM l).2]) := by
  refine pure_below ⟨_, Tryd.func16, rfl, by kernel_rfl⟩ fun w im vs h1 h2 h3 h4 => ?_
  have h0 := h4 0 _ rfl
  rw [arr1 h3]
  generalize vs.getD 0 undef = v at h0 ⊢
  have hlen := joinM_len l
  have fin : ∀ (s : List UInt8) (e : Int), joinM l = (s, e) → ∀ W, Below w.heap.size w W → ∃ v, Ending.returned (.tuple #[.string ⟨s.toArray⟩, .int .i64 e]) = .returned v ∧ (∀ W i, Rd W i (.tup [.str ⟨(joinM l).1.toArray⟩, .int .i64 (joinM l).2]) v) ∧ Below w.heap.size w W := by
    intro s e h W hb
    rw [h] at hlen ⊢
    exact ⟨_, rfl, fun W i => rd_join W i s hlen e, hb⟩
  rcases rd_toks h0 with ⟨rfl, a, rfl⟩ | ⟨b, o, cap, rfl, hcap, hm, him, ht⟩
  · refine (join16_none a w).mono ?_
    rintro e w' ⟨rfl, hb⟩
    exact fin [] 20 rfl w' hb
  · rcases List.eq_nil_or_concat l with rfl | ⟨l0, z, rfl⟩
    · refine (join16_zero _ cap w).mono ?_
      rintro e w' ⟨rfl, hb⟩
      exact fin [] 20 rfl w' hb
    · rw [List.concat_eq_append] at *
      have hz : TokAt w b (o + l0.length * 3) z := ht l0.length z (by simp)
      have hl : ∀ i x, l0[i]? = some x → TokAt w b (o + i * 3) x := fun i x e => ht i x (by rw [List.getElem?_append_left (List.getElem?_eq_some_iff.1 e).1]; exact e)
      have hlt : b < w.heap.size := h1 b (him (by simp))
      have hl0 : (l0 ++ [z]).length = l0.length + 1 := by simp
      rw [hl0] at hcap hm ⊢
      have hdl : (l0 ++ [z]).dropLast = l0 := by simp
      have hgl : (l0 ++ [z]).getLast? = some z := by simp
      rw [hdl] at hAp
      have hj : joinM (l0 ++ [z]) = if z.k ≠ 3 then ([], 20) else if firstErr l0 ≠ 0 then ([], firstErr l0) else if z.t.data.toList ≠ [] then ([], 3) else match joinOut none l0 [] with
          | none => ([], 13)
          | some s => (s, 0) := by unfold joinM; rw [hgl, hdl]; rfl
      by_cases hk : z.k = 3
      · refine join16_some l0 z b o cap w hm hcap hlt hz hl hk ?_ _ ?_ ?_ ?_ ?_ ?_
        · intro x hx W hb
          obtain ⟨i, hi⟩ := List.mem_iff_getElem?.1 hx
          have hsm := (hl i x hi).small
          exact calls_tok (right44 number57 x (by unfold maxLen at hsm; omega)) (v := .int .i64 (rightErr x)) (fun _ _ => .int _ _) (fun _ _ _ h => rd_int h) (vs := #[x.v]) (fun b hb' => Nat.lt_of_lt_of_le (h1 b hb') hb.size) (gl_later h2 h1 hb) rfl
            (fun j d e => by match j, e with | 0, e => simp at e; subst e; exact rd_tok_mk _ _ hsm)
        · intro hF ht' W hb
          exact fin _ _ (by rw [hj, if_neg (by simp [hk]), if_neg (by simp [hF]), if_pos ht']) W hb
        · intro hF ht' hJ W hb
          exact fin _ _ (by rw [hj, if_neg (by simp [hk]), if_neg (by simp [hF]), if_neg (by simp [ht']), hJ]) W hb
        · intro s hF ht' hJ W hb
          exact fin _ _ (by rw [hj, if_neg (by simp [hk]), if_neg (by simp [hF]), if_neg (by simp [ht']), hJ]) W hb
        · intro j y x hy hx W hb
          have hs1 := (hl j y hy).small
          have hs2 := (hl (j + 1) x hx).small
          exact calls_tok (hAp j y x hy hx hs1 hs2) (v := .bool (apartB y x)) (fun _ _ => .bool _) (fun _ _ _ h => by cases h; rfl) (vs := #[y.v, x.v]) (fun b hb' => Nat.lt_of_lt_of_le (h1 b hb') hb.size) (gl_later h2 h1 hb) rfl
            (fun j d e => by match j, e with
              | 0, e => simp at e; subst e; exact rd_tok_mk _ _ hs1
              | 1, e => simp at e; subst e; exact rd_tok_mk _ _ hs2)
        · intro hF W hb
          exact fin _ _ (by rw [hj, if_neg (by simp [hk]), if_pos hF]) W hb
      · refine (join16_open l0 z b o cap w hm hz hk).mono ?_
        rintro e w' ⟨rfl, hb⟩
        exact fin _ _ (by rw [hj, if_pos hk]) w' hb
/-- Strip: the text without its comments, or the error. -/
def stripM (s : ByteArray) : List UInt8 × Int := if 65536 < s.size then ([], 13) else (linesOut (s.size + 1) s.data.toList, 0)
theorem linesOut_len : ∀ (f : Nat) (l : List UInt8), (linesOut f l).length ≤ l.length := by
  intro f
  induction f with
  | zero => intro l; simp [linesOut]
  | succ f ih =>
    intro l
    rw [linesOut_succ]
    split
    · exact lineOf_len l
    · have h1 := lineOf_len (l.take ((Lib.indexByte l 10).toNat + 1))
      have h2 := ih (l.drop ((Lib.indexByte l 10).toNat + 1))
      simp only [List.length_append, List.length_take, List.length_drop] at *
      omega
theorem strip26 (s : ByteArray) : PureC E 26 [.str s] (.tup [.str ⟨(stripM s).1.toArray⟩, .int .i64 (stripM s).2]) := by
  refine pure_below ⟨_, Tryd.func26, rfl, by kernel_rfl⟩ fun w im vs h1 h2 h3 h4 => ?_
  have e0 := rd_str (h4 0 _ rfl)
  rw [arr1 h3, e0.1]
  by_cases h : 65536 < s.size
  · have hm : stripM s = ([], 13) := by simp [stripM, h]
    rw [hm]
    refine (strip26_long s h w).mono ?_
    rintro e w' ⟨rfl, rfl⟩
    exact ⟨_, rfl, fun W i => rd_join W i [] (by simp) 13, Below.refl _ _⟩
  · have hm : stripM s = (linesOut (s.size + 1) s.data.toList, 0) := by simp [stripM, h]
    rw [hm]
    refine (strip26_calls s (by omega) w).mono ?_
    rintro e w' ⟨rfl, hb⟩
    refine ⟨_, rfl, fun W i => rd_join W i _ ?_ 0, hb⟩
    have h1 := linesOut_len (s.size + 1) s.data.toList
    have h2 := size_list s
    exact Nat.le_trans h1 (by omega)
end Go.Lx
