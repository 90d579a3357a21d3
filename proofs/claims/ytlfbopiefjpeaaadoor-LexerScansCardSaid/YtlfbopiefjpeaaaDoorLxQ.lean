/- The lexer's Strip, by the walk. -/
import Derived.Test.YtlfbopiefjpeaaaDoorLxO
set_option linter.unusedSimpArgs false
set_option linter.unusedVariables false
namespace Go.Lx
open Go Go.Proofs Go.Shelf Go.RowKit
set_option maxRecDepth 100000
attribute [local go_sem] Oper.semAt_some
/-- A builder stands where neither its own block nor a row of bytes has turned. -/
theorem builder_kept {B b : Nat} {bs : List Value} {w w' : World} {row : Option Nat} (h : Lib.IsBuilderF 67 5 B b bs w) (hg : w.grownBy w' row) (hr : ∀ k, row = some k → k ≠ b ∧ ∀ c fz, w.heap[k]? ≠ some (.cells c 5 fz)) : Lib.IsBuilderF 67 5 B b bs w' := by
  have key : ∀ p, Lib.BuilderAtF 67 5 B b p bs w → Lib.BuilderAtF 67 5 B b p bs w' := by
    intro p h
    have hlt := h.lt
    obtain ⟨hB, v, hb, hown, hne⟩ := h
    refine ⟨hB, v, ?_, hown.kept hg ?_, hne⟩
    · rw [hg.block b hlt ?_]
      · exact hb
      · intro e
        exact (hr b e.symm).1 rfl
    · cases row with
      | none =>
        cases hv : v.ownBlock with
        | none => exact .inl rfl
        | some k => exact .inr (by simp)
      | some k =>
        right
        intro e
        obtain ⟨c, fz, hk⟩ := Lib.ownsRowF_kind hown k e
        exact (hr k rfl).2 c fz hk
  rcases h with h | h
  · exact .inl (key _ h)
  · exact .inr (key _ h)
theorem grown_setCell (W : World) (a : Addr) (v : Value) : W.grownBy (W.setCell a v) (some a.block) := ⟨rfl, rfl, rfl, by simp [World.setCell], fun k _ hk => Below.heap_setCell _ _ _ _ (fun e => hk (by simp [e]))⟩
/-- What holds between two lines. -/
def SInv (w : World) (r : ByteArray) (out : List UInt8) (W : World) : Prop :=
  Lib.IsBuilderF 67 5 w.heap.size w.heap.size (Lib.byteCells out) W ∧ W.heap[w.heap.size + 1]? = some (.cells #[.string r] 9 (0, 0)) ∧ W.heap[w.heap.size + 2]? = some (.cells #[.string ⟨#[10]⟩] 9 (0, 0)) ∧
    W.heap[w.heap.size + 3]? = some (.cells #[.int .i64 1] 3 (0, 0)) ∧ Below w.heap.size w W
theorem SInv.cells {w : World} {r : ByteArray} {out : List UInt8} {W : World} (h : SInv w r out W) :
    W.cell? ⟨w.heap.size + 1, 0, none⟩ = some (.string r) ∧ W.cell? ⟨w.heap.size + 1 + 1, 0, none⟩ = some (.string ⟨#[10]⟩) ∧ W.cell? ⟨w.heap.size + 1 + 2, 0, none⟩ = some (.int .i64 1) ∧ W.frozen? ⟨w.heap.size + 1, 0, none⟩ = false := by
  obtain ⟨_, h1, h2, h3, _⟩ := h
  refine ⟨?_, ?_, ?_, Lib.frozen_of_heap h1 0⟩
  · rw [Lib.cell_of_heap h1]; rfl
  · rw [Lib.cell_of_heap h2]; rfl
  · rw [Lib.cell_of_heap (b := w.heap.size + 1 + 2) h3]; rfl
theorem SInv.grown {w : World} {r : ByteArray} {out : List UInt8} {W W' : World} {row : Option Nat} (h : SInv w r out W) (hg : W.grownBy W' row)
    (hr : ∀ k, row = some k → w.heap.size ≤ k ∧ ∃ o, W.heap[k]? = some o ∧ o.isCells = false) : SInv w r out W' := by
  obtain ⟨h0, h1, h2, h3, h4⟩ := h
  have key : ∀ (j : Nat) (c : Array Value) (t : TypeId) (fz : Nat × Nat), W.heap[j]? = some (.cells c t fz) → W'.heap[j]? = some (.cells c t fz) := by
    intro j c t fz e
    rw [hg.block j (Array.getElem?_eq_some_iff.1 e).1 ?_]
    · exact e
    · intro e2
      obtain ⟨_, o, ho, hc⟩ := hr j e2.symm
      rw [e] at ho
      cases ho
      cases hc
  refine ⟨builder_kept h0 hg fun k e => ?_, key _ _ _ _ h1, key _ _ _ _ h2, key _ _ _ _ h3, h4.grown hg h4.size (fun k e => (hr k e).1)⟩
  obtain ⟨_, o, ho, hc⟩ := hr k e
  constructor
  · rintro rfl
    have hb : ∃ v p, W.heap[w.heap.size]? = some (.cells #[p, v] 67 (0, 0)) := by
      rcases h0 with ⟨_, v, hb, _⟩ | ⟨_, v, hb, _⟩
      · exact ⟨_, _, hb⟩
      · exact ⟨_, _, hb⟩
    obtain ⟨v, p, hb⟩ := hb
    rw [hb] at ho
    cases ho
    cases hc
  · intro c fz e2
    rw [e2] at ho
    cases ho
    cases hc
theorem SInv.next {w : World} {r r' : ByteArray} {out : List UInt8} {W : World} (h : SInv w r out W) : SInv w r' out (W.setCell ⟨w.heap.size + 1, 0, none⟩ (.string r')) := by
  obtain ⟨h0, h1, h2, h3, h4⟩ := h
  refine ⟨builder_kept h0 (grown_setCell _ _ _) fun k e => ?_, ?_, (Below.heap_setCell _ _ _ _ (by simp only; omega)).trans h2, (Below.heap_setCell _ _ _ _ (by simp only; omega)).trans h3, h4.setCell (p := ⟨w.heap.size + 1, 0, none⟩) (by simp only; omega) _⟩
  · cases e
    refine ⟨by simp only; omega, fun c fz e => ?_⟩
    simp only at e
    rw [h1] at e
    cases e
  · simp [World.setCell, Array.getElem?_modify, h1]
theorem SInv.wrote {w : World} {r : ByteArray} {out out' : List UInt8} {W W' : World} {p : Value} (h : SInv w r out W) (hb : Lib.BuilderAtF 67 5 w.heap.size w.heap.size (.pointer (some ⟨w.heap.size, 0, none⟩)) (Lib.byteCells out') W') (hw : Below w.heap.size W W')
    (ho : Lib.OthersKept 5 (some w.heap.size) W W') : SInv w r out' W' ∧ KeepsOthers W W' := by
  obtain ⟨h0, h1, h2, h3, h4⟩ := h
  refine ⟨⟨.inr hb, ho _ _ h1 (by simp) (by rintro c fz e; cases e), ho _ _ h2 (by simp) (by rintro c fz e; cases e), ho _ _ h3 (by simp) (by rintro c fz e; cases e), h4.trans hw⟩, hw.size, fun k o hk hc => ho k o hk ?_ ?_⟩
  · intro e
    simp only [Option.some.injEq] at e
    subst e
    have hb : ∃ v p, W.heap[w.heap.size]? = some (.cells #[p, v] 67 (0, 0)) := by
      rcases h0 with ⟨_, v, hb, _⟩ | ⟨_, v, hb, _⟩
      · exact ⟨_, _, hb⟩
      · exact ⟨_, _, hb⟩
    obtain ⟨v, p, hb⟩ := hb
    rw [hb] at hk
    cases hk
    cases hc
  · intro c fz e
    subst e
    cases hc
end Go.Lx
namespace Go.Lx
open Go Go.Proofs Go.Shelf Go.RowKit
set_option maxRecDepth 100000
attribute [local go_sem] Oper.semAt_some
set_option maxHeartbeats 4000000 in
theorem strip26_long (s : ByteArray) (hs : 65536 < s.size) (w : World) : Calls Tryd.prog 26 #[.string s] w fun e w' => e = .returned (.tuple #[.string ⟨#[]⟩, .int .i64 13]) ∧ w' = w := by
  have h1 : (65536 : Int) < s.size := by omega
  go_enter Tryd.func26, Tryd.ntmps26
  go_wp2
  go_ret2
  exact ⟨rfl, rfl⟩
theorem boxes_size (s p : ByteArray) (w : World) : (boxes s p w).heap.size = w.heap.size + 3 := by simp [boxes, World.size_alloc]
theorem boxes_at0 (s p : ByteArray) (w : World) : (boxes s p w).heap[w.heap.size]? = some (.cells #[.string s] 9 (0, 0)) := by
  unfold boxes
  rw [Lib.alloc_old _ _ _ (by rw [World.size_alloc, World.size_alloc]; omega), Lib.alloc_old _ _ _ (by rw [World.size_alloc]; omega), World.alloc_heap_new]
theorem boxes_at1 (s p : ByteArray) (w : World) : (boxes s p w).heap[w.heap.size + 1]? = some (.cells #[.string p] 9 (0, 0)) := by
  unfold boxes
  have := World.alloc_heap_new (w.alloc (.cells #[.string s] 9)) (.cells #[.string p] 9)
  rw [World.size_alloc] at this
  rw [Lib.alloc_old _ _ _ (by rw [World.size_alloc, World.size_alloc]; omega), this]
theorem boxes_at2 (s p : ByteArray) (w : World) : (boxes s p w).heap[w.heap.size + 2]? = some (.cells #[.int .i64 p.size] 3 (0, 0)) := by
  unfold boxes
  have := World.alloc_heap_new ((w.alloc (.cells #[.string s] 9)).alloc (.cells #[.string p] 9)) (.cells #[.int .i64 p.size] 3)
  rw [World.size_alloc, World.size_alloc] at this
  exact this
set_option maxHeartbeats 4000000 in
theorem strip26_calls (s : ByteArray) (hs : s.size ≤ 65536) (w : World) : Calls Tryd.prog 26 #[.string s] w fun e w' => e = .returned (.tuple #[.string ⟨(linesOut (s.size + 1) s.data.toList).toArray⟩, .int .i64 0]) ∧ Below w.heap.size w w' := by
  refine (callsIn_wide (n := 5)).1 ?_
  refine callsIn_of_wp_marks Tryd.func26 rfl trivial ?_ rfl
  simp only [Tryd.ntmps26, List.size_toArray, List.length_cons, List.length_nil, Nat.reduceAdd, Nat.reduceSub, Array.replicate_succ, Array.replicate_zero, List.push_toArray, List.append_toArray, List.nil_append, List.cons_append]
  have h1 : ¬ (65536 : Int) < s.size := by omega
  gi_wp2_with (refine ⟨trivial, ?_⟩; gi_at_call 58; refine (callsIn_wide.2 (splitAfter58 s ⟨#[10]⟩ _)).mono ?_; rintro e w1 ⟨rfl, rfl⟩)
  have hb1 := Lib.alloc_old (w.alloc (.cells #[.pointer none, .slice none 0 0] 67)) (.cells #[.string s] 9)
  have hfr : Lib.IsBuilderF 67 5 w.heap.size w.heap.size [] (w.alloc (.cells #[.pointer none, .slice none 0 0] 67)) := Lib.IsBuilderF.of (Lib.fresh_isBuilder 67 5 w)
  refine wpIn_lines (n := 5) (by omega) s hs (w.heap.size + 1) (by simp [Act.eval, World.size_alloc]) rfl (by simp [boxes, World.size_alloc]) (SInv w) (fun r out W h => h.cells) (fun r r' out W h => h.next)
    (fun r out W k o o' h hk ho hc => h.grown (grownBy_putObj' W k o') (fun j e => by cases e; exact ⟨by simp [boxes, World.size_alloc] at hk; omega, o, ho, hc⟩))
    ?h0 (fun x => { tmps := #[.string s, undef, .string ⟨#[]⟩, .int .i64 0, .pointer (some ⟨w.heap.size, 0, none⟩), .string x, undef, .string s, .int .i64 s.size, .bool false, .string s,
      .func (.func 96) #[] #[.pointer (some ⟨w.heap.size + 1 + 1, 0, none⟩), .pointer (some ⟨w.heap.size + 1, 0, none⟩), .pointer (some ⟨w.heap.size + 1 + 2, 0, none⟩)], .string x, undef, undef, undef, undef, undef, undef, undef, undef, undef, undef, undef, undef, undef, undef], defers := [] }) ?assign ?body ?done
  case h0 =>
    intro o
    refine ⟨((((hfr.alloc _).alloc _).alloc _).alloc _).alloc _, ?_, ?_, ?_, ?_⟩
    · have := boxes_at0 s ⟨#[10]⟩ (w.alloc (.cells #[.pointer none, .slice none 0 0] 67))
      rw [World.size_alloc] at this
      rw [Lib.alloc_old _ _ _ (by rw [World.size_alloc, boxes_size, World.size_alloc]; omega), Lib.alloc_old _ _ _ (by rw [boxes_size, World.size_alloc]; omega), this]
    · have := boxes_at1 s ⟨#[10]⟩ (w.alloc (.cells #[.pointer none, .slice none 0 0] 67))
      rw [World.size_alloc] at this
      rw [Lib.alloc_old _ _ _ (by rw [World.size_alloc, boxes_size, World.size_alloc]; omega), Lib.alloc_old _ _ _ (by rw [boxes_size, World.size_alloc]; omega), this]
    · have := boxes_at2 s ⟨#[10]⟩ (w.alloc (.cells #[.pointer none, .slice none 0 0] 67))
      rw [World.size_alloc] at this
      rw [Lib.alloc_old _ _ _ (by rw [World.size_alloc, boxes_size, World.size_alloc]; omega), Lib.alloc_old _ _ _ (by rw [boxes_size, World.size_alloc]; omega), this]
      rfl
    · refine (((((((Below.refl _ w).alloc (Nat.le_refl _) _).alloc ?_ _).alloc ?_ _).alloc ?_ _).alloc ?_ _).alloc ?_ _) <;> simp [boxes, World.size_alloc] <;> omega
  case assign =>
    intro l x W K hK
    gi_wp2
    simpa [World.size_alloc] using hK
  case body =>
    intro l r out x W hI hlen
    have hix := Tryd.strings_IndexByte x 35 W
    have hig := Lib.indexByte_ge x.data.toList 35
    have hil := indexByte_lt x.data.toList 35
    have hcc : (35 : Int).toNat.toUInt8 = (35 : UInt8) := rfl
    rw [hcc] at hix
    have hlo : lineOf x.data.toList = if Lib.indexByte x.data.toList 35 < 0 then x.data.toList else x.data.toList.take (Lib.indexByte x.data.toList 35).toNat ++ (if Lib.hasSuffix x.data.toList [10] = true then [10] else []) := rfl
    rw [hlo]
    obtain ⟨i, hi⟩ : ∃ i, Lib.indexByte x.data.toList 35 = i := ⟨_, rfl⟩
    rw [hi] at hix hig hil ⊢
    by_cases hneg : i < 0
    · rw [if_pos hneg]
      have hw := writeString47 w.heap.size w.heap.size (Lib.byteCells out) x W hI.1 (by rw [Lib.byteCells_length]; omega) hI.2.2.2.2.size
      gi_wp2_with (first
        | (refine ⟨trivial, ?_⟩; gi_at_call 59; refine (CallsIn.inRound l (callsIn_wide.2 hix)).mono ?_; rintro e w1 ⟨rfl, rfl⟩)
        | (refine ⟨trivial, ?_⟩; gi_at_call 47; refine (CallsIn.inRound l (callsIn_wide.2 hw)).mono ?_; rintro e w1 ⟨rfl, hb2, hw2, ho2⟩))
      have hq := hI.wrote (out' := out ++ x.data.toList) (p := .nilIface) (by rw [Lib.byteCells_append, ← Lib.strCells_eq]; exact hb2) hw2 ho2
      exact ⟨hq.2, hq.1⟩
    · rw [if_neg hneg]
      have hpos : 0 ≤ i := by omega
      have hlt : i < x.size := by
        rcases hil with h | ⟨_, h⟩
        · simpa using h
        · omega
      have hx : (x.extract 0 i.toNat).data.toList = x.data.toList.take i.toNat := by
        simp [ByteArray.data_extract, List.extract_eq_take_drop]
      have hz : (x.extract 0 i.toNat).size = i.toNat := by rw [ByteArray.size_extract]; omega
      have hw := writeString47 w.heap.size w.heap.size (Lib.byteCells out) (x.extract 0 i.toNat) W hI.1 (by rw [Lib.byteCells_length, hz]; omega) hI.2.2.2.2.size
      have hbd : 0 ≤ i ∧ i ≤ x.size := by omega
      gi_wp2_with (first
        | (refine ⟨trivial, ?_⟩; gi_at_call 59; refine (CallsIn.inRound l (callsIn_wide.2 hix)).mono ?_; rintro e w1 ⟨rfl, rfl⟩)
        | (refine ⟨trivial, ?_⟩; gi_at_call 47; refine (CallsIn.inRound l (callsIn_wide.2 hw)).mono ?_; rintro e w1 ⟨rfl, hb2, hw2, ho2⟩))
      have hq := hI.wrote (out' := out ++ x.data.toList.take i.toNat) (p := .nilIface) (by rw [Lib.byteCells_append, ← hx, ← Lib.strCells_eq]; exact hb2) hw2 ho2
      have hsf := Tryd.strings_HasSuffix x ⟨#[10]⟩ w1 (by omega)
      have hsl : (⟨#[10]⟩ : ByteArray).data.toList = [10] := rfl
      rw [hsl] at hsf
      cases hh : Lib.hasSuffix x.data.toList [10]
      · rw [hh] at hsf
        gi_wp2_with (refine ⟨trivial, ?_⟩; gi_at_call 60; refine (CallsIn.inRound l (callsIn_wide.2 hsf)).mono ?_; rintro e w2 ⟨rfl, rfl⟩)
        all_goals (simp only [List.append_nil, Bool.false_eq_true, if_false]; exact ⟨hq.2, hq.1⟩)
      · rw [hh] at hsf
        have hwb := writeByte46 w.heap.size w.heap.size (Lib.byteCells (out ++ x.data.toList.take i.toNat)) 10 w1 hq.1.1 (by rw [Lib.byteCells_length, List.length_append, List.length_take]; omega) hq.1.2.2.2.2.size
        gi_wp2_with (first
          | (refine ⟨trivial, ?_⟩; gi_at_call 60; refine (CallsIn.inRound l (callsIn_wide.2 hsf)).mono ?_; rintro e w2 ⟨rfl, rfl⟩)
          | (refine ⟨trivial, ?_⟩; gi_at_call 46; refine (CallsIn.inRound l (callsIn_wide.2 hwb)).mono ?_; rintro e w2 ⟨rfl, hb3, hw3, ho3⟩))
        have hq2 := hq.1.wrote (out' := out ++ x.data.toList.take i.toNat ++ [10]) (p := .nilIface) (by rw [Lib.byteCells_append]; exact hb3) hw3 ho3
        simp only [if_true, ← List.append_assoc]
        exact ⟨hq.2.trans hq2.2, hq2.1⟩
  case done =>
    intro D r W hDl hI hD
    rw [boxes_size, World.size_alloc] at hDl
    have hB := hI.2.2.2.2
    have hS := Tryd.Builder_String_any_k w.heap.size w.heap.size (linesOut (s.size + 1) s.data.toList) W hI.1 hB.size
    gi_wp2_with (refine ⟨trivial, ?_⟩; gi_at_call 49; refine (callsIn_wide.2 hS).mono ?_; rintro e w1 ⟨rfl, hb2, hw2, ho2⟩)
    have hdn : D ≠ w.heap.size := by
      rintro rfl
      have hb : ∃ v p, W.heap[w.heap.size]? = some (.cells #[p, v] 67 (0, 0)) := by
        rcases hI.1 with ⟨_, v, hb, _⟩ | ⟨_, v, hb, _⟩
        · exact ⟨_, _, hb⟩
        · exact ⟨_, _, hb⟩
      obtain ⟨v, p, hb⟩ := hb
      rw [hb] at hD
      cases hD
    have hD2 := ho2 D _ hD (by simpa using hdn) (by rintro c fz e; cases e)
    refine ⟨by simp, .inl ⟨_, _, rfl, run_takeDeferred hD2, ?_⟩⟩
    exact ⟨_, results_tmp2 rfl _ _ _, rfl, (hB.trans hw2).grown (grownBy_putObj' w1 D _) (hB.trans hw2).size (fun j e => by cases e; omega)⟩
end Go.Lx
