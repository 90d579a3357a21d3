/- The lexer's functions: the error of a number's text. -/
import Derived.Test.YtlfbopiefjpeaaaDoorLxM
import Derived.Test.YtlfbopiefjpeaaaDoorLxJ
import Derived.Lib.DecodeN
set_option linter.unusedSimpArgs false
set_option linter.unusedVariables false
namespace Go.Lx
open Go Go.Sv Go.Proofs Go.RowKit
set_option maxRecDepth 100000
/-- A contract of the library's, as one on data: nothing that lay there turns, the result holds no memory. -/
theorem pure_below {f : FuncId} {ds : List DV} {r : DV} (he : Sv.Enters Tryd.prog f)
    (h : ∀ (w : World) (im : Nat → Prop) (vs : Array Value), (∀ b, im b → b < w.heap.size) → GlOk E w im → vs.size = ds.length → (∀ (j : Nat) (d : DV), ds[j]? = some d → Rd w im d (vs.getD j undef)) →
      Calls Tryd.prog f vs w fun e w' => ∃ v, e = .returned v ∧ (∀ W i, Rd W i r v) ∧ Below w.heap.size w w') : PureC E f ds r := by
  refine ⟨he, fun w im vs h1 h2 h3 h4 => (h w im vs h1 h2 h3 h4).mono ?_⟩
  rintro e w' ⟨v, rfl, hv, hb⟩
  exact ⟨v, im, rfl, hv _ _, fun _ h => h, fun b hb' => Nat.lt_of_lt_of_le (h1 b hb') hb.size, fun b hb' => ⟨hb.block b hb', fun h => h⟩, hb.size, hb.os, hb.tape, hb.output⟩
theorem arr1 {vs : Array Value} (h : vs.size = 1) : vs = #[vs.getD 0 undef] := by
  apply Array.ext
  · simpa using h
  · intro i h1 h2
    have : i = 0 := by simp at h2; omega
    subst this
    simp [Array.getD, h1]
theorem arr2 {vs : Array Value} (h : vs.size = 2) : vs = #[vs.getD 0 undef, vs.getD 1 undef] := by
  apply Array.ext
  · simpa using h
  · intro i h1 h2
    have : i = 0 ∨ i = 1 := by simp at h2; omega
    rcases this with rfl | rfl <;> simp [Array.getD, h1]
theorem rd_str {w : World} {im : Nat → Prop} {s : ByteArray} {v : Value} (h : Rd w im (.str s) v) : v = .string s ∧ s.size ≤ maxLen := by
  cases h with
  | str s h => exact ⟨rfl, h⟩
theorem rd_int {w : World} {im : Nat → Prop} {k : IntKind} {n : Int} {v : Value} (h : Rd w im (.int k n) v) : v = .int k n := by cases h; rfl
theorem rd_fn0 {w : World} {im : Nat → Prop} {f : FuncId} {v : Value} (h : Rd w im (.fn f [] []) v) : v = .func (.func f) #[] #[] := by
  cases h with
  | fn f a b us vs h1 h2 r1 r2 =>
    have e1 : us = #[] := Array.eq_empty_of_size_eq_zero (by simpa using h1)
    have e2 : vs = #[] := Array.eq_empty_of_size_eq_zero (by simpa using h2)
    rw [e1, e2]
def badR (n : Nat) : Bool := decide ((n : Int) < 48) || decide ((n : Int) > 57)
theorem pure81 (n : Nat) : PureC E 81 [.int .i32 n] (.bool (badR n)) := by
  refine pure_of_run mixed orc_none Tryd.func81 (N := 0) (by kernel_rfl) ?_
  by_cases h1 : (n : Int) < 48
  · simp (disch := first | assumption | decide +kernel | omega) only [rRes, rFn, rCode, rOps, rOp, rDef, rCall, okOp, okLs, Op.operands, Call.operands, okO, aop, evalO, ofVal, ofLeaf, ofLeaves, putT, List.set, List.replicate, List.cons_append, List.nil_append, List.append_nil, List.length_cons, List.length_nil, List.map_cons, List.map_nil, List.toList_toArray, Array.toList_append, List.all_cons, List.all_nil, List.all_toArray, Array.all_append, List.getD_cons_zero, List.getD_cons_succ, Bool.and_true, Bool.true_and, Bool.and_false, Bool.false_and, Bool.or_true, Bool.or_false, Bool.not_true, Bool.not_false, Bool.true_or, Bool.false_or, aLen, nilUnk, asRead, asPure, asSet, asPush, Eff.app, Eff.ids, getH, aBin, aInt, aStr, aPick, aIndex, aSlice, bound, resOf, resVars, resVar, drawStatic_ok, pairsOk_ok, fnOf, mapRes, res_d, mapRes_d, DV.flat, DV.flat.flatL, yieldedA, AV.isAgg, decide_true, decide_false, reduceIte, Option.isSome, Option.map, Nat.reduceAdd, Nat.reduceSub, Nat.reduceLT, Nat.reduceBEq, Nat.reduceEqDiff, Nat.zero_add, Option.bind, beq_self_eq_true, reduceCtorEq, BEq.rfl, and_self, or_self, false_or, or_false, true_or, or_true, and_true, true_and, and_false, false_and, ne_eq, not_true_eq_false, not_false_eq_true, Array.size_append, List.size_toArray, List.getElem?_toArray, List.getElem?_cons_zero, List.getElem?_cons_succ, List.getElem?_nil, rLoop, Option.toArray_some, Option.toArray_none, Option.toArray, EP, onRun, freezeL, size_lit, Int.cast_ofNat_Int,  Nat.zero_le, Nat.reduceLeDiff, beq_tf, beq_ft, Int.reduceBEq, Int.reduceBNe, Int.reduceLT, Int.reduceLE, Int.reduceAdd, Int.reduceSub, Int.reduceToNat, List.range, List.range.loop, IntWalk.i64_in, Int.natCast_nonneg,  Tryd.underlying3, Tryd.underlying4, Tryd.underlying5, Tryd.underlying9, Tryd.underlying21, Tryd.underlying23, Tryd.underlying24, Tryd.underlying39, Tryd.underlying53, Tryd.f81, h1]
    simp [badR, h1]
  · by_cases h2 : (n : Int) > 57
    · simp (disch := first | assumption | decide +kernel | omega) only [rRes, rFn, rCode, rOps, rOp, rDef, rCall, okOp, okLs, Op.operands, Call.operands, okO, aop, evalO, ofVal, ofLeaf, ofLeaves, putT, List.set, List.replicate, List.cons_append, List.nil_append, List.append_nil, List.length_cons, List.length_nil, List.map_cons, List.map_nil, List.toList_toArray, Array.toList_append, List.all_cons, List.all_nil, List.all_toArray, Array.all_append, List.getD_cons_zero, List.getD_cons_succ, Bool.and_true, Bool.true_and, Bool.and_false, Bool.false_and, Bool.or_true, Bool.or_false, Bool.not_true, Bool.not_false, Bool.true_or, Bool.false_or, aLen, nilUnk, asRead, asPure, asSet, asPush, Eff.app, Eff.ids, getH, aBin, aInt, aStr, aPick, aIndex, aSlice, bound, resOf, resVars, resVar, drawStatic_ok, pairsOk_ok, fnOf, mapRes, res_d, mapRes_d, DV.flat, DV.flat.flatL, yieldedA, AV.isAgg, decide_true, decide_false, reduceIte, Option.isSome, Option.map, Nat.reduceAdd, Nat.reduceSub, Nat.reduceLT, Nat.reduceBEq, Nat.reduceEqDiff, Nat.zero_add, Option.bind, beq_self_eq_true, reduceCtorEq, BEq.rfl, and_self, or_self, false_or, or_false, true_or, or_true, and_true, true_and, and_false, false_and, ne_eq, not_true_eq_false, not_false_eq_true, Array.size_append, List.size_toArray, List.getElem?_toArray, List.getElem?_cons_zero, List.getElem?_cons_succ, List.getElem?_nil, rLoop, Option.toArray_some, Option.toArray_none, Option.toArray, EP, onRun, freezeL, size_lit, Int.cast_ofNat_Int,  Nat.zero_le, Nat.reduceLeDiff, beq_tf, beq_ft, Int.reduceBEq, Int.reduceBNe, Int.reduceLT, Int.reduceLE, Int.reduceAdd, Int.reduceSub, Int.reduceToNat, List.range, List.range.loop, IntWalk.i64_in, Int.natCast_nonneg,  Tryd.underlying3, Tryd.underlying4, Tryd.underlying5, Tryd.underlying9, Tryd.underlying21, Tryd.underlying23, Tryd.underlying24, Tryd.underlying39, Tryd.underlying53, Tryd.f81, h1, h2]
      simp [badR, h1, h2]
    · simp (disch := first | assumption | decide +kernel | omega) only [rRes, rFn, rCode, rOps, rOp, rDef, rCall, okOp, okLs, Op.operands, Call.operands, okO, aop, evalO, ofVal, ofLeaf, ofLeaves, putT, List.set, List.replicate, List.cons_append, List.nil_append, List.append_nil, List.length_cons, List.length_nil, List.map_cons, List.map_nil, List.toList_toArray, Array.toList_append, List.all_cons, List.all_nil, List.all_toArray, Array.all_append, List.getD_cons_zero, List.getD_cons_succ, Bool.and_true, Bool.true_and, Bool.and_false, Bool.false_and, Bool.or_true, Bool.or_false, Bool.not_true, Bool.not_false, Bool.true_or, Bool.false_or, aLen, nilUnk, asRead, asPure, asSet, asPush, Eff.app, Eff.ids, getH, aBin, aInt, aStr, aPick, aIndex, aSlice, bound, resOf, resVars, resVar, drawStatic_ok, pairsOk_ok, fnOf, mapRes, res_d, mapRes_d, DV.flat, DV.flat.flatL, yieldedA, AV.isAgg, decide_true, decide_false, reduceIte, Option.isSome, Option.map, Nat.reduceAdd, Nat.reduceSub, Nat.reduceLT, Nat.reduceBEq, Nat.reduceEqDiff, Nat.zero_add, Option.bind, beq_self_eq_true, reduceCtorEq, BEq.rfl, and_self, or_self, false_or, or_false, true_or, or_true, and_true, true_and, and_false, false_and, ne_eq, not_true_eq_false, not_false_eq_true, Array.size_append, List.size_toArray, List.getElem?_toArray, List.getElem?_cons_zero, List.getElem?_cons_succ, List.getElem?_nil, rLoop, Option.toArray_some, Option.toArray_none, Option.toArray, EP, onRun, freezeL, size_lit, Int.cast_ofNat_Int,  Nat.zero_le, Nat.reduceLeDiff, beq_tf, beq_ft, Int.reduceBEq, Int.reduceBNe, Int.reduceLT, Int.reduceLE, Int.reduceAdd, Int.reduceSub, Int.reduceToNat, List.range, List.range.loop, IntWalk.i64_in, Int.natCast_nonneg,  Tryd.underlying3, Tryd.underlying4, Tryd.underlying5, Tryd.underlying9, Tryd.underlying21, Tryd.underlying23, Tryd.underlying24, Tryd.underlying39, Tryd.underlying53, Tryd.f81, h1, h2]
      simp [badR, h1, h2]
theorem gl_later {w W : World} {im : Nat → Prop} (h : GlOk E w im) (him : ∀ b, im b → b < w.heap.size) (hb : Below w.heap.size w W) : GlOk E W im :=
  fun g x e => (h g x e).mono (fun b hi => hb.block b (him b hi)) (fun _ h => h)
/-- A contract on data, over one list of values, tells how the world goes on. -/
theorem below_of_pure {f : FuncId} {ds : List DV} {r : DV} (h : PureC E f ds r) {w : World} {im : Nat → Prop} {vs : Array Value} (h1 : ∀ b, im b → b < w.heap.size) (h2 : GlOk E w im) (h3 : vs.size = ds.length)
    (h4 : ∀ (j : Nat) (d : DV), ds[j]? = some d → Rd w im d (vs.getD j undef)) :
    Calls Tryd.prog f vs w fun e w' => ∃ v im', e = .returned v ∧ Rd w' im' r v ∧ (∀ b, im b → im' b) ∧ (∀ b, im' b → b < w'.heap.size) ∧ (∀ b, b < w.heap.size → im' b → im b) ∧ Below w.heap.size w w' :=
  (h.2 w im vs h1 h2 h3 h4).mono fun _ w' ⟨v, im', e, a1, a2, a3, a4, a5, a6, a7, a8⟩ => ⟨v, im', e, a1, a2, a3, fun b hb => (a4 b hb).2, ⟨a6, a7, a8, a5, fun k hk => (a4 k hk).1⟩⟩
theorem digit81 (n : Nat) {W : World} {im : Nat → Prop} (h1 : ∀ b, im b → b < W.heap.size) (h2 : GlOk E W im) : Calls Tryd.prog 81 (#[.int .i32 n] ++ #[]) W fun e w' => e = .returned (.bool (badR n)) ∧ Below W.heap.size W w' := by
  refine (below_of_pure (pure81 n) (vs := #[.int .i32 n]) h1 h2 rfl (fun j d e => ?_)).mono ?_
  · match j, e with
    | 0, e => simp at e; subst e; exact .int _ _
  · rintro e w' ⟨v, im', rfl, hv, _, _, _, hb⟩
    cases hv
    exact ⟨rfl, hb⟩
/-- A byte that is no digit. -/
def badB (b : UInt8) : Bool := decide (b < 48 ∨ 57 < b)
theorem badB_eq (b : UInt8) : badR b.toNat = badB b := by
  unfold badR badB
  have h1 : (b < 48) ↔ ((b.toNat : Int) < 48) := by rw [UInt8.lt_iff_toNat_lt]; show b.toNat < 48 ↔ _; omega
  have h2 : (57 < b) ↔ ((b.toNat : Int) > 57) := by rw [UInt8.lt_iff_toNat_lt]; show 57 < b.toNat ↔ _; omega
  by_cases a : b < 48
  · have a' := h1.1 a
    simp [a, a']
  · have a' := fun q => a (h1.2 q)
    by_cases c : 57 < b
    · have c' := h2.1 c
      simp [c, c']
    · have c' := fun q => c (h2.2 q)
      have e1 : decide ((b.toNat : Int) < 48) = false := decide_eq_false a'
      have e2 : decide ((b.toNat : Int) > 57) = false := decide_eq_false c'
      rw [e1, e2]; simp [a, c]
theorem get_rest {s : ByteArray} {i : Nat} {b : UInt8} (h : s.data[i]? = some b) : s.get! i = b := by
  simp [ByteArray.get!, getElem!_def, h]
theorem decode_big (n b0 b1 b2 b3 : Nat) (h : 128 ≤ b0) : 128 ≤ (Lib.decodeN n b0 b1 b2 b3).1 := by
  unfold Lib.decodeN
  rw [if_neg (by omega)]
  repeat' split
  all_goals (simp only; omega)
theorem idx_any (s : ByteArray) : ∀ (f i : Nat), s.size ≤ f + i → (0 ≤ Lib.idxFuncFrom badR true s f i ↔ (rest s i).any badB = true) := by
  intro f
  induction f with
  | zero => intro i h; rw [rest_nil (by omega)]; simp [Lib.idxFuncFrom]
  | succ f ih =>
    intro i h
    have hd : Lib.idxFuncFrom badR true s (f + 1) i = if i < s.size then (if badR (Utf8.decode s i).1 = true then (i : Int) else Lib.idxFuncFrom badR true s f (i + (Utf8.decode s i).2)) else -1 := rfl
    rw [hd]
    by_cases hi : i < s.size
    · rw [if_pos hi]
      obtain ⟨b, hb, hr⟩ := rest_cons hi
      rw [hr, Lib.decode_at, get_rest hb, List.any_cons]
      by_cases hs : b.toNat < 128
      · have : Lib.decodeN (s.size - i) b.toNat (s.get! (i + 1)).toNat (s.get! (i + 2)).toNat (s.get! (i + 3)).toNat = (b.toNat, 1) := by unfold Lib.decodeN; rw [if_pos hs]
        rw [this, badB_eq]
        cases hbb : badB b
        · simp only [Bool.false_eq_true, if_false, Bool.false_or]
          exact ih (i + 1) (by omega)
        · simp
      · have hbig := decode_big (s.size - i) b.toNat (s.get! (i + 1)).toNat (s.get! (i + 2)).toNat (s.get! (i + 3)).toNat (by omega)
        have h1 : badR (Lib.decodeN (s.size - i) b.toNat (s.get! (i + 1)).toNat (s.get! (i + 2)).toNat (s.get! (i + 3)).toNat).1 = true := by
          unfold badR
          simp only [Bool.or_eq_true, decide_eq_true_eq]
          right; omega
        have h2 : badB b = true := by
          rw [← badB_eq]; unfold badR
          simp only [Bool.or_eq_true, decide_eq_true_eq]
          right; omega
        rw [if_pos h1, h2]
        simp
    · rw [if_neg hi, rest_nil (by omega)]; simp
theorem contains80 (s : ByteArray) : PureC E 80 [.str s, .fn 81 [] []] (.bool (s.data.toList.any badB)) := by
  refine pure_below ⟨_, Tryd.func80, rfl, by kernel_rfl⟩ fun w im vs h1 h2 h3 h4 => ?_
  have e0 := rd_str (h4 0 _ rfl)
  have e1 := rd_fn0 (h4 1 _ rfl)
  rw [arr2 h3, e0.1, e1]
  refine (Tryd.strings_ContainsFunc_grows 81 #[] (enters_of Tryd.func81 (by kernel_rfl) rfl) badR s w (fun W x _ hb => digit81 x (fun b hi => Nat.lt_of_lt_of_le (h1 b hi) hb.size) (gl_later h2 h1 hb))).mono ?_
  rintro e w' ⟨rfl, hb⟩
  refine ⟨_, rfl, fun W i => ?_, hb⟩
  have hi : 0 ≤ Lib.idxFunc badR true s ↔ s.data.toList.any badB = true := idx_any s s.size 0 (by omega)
  have : decide (0 ≤ Lib.idxFunc badR true s) = s.data.toList.any badB := by
    cases h : s.data.toList.any badB
    · rw [h] at hi; simpa using hi
    · rw [h] at hi; simpa using hi
  rw [this]
  exact .bool _
noncomputable def O57 : Orc := ⟨fun f ds => match f, ds with
  | 80, [.str s, .fn 81 [] []] => some (.bool (s.data.toList.any badB))
  | _, _ => none, fun _ _ _ => none⟩
theorem O57_ok : OrcOk E O57 := by
  refine ⟨fun f ds r h => ?_, fun _ _ _ _ _ h => by cases h⟩
  simp only [O57] at h
  split at h
  · cases h; exact contains80 _
  · cases h
theorem numErr_no {l : List UInt8} (h1 : ¬ l = []) (h2 : l.any badB = false) : numErr l = if 1 < l.length ∧ l.head? = some 48 then 3 else if 100 < l.length then 10 else 0 := by
  have hd : numErr l = if l = [] ∨ l.any badB = true then 4 else if 1 < l.length ∧ l.head? = some 48 then 3 else if 100 < l.length then 10 else 0 := rfl
  rw [hd, h2, if_neg (by simp [h1])]
theorem number57 : CtNumber := by
  intro s hs
  have hlen := size_list s
  refine pure_of_run mixed O57_ok Tryd.func57 (N := 0) (by kernel_rfl) ?_
  by_cases e1 : s.data.toList = []
  · have e1' : (s.data.toList == []) = true := by simpa using e1
    simp (disch := first | assumption | decide +kernel | omega) only [rRes, rFn, rCode, rOps, rOp, rDef, rCall, okOp, okLs, Op.operands, Call.operands, okO, aop, evalO, ofVal, ofLeaf, ofLeaves, putT, List.set, List.replicate, List.cons_append, List.nil_append, List.append_nil, List.length_cons, List.length_nil, List.map_cons, List.map_nil, List.toList_toArray, Array.toList_append, List.all_cons, List.all_nil, List.all_toArray, Array.all_append, List.getD_cons_zero, List.getD_cons_succ, Bool.and_true, Bool.true_and, Bool.and_false, Bool.false_and, Bool.or_true, Bool.or_false, Bool.not_true, Bool.not_false, Bool.true_or, Bool.false_or, aLen, nilUnk, asRead, asPure, asSet, asPush, Eff.app, Eff.ids, getH, aBin, aInt, aStr, aPick, aIndex, aSlice, bound, resOf, resVars, resVar, drawStatic_ok, pairsOk_ok, fnOf, mapRes, res_d, mapRes_d, DV.flat, DV.flat.flatL, yieldedA, AV.isAgg, decide_true, decide_false, reduceIte, Option.isSome, Option.map, Nat.reduceAdd, Nat.reduceSub, Nat.reduceLT, Nat.reduceBEq, Nat.reduceEqDiff, Nat.zero_add, Option.bind, beq_self_eq_true, reduceCtorEq, BEq.rfl, and_self, or_self, false_or, or_false, true_or, or_true, and_true, true_and, and_false, false_and, ne_eq, not_true_eq_false, not_false_eq_true, Array.size_append, List.size_toArray, List.getElem?_toArray, List.getElem?_cons_zero, List.getElem?_cons_succ, List.getElem?_nil, rLoop, Option.toArray_some, Option.toArray_none, Option.toArray, EP, onRun, freezeL, size_lit, Int.cast_ofNat_Int,  Nat.zero_le, Nat.reduceLeDiff, beq_tf, beq_ft, Int.reduceBEq, Int.reduceBNe, Int.reduceLT, Int.reduceLE, Int.reduceAdd, Int.reduceSub, Int.reduceToNat, List.range, List.range.loop, IntWalk.i64_in, Int.natCast_nonneg,  aLoad, place, elemAt, aStore, aFieldAddr, AV.lies, DV.lies, DV.leaf, AV.leaf, AV.cells, DV.cells, AV.withCells, mkAgg, mkTup, toDs, AV.toD, List.take_zero, List.take_succ_cons, List.take_nil, List.drop_zero, List.drop_succ_cons, List.drop_nil, List.set_cons_zero, List.set_cons_succ, List.all_cons, List.all_nil, aExtract, Nat.reduceLeDiff, Nat.reduceMul, Nat.le_refl, Nat.lt_add_one, List.headD_cons, if_true, if_false, List.map, List.mem_cons, Tryd.underlying3, Tryd.underlying4, Tryd.underlying5, Tryd.underlying9, Tryd.underlying21, Tryd.underlying23, Tryd.underlying24, Tryd.underlying39, Tryd.underlying53, Tryd.f57, O57, e1']
    simp [numErr, e1]
  · have e1' : (s.data.toList == []) = false := by simpa using e1
    have hb : (s.data.toList.any fun b => decide (b < 48 ∨ 57 < b)) = s.data.toList.any badB := rfl
    cases e2 : s.data.toList.any badB
    · by_cases e3 : 1 < s.size
      · have e3' : ((s.size : Int) > 1) := by omega
        obtain ⟨b, hb0, hr⟩ := rest_cons (show 0 < s.size by omega)
        have hb0' : s.data[(0 : Int).toNat]? = some b := hb0
        have hr' : s.data.toList = b :: rest s 1 := hr
        have hh : s.data.toList.head? = some b := by rw [hr']; rfl
        have h0 : (0 : Int) ≤ 0 := by omega
        have hp : (0 : Int) < s.size := by omega
        by_cases e4 : b = 48
        · have e4' := beq_t (n := 48) 48 rfl e4
          simp (disch := first | assumption | decide +kernel | omega) only [rRes, rFn, rCode, rOps, rOp, rDef, rCall, okOp, okLs, Op.operands, Call.operands, okO, aop, evalO, ofVal, ofLeaf, ofLeaves, putT, List.set, List.replicate, List.cons_append, List.nil_append, List.append_nil, List.length_cons, List.length_nil, List.map_cons, List.map_nil, List.toList_toArray, Array.toList_append, List.all_cons, List.all_nil, List.all_toArray, Array.all_append, List.getD_cons_zero, List.getD_cons_succ, Bool.and_true, Bool.true_and, Bool.and_false, Bool.false_and, Bool.or_true, Bool.or_false, Bool.not_true, Bool.not_false, Bool.true_or, Bool.false_or, aLen, nilUnk, asRead, asPure, asSet, asPush, Eff.app, Eff.ids, getH, aBin, aInt, aStr, aPick, aIndex, aSlice, bound, resOf, resVars, resVar, drawStatic_ok, pairsOk_ok, fnOf, mapRes, res_d, mapRes_d, DV.flat, DV.flat.flatL, yieldedA, AV.isAgg, decide_true, decide_false, reduceIte, Option.isSome, Option.map, Nat.reduceAdd, Nat.reduceSub, Nat.reduceLT, Nat.reduceBEq, Nat.reduceEqDiff, Nat.zero_add, Option.bind, beq_self_eq_true, reduceCtorEq, BEq.rfl, and_self, or_self, false_or, or_false, true_or, or_true, and_true, true_and, and_false, false_and, ne_eq, not_true_eq_false, not_false_eq_true, Array.size_append, List.size_toArray, List.getElem?_toArray, List.getElem?_cons_zero, List.getElem?_cons_succ, List.getElem?_nil, rLoop, Option.toArray_some, Option.toArray_none, Option.toArray, EP, onRun, freezeL, size_lit, Int.cast_ofNat_Int,  Nat.zero_le, Nat.reduceLeDiff, beq_tf, beq_ft, Int.reduceBEq, Int.reduceBNe, Int.reduceLT, Int.reduceLE, Int.reduceAdd, Int.reduceSub, Int.reduceToNat, List.range, List.range.loop, IntWalk.i64_in, Int.natCast_nonneg,  aLoad, place, elemAt, aStore, aFieldAddr, AV.lies, DV.lies, DV.leaf, AV.leaf, AV.cells, DV.cells, AV.withCells, mkAgg, mkTup, toDs, AV.toD, List.take_zero, List.take_succ_cons, List.take_nil, List.drop_zero, List.drop_succ_cons, List.drop_nil, List.set_cons_zero, List.set_cons_succ, List.all_cons, List.all_nil, aExtract, Nat.reduceLeDiff, Nat.reduceMul, Nat.le_refl, Nat.lt_add_one, List.headD_cons, if_true, if_false, List.map, List.mem_cons, Tryd.underlying3, Tryd.underlying4, Tryd.underlying5, Tryd.underlying9, Tryd.underlying21, Tryd.underlying23, Tryd.underlying24, Tryd.underlying39, Tryd.underlying53, Tryd.f57, O57, e1', e2, e3', hb0', hb0, e4', hp]
          rw [numErr_no e1 e2, hlen, hh]; simp [e3, e4]
        · have e4' := beq_f (n := 48) 48 rfl e4
          by_cases e5 : 100 < s.size
          · have e5' : ((s.size : Int) > 100) := by omega
            simp (disch := first | assumption | decide +kernel | omega) only [rRes, rFn, rCode, rOps, rOp, rDef, rCall, okOp, okLs, Op.operands, Call.operands, okO, aop, evalO, ofVal, ofLeaf, ofLeaves, putT, List.set, List.replicate, List.cons_append, List.nil_append, List.append_nil, List.length_cons, List.length_nil, List.map_cons, List.map_nil, List.toList_toArray, Array.toList_append, List.all_cons, List.all_nil, List.all_toArray, Array.all_append, List.getD_cons_zero, List.getD_cons_succ, Bool.and_true, Bool.true_and, Bool.and_false, Bool.false_and, Bool.or_true, Bool.or_false, Bool.not_true, Bool.not_false, Bool.true_or, Bool.false_or, aLen, nilUnk, asRead, asPure, asSet, asPush, Eff.app, Eff.ids, getH, aBin, aInt, aStr, aPick, aIndex, aSlice, bound, resOf, resVars, resVar, drawStatic_ok, pairsOk_ok, fnOf, mapRes, res_d, mapRes_d, DV.flat, DV.flat.flatL, yieldedA, AV.isAgg, decide_true, decide_false, reduceIte, Option.isSome, Option.map, Nat.reduceAdd, Nat.reduceSub, Nat.reduceLT, Nat.reduceBEq, Nat.reduceEqDiff, Nat.zero_add, Option.bind, beq_self_eq_true, reduceCtorEq, BEq.rfl, and_self, or_self, false_or, or_false, true_or, or_true, and_true, true_and, and_false, false_and, ne_eq, not_true_eq_false, not_false_eq_true, Array.size_append, List.size_toArray, List.getElem?_toArray, List.getElem?_cons_zero, List.getElem?_cons_succ, List.getElem?_nil, rLoop, Option.toArray_some, Option.toArray_none, Option.toArray, EP, onRun, freezeL, size_lit, Int.cast_ofNat_Int,  Nat.zero_le, Nat.reduceLeDiff, beq_tf, beq_ft, Int.reduceBEq, Int.reduceBNe, Int.reduceLT, Int.reduceLE, Int.reduceAdd, Int.reduceSub, Int.reduceToNat, List.range, List.range.loop, IntWalk.i64_in, Int.natCast_nonneg,  aLoad, place, elemAt, aStore, aFieldAddr, AV.lies, DV.lies, DV.leaf, AV.leaf, AV.cells, DV.cells, AV.withCells, mkAgg, mkTup, toDs, AV.toD, List.take_zero, List.take_succ_cons, List.take_nil, List.drop_zero, List.drop_succ_cons, List.drop_nil, List.set_cons_zero, List.set_cons_succ, List.all_cons, List.all_nil, aExtract, Nat.reduceLeDiff, Nat.reduceMul, Nat.le_refl, Nat.lt_add_one, List.headD_cons, if_true, if_false, List.map, List.mem_cons, Tryd.underlying3, Tryd.underlying4, Tryd.underlying5, Tryd.underlying9, Tryd.underlying21, Tryd.underlying23, Tryd.underlying24, Tryd.underlying39, Tryd.underlying53, Tryd.f57, O57, e1', e2, e3', hb0', hb0, e4', hp, e5']
            rw [numErr_no e1 e2, hlen, hh]; simp [e3, e4, e5]
          · have e5' : ¬ ((s.size : Int) > 100) := by omega
            simp (disch := first | assumption | decide +kernel | omega) only [rRes, rFn, rCode, rOps, rOp, rDef, rCall, okOp, okLs, Op.operands, Call.operands, okO, aop, evalO, ofVal, ofLeaf, ofLeaves, putT, List.set, List.replicate, List.cons_append, List.nil_append, List.append_nil, List.length_cons, List.length_nil, List.map_cons, List.map_nil, List.toList_toArray, Array.toList_append, List.all_cons, List.all_nil, List.all_toArray, Array.all_append, List.getD_cons_zero, List.getD_cons_succ, Bool.and_true, Bool.true_and, Bool.and_false, Bool.false_and, Bool.or_true, Bool.or_false, Bool.not_true, Bool.not_false, Bool.true_or, Bool.false_or, aLen, nilUnk, asRead, asPure, asSet, asPush, Eff.app, Eff.ids, getH, aBin, aInt, aStr, aPick, aIndex, aSlice, bound, resOf, resVars, resVar, drawStatic_ok, pairsOk_ok, fnOf, mapRes, res_d, mapRes_d, DV.flat, DV.flat.flatL, yieldedA, AV.isAgg, decide_true, decide_false, reduceIte, Option.isSome, Option.map, Nat.reduceAdd, Nat.reduceSub, Nat.reduceLT, Nat.reduceBEq, Nat.reduceEqDiff, Nat.zero_add, Option.bind, beq_self_eq_true, reduceCtorEq, BEq.rfl, and_self, or_self, false_or, or_false, true_or, or_true, and_true, true_and, and_false, false_and, ne_eq, not_true_eq_false, not_false_eq_true, Array.size_append, List.size_toArray, List.getElem?_toArray, List.getElem?_cons_zero, List.getElem?_cons_succ, List.getElem?_nil, rLoop, Option.toArray_some, Option.toArray_none, Option.toArray, EP, onRun, freezeL, size_lit, Int.cast_ofNat_Int,  Nat.zero_le, Nat.reduceLeDiff, beq_tf, beq_ft, Int.reduceBEq, Int.reduceBNe, Int.reduceLT, Int.reduceLE, Int.reduceAdd, Int.reduceSub, Int.reduceToNat, List.range, List.range.loop, IntWalk.i64_in, Int.natCast_nonneg,  aLoad, place, elemAt, aStore, aFieldAddr, AV.lies, DV.lies, DV.leaf, AV.leaf, AV.cells, DV.cells, AV.withCells, mkAgg, mkTup, toDs, AV.toD, List.take_zero, List.take_succ_cons, List.take_nil, List.drop_zero, List.drop_succ_cons, List.drop_nil, List.set_cons_zero, List.set_cons_succ, List.all_cons, List.all_nil, aExtract, Nat.reduceLeDiff, Nat.reduceMul, Nat.le_refl, Nat.lt_add_one, List.headD_cons, if_true, if_false, List.map, List.mem_cons, Tryd.underlying3, Tryd.underlying4, Tryd.underlying5, Tryd.underlying9, Tryd.underlying21, Tryd.underlying23, Tryd.underlying24, Tryd.underlying39, Tryd.underlying53, Tryd.f57, O57, e1', e2, e3', hb0', hb0, e4', hp, e5']
            rw [numErr_no e1 e2, hlen, hh]; simp [e3, e4, e5]
      · have e3' : ¬ ((s.size : Int) > 1) := by omega
        have e5 : ¬ (100 < s.size) := by omega
        have e5' : ¬ ((s.size : Int) > 100) := by omega
        simp (disch := first | assumption | decide +kernel | omega) only [rRes, rFn, rCode, rOps, rOp, rDef, rCall, okOp, okLs, Op.operands, Call.operands, okO, aop, evalO, ofVal, ofLeaf, ofLeaves, putT, List.set, List.replicate, List.cons_append, List.nil_append, List.append_nil, List.length_cons, List.length_nil, List.map_cons, List.map_nil, List.toList_toArray, Array.toList_append, List.all_cons, List.all_nil, List.all_toArray, Array.all_append, List.getD_cons_zero, List.getD_cons_succ, Bool.and_true, Bool.true_and, Bool.and_false, Bool.false_and, Bool.or_true, Bool.or_false, Bool.not_true, Bool.not_false, Bool.true_or, Bool.false_or, aLen, nilUnk, asRead, asPure, asSet, asPush, Eff.app, Eff.ids, getH, aBin, aInt, aStr, aPick, aIndex, aSlice, bound, resOf, resVars, resVar, drawStatic_ok, pairsOk_ok, fnOf, mapRes, res_d, mapRes_d, DV.flat, DV.flat.flatL, yieldedA, AV.isAgg, decide_true, decide_false, reduceIte, Option.isSome, Option.map, Nat.reduceAdd, Nat.reduceSub, Nat.reduceLT, Nat.reduceBEq, Nat.reduceEqDiff, Nat.zero_add, Option.bind, beq_self_eq_true, reduceCtorEq, BEq.rfl, and_self, or_self, false_or, or_false, true_or, or_true, and_true, true_and, and_false, false_and, ne_eq, not_true_eq_false, not_false_eq_true, Array.size_append, List.size_toArray, List.getElem?_toArray, List.getElem?_cons_zero, List.getElem?_cons_succ, List.getElem?_nil, rLoop, Option.toArray_some, Option.toArray_none, Option.toArray, EP, onRun, freezeL, size_lit, Int.cast_ofNat_Int,  Nat.zero_le, Nat.reduceLeDiff, beq_tf, beq_ft, Int.reduceBEq, Int.reduceBNe, Int.reduceLT, Int.reduceLE, Int.reduceAdd, Int.reduceSub, Int.reduceToNat, List.range, List.range.loop, IntWalk.i64_in, Int.natCast_nonneg,  aLoad, place, elemAt, aStore, aFieldAddr, AV.lies, DV.lies, DV.leaf, AV.leaf, AV.cells, DV.cells, AV.withCells, mkAgg, mkTup, toDs, AV.toD, List.take_zero, List.take_succ_cons, List.take_nil, List.drop_zero, List.drop_succ_cons, List.drop_nil, List.set_cons_zero, List.set_cons_succ, List.all_cons, List.all_nil, aExtract, Nat.reduceLeDiff, Nat.reduceMul, Nat.le_refl, Nat.lt_add_one, List.headD_cons, if_true, if_false, List.map, List.mem_cons, Tryd.underlying3, Tryd.underlying4, Tryd.underlying5, Tryd.underlying9, Tryd.underlying21, Tryd.underlying23, Tryd.underlying24, Tryd.underlying39, Tryd.underlying53, Tryd.f57, O57, e1', e2, e3', e5']
        rw [numErr_no e1 e2, hlen]; simp [e3, e5]
    · simp (disch := first | assumption | decide +kernel | omega) only [rRes, rFn, rCode, rOps, rOp, rDef, rCall, okOp, okLs, Op.operands, Call.operands, okO, aop, evalO, ofVal, ofLeaf, ofLeaves, putT, List.set, List.replicate, List.cons_append, List.nil_append, List.append_nil, List.length_cons, List.length_nil, List.map_cons, List.map_nil, List.toList_toArray, Array.toList_append, List.all_cons, List.all_nil, List.all_toArray, Array.all_append, List.getD_cons_zero, List.getD_cons_succ, Bool.and_true, Bool.true_and, Bool.and_false, Bool.false_and, Bool.or_true, Bool.or_false, Bool.not_true, Bool.not_false, Bool.true_or, Bool.false_or, aLen, nilUnk, asRead, asPure, asSet, asPush, Eff.app, Eff.ids, getH, aBin, aInt, aStr, aPick, aIndex, aSlice, bound, resOf, resVars, resVar, drawStatic_ok, pairsOk_ok, fnOf, mapRes, res_d, mapRes_d, DV.flat, DV.flat.flatL, yieldedA, AV.isAgg, decide_true, decide_false, reduceIte, Option.isSome, Option.map, Nat.reduceAdd, Nat.reduceSub, Nat.reduceLT, Nat.reduceBEq, Nat.reduceEqDiff, Nat.zero_add, Option.bind, beq_self_eq_true, reduceCtorEq, BEq.rfl, and_self, or_self, false_or, or_false, true_or, or_true, and_true, true_and, and_false, false_and, ne_eq, not_true_eq_false, not_false_eq_true, Array.size_append, List.size_toArray, List.getElem?_toArray, List.getElem?_cons_zero, List.getElem?_cons_succ, List.getElem?_nil, rLoop, Option.toArray_some, Option.toArray_none, Option.toArray, EP, onRun, freezeL, size_lit, Int.cast_ofNat_Int,  Nat.zero_le, Nat.reduceLeDiff, beq_tf, beq_ft, Int.reduceBEq, Int.reduceBNe, Int.reduceLT, Int.reduceLE, Int.reduceAdd, Int.reduceSub, Int.reduceToNat, List.range, List.range.loop, IntWalk.i64_in, Int.natCast_nonneg,  aLoad, place, elemAt, aStore, aFieldAddr, AV.lies, DV.lies, DV.leaf, AV.leaf, AV.cells, DV.cells, AV.withCells, mkAgg, mkTup, toDs, AV.toD, List.take_zero, List.take_succ_cons, List.take_nil, List.drop_zero, List.drop_succ_cons, List.drop_nil, List.set_cons_zero, List.set_cons_succ, List.all_cons, List.all_nil, aExtract, Nat.reduceLeDiff, Nat.reduceMul, Nat.le_refl, Nat.lt_add_one, List.headD_cons, if_true, if_false, List.map, List.mem_cons, Tryd.underlying3, Tryd.underlying4, Tryd.underlying5, Tryd.underlying9, Tryd.underlying21, Tryd.underlying23, Tryd.underlying24, Tryd.underlying39, Tryd.underlying53, Tryd.f57, O57, e1', e2]
      have hd : numErr s.data.toList = if s.data.toList = [] ∨ s.data.toList.any badB = true then 4 else if 1 < s.data.toList.length ∧ s.data.toList.head? = some 48 then 3 else if 100 < s.data.toList.length then 10 else 0 := rfl
      rw [hd, e2]; simp
end Go.Lx
