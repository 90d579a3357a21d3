/- The lexer's functions, by the walk: words. -/
import Derived.Test.YtlfbopiefjpeaaaDoorLxH
set_option linter.unusedSimpArgs false
set_option linter.unusedVariables false
namespace Go.Lx
open Go Go.Sv Go.Proofs
set_option maxRecDepth 100000
/-- Is a text among these? -/
def among (x : List UInt8) (xs : List ByteArray) : Bool := xs.any fun y => x == y.data.toList
theorem idxOf_ge (x : List UInt8) : ∀ (xs : List ByteArray) (i : Nat), 0 ≤ idxOf x xs i ↔ among x xs = true := by
  intro xs
  induction xs with
  | nil => intro i; simp [idxOf, among]
  | cons y ys ih =>
    intro i
    have hd : idxOf x (y :: ys) i = if x = y.data.toList then (i : Int) else idxOf x ys (i + 1) := rfl
    rw [hd]
    by_cases h : x = y.data.toList
    · rw [if_pos h]
      simp [among, h]
    · rw [if_neg h, ih]
      simp [among, h]
open Classical in
noncomputable def O79 : Orc := ⟨fun f ds => match f, ds with
  | 79, [.sl 1 xs, .str s] => if xs = resL.map DV.str then some (.int .i64 (idxOf s.data.toList resL 0)) else none
  | _, _ => none, fun _ _ _ => none⟩
theorem O79_ok : OrcOk E O79 := by
  refine ⟨fun f ds r h => ?_, fun _ _ _ _ _ h => by cases h⟩
  simp only [O79] at h
  split at h
  · split at h
    · rename_i e
      cases h; subst e; exact index79 _ _ (by decide)
    · cases h
  · cases h
theorem contains54 (s : ByteArray) : PureC E 54 [resD, .str s] (.bool (among s.data.toList resL)) := by
  refine pure_of_run mixed O79_ok Tryd.func54 (N := 0) (by kernel_rfl) ?_
  have e : resL.map DV.str = resL.map DV.str := rfl
  generalize hx : resL.map DV.str = xs at e
  have hr : resD = .sl 1 xs := by rw [← hx]; rfl
  rw [hr]
  simp (disch := first | assumption | decide +kernel | omega) only [rRes, rFn, rCode, rOps, rOp, rDef, rCall, okOp, okLs, Op.operands, Call.operands, okO, aop, evalO, ofVal, ofLeaf, ofLeaves, putT, List.set, List.replicate, List.cons_append, List.nil_append, List.append_nil, List.length_cons, List.length_nil, List.map_cons, List.map_nil, List.toList_toArray, Array.toList_append, List.all_cons, List.all_nil, List.all_toArray, Array.all_append, List.getD_cons_zero, List.getD_cons_succ, Bool.and_true, Bool.true_and, Bool.and_false, Bool.false_and, Bool.or_true, Bool.or_false, Bool.not_true, Bool.not_false, Bool.true_or, Bool.false_or, aLen, nilUnk, asRead, asPure, asSet, asPush, Eff.app, Eff.ids, getH, aBin, aInt, aStr, aPick, aIndex, aSlice, bound, resOf, resVars, resVar, drawStatic_ok, pairsOk_ok, fnOf, mapRes, res_d, mapRes_d, DV.flat, DV.flat.flatL, yieldedA, AV.isAgg, decide_true, decide_false, reduceIte, Option.isSome, Option.map, Nat.reduceAdd, Nat.reduceSub, Nat.reduceLT, Nat.reduceBEq, Nat.reduceEqDiff, Nat.zero_add, Option.bind, beq_self_eq_true, reduceCtorEq, BEq.rfl, and_self, or_self, false_or, or_false, true_or, or_true, and_true, true_and, and_false, false_and, ne_eq, not_true_eq_false, not_false_eq_true, Array.size_append, List.size_toArray, List.getElem?_toArray, List.getElem?_cons_zero, List.getElem?_cons_succ, List.getElem?_nil, rLoop, Option.toArray_some, Option.toArray_none, Option.toArray, EP, onRun, size_lit, Nat.zero_le, Nat.reduceLeDiff, beq_tf, beq_ft, Int.reduceBEq, Int.reduceBNe, Int.reduceLT, Int.reduceLE, Int.reduceAdd, Int.reduceSub, Int.reduceToNat, List.range, List.range.loop, IntWalk.i64_in, Int.natCast_nonneg,  aLoad, place, elemAt, aStore, aFieldAddr, AV.lies, DV.lies, DV.leaf, AV.leaf, AV.cells, DV.cells, AV.withCells, mkAgg, mkTup, toDs, AV.toD, List.take_zero, List.take_succ_cons, List.take_nil, List.drop_zero, List.drop_succ_cons, List.drop_nil, List.set_cons_zero, List.set_cons_succ, List.all_cons, List.all_nil, aExtract, Nat.reduceLeDiff, Nat.reduceMul, Nat.le_refl, Nat.lt_add_one, List.headD_cons, if_true, if_false, List.map, List.mem_cons, Tryd.underlying3, Tryd.underlying4, Tryd.underlying5, Tryd.underlying9, Tryd.underlying21, Tryd.underlying23, Tryd.underlying24, Tryd.underlying39, Tryd.underlying53, Tryd.f54, O79, hx]
  have := idxOf_ge s.data.toList resL 0
  congr 2
  by_cases h : among s.data.toList resL = true
  · rw [h]; simpa using this.2 h
  · rw [Bool.not_eq_true] at h
    rw [h]
    rw [h] at this
    simpa using this
theorem clone52 : PureC E 52 [resD] resD := pure_of_run mixed orc_none (N := 1) Tryd.func52 (by kernel_rfl) (by kernel_rfl)
open Classical in
noncomputable def O22 : Orc := ⟨fun f ds => match f, ds with
  | 53, [.str s] => if s.size ≤ 9223372036854775807 then some (.bool (isW s.data.toList)) else none
  | 54, [x, .str s] => if x = resD then some (.bool (among s.data.toList resL)) else none
  | 52, [x] => if x = resD then some resD else none
  | _, _ => none, fun _ _ _ => none⟩
theorem O22_ok : OrcOk E O22 := by
  refine ⟨fun f ds r h => ?_, fun _ _ _ _ _ h => by cases h⟩
  simp only [O22] at h
  split at h
  · split at h
    · cases h; exact isWord53 _ (by assumption)
    · cases h
  · split at h
    · rename_i e; subst e; cases h; exact contains54 _
    · cases h
  · split at h
    · rename_i e; subst e; cases h; exact clone52
    · cases h
  · cases h
theorem loadRes : aLoad Tryd.prog (getH []) 39 (.d (.ref resD)) = some (.d resD, {}) := by kernel_rfl
theorem words20 : PureC E 20 [] resD := by
  refine pure_of_run mixed O22_ok Tryd.func20 (N := 0) (by kernel_rfl) ?_
  have hf : resD.flat = false := by kernel_rfl
  simp (disch := first | assumption | decide +kernel | omega) only [rRes, rFn, rCode, rOps, rOp, rDef, rCall, okOp, okLs, Op.operands, Call.operands, okO, aop, evalO, ofVal, ofLeaf, ofLeaves, putT, List.set, List.replicate, List.cons_append, List.nil_append, List.append_nil, List.length_cons, List.length_nil, List.map_cons, List.map_nil, List.toList_toArray, Array.toList_append, List.all_cons, List.all_nil, List.all_toArray, Array.all_append, List.getD_cons_zero, List.getD_cons_succ, Bool.and_true, Bool.true_and, Bool.and_false, Bool.false_and, Bool.or_true, Bool.or_false, Bool.not_true, Bool.not_false, Bool.true_or, Bool.false_or, aLen, nilUnk, asRead, asPure, asSet, asPush, Eff.app, Eff.ids, getH, aBin, aInt, aStr, aPick, aIndex, aSlice, bound, resOf, resVars, resVar, drawStatic_ok, pairsOk_ok, fnOf, mapRes, res_d, mapRes_d, DV.flat, DV.flat.flatL, yieldedA, AV.isAgg, decide_true, decide_false, reduceIte, Option.isSome, Option.map, Nat.reduceAdd, Nat.reduceSub, Nat.reduceLT, Nat.reduceBEq, Nat.reduceEqDiff, Nat.zero_add, Option.bind, beq_self_eq_true, reduceCtorEq, BEq.rfl, and_self, or_self, false_or, or_false, true_or, or_true, and_true, true_and, and_false, false_and, ne_eq, not_true_eq_false, not_false_eq_true, Array.size_append, List.size_toArray, List.getElem?_toArray, List.getElem?_cons_zero, List.getElem?_cons_succ, List.getElem?_nil, rLoop, Option.toArray_some, Option.toArray_none, Option.toArray, EP, onRun, size_lit, Nat.zero_le, Nat.reduceLeDiff, beq_tf, beq_ft, Int.reduceBEq, Int.reduceBNe, Int.reduceLT, Int.reduceLE, Int.reduceAdd, Int.reduceSub, Int.reduceToNat, List.range, List.range.loop, IntWalk.i64_in, Int.natCast_nonneg,  Tryd.underlying3, Tryd.underlying4, Tryd.underlying5, Tryd.underlying9, Tryd.underlying21, Tryd.underlying23, Tryd.underlying24, Tryd.underlying39, Tryd.underlying53, Tryd.f20, O22, Egl0, loadRes, hf, freezeL]
/-- The error of a name. -/
def nameErr (l : List UInt8) : Int := if isW l = true ∧ among l resL = false then 0 else 8
theorem name22 (s : ByteArray) (hs : s.size ≤ 9223372036854775807) : PureC E 22 [.str s] (.int .i64 (nameErr s.data.toList)) := by
  refine pure_of_run mixed O22_ok Tryd.func22 (N := 0) (by kernel_rfl) ?_
  cases h1 : isW s.data.toList
  · simp (disch := first | assumption | decide +kernel | omega) only [rRes, rFn, rCode, rOps, rOp, rDef, rCall, okOp, okLs, Op.operands, Call.operands, okO, aop, evalO, ofVal, ofLeaf, ofLeaves, putT, List.set, List.replicate, List.cons_append, List.nil_append, List.append_nil, List.length_cons, List.length_nil, List.map_cons, List.map_nil, List.toList_toArray, Array.toList_append, List.all_cons, List.all_nil, List.all_toArray, Array.all_append, List.getD_cons_zero, List.getD_cons_succ, Bool.and_true, Bool.true_and, Bool.and_false, Bool.false_and, Bool.or_true, Bool.or_false, Bool.not_true, Bool.not_false, Bool.true_or, Bool.false_or, aLen, nilUnk, asRead, asPure, asSet, asPush, Eff.app, Eff.ids, getH, aBin, aInt, aStr, aPick, aIndex, aSlice, bound, resOf, resVars, resVar, drawStatic_ok, pairsOk_ok, fnOf, mapRes, res_d, mapRes_d, DV.flat, DV.flat.flatL, yieldedA, AV.isAgg, decide_true, decide_false, reduceIte, Option.isSome, Option.map, Nat.reduceAdd, Nat.reduceSub, Nat.reduceLT, Nat.reduceBEq, Nat.reduceEqDiff, Nat.zero_add, Option.bind, beq_self_eq_true, reduceCtorEq, BEq.rfl, and_self, or_self, false_or, or_false, true_or, or_true, and_true, true_and, and_false, false_and, ne_eq, not_true_eq_false, not_false_eq_true, Array.size_append, List.size_toArray, List.getElem?_toArray, List.getElem?_cons_zero, List.getElem?_cons_succ, List.getElem?_nil, rLoop, Option.toArray_some, Option.toArray_none, Option.toArray, EP, onRun, size_lit, Nat.zero_le, Nat.reduceLeDiff, beq_tf, beq_ft, Int.reduceBEq, Int.reduceBNe, Int.reduceLT, Int.reduceLE, Int.reduceAdd, Int.reduceSub, Int.reduceToNat, List.range, List.range.loop, IntWalk.i64_in, Int.natCast_nonneg,  Tryd.underlying3, Tryd.underlying4, Tryd.underlying5, Tryd.underlying9, Tryd.underlying21, Tryd.underlying23, Tryd.underlying24, Tryd.underlying39, Tryd.underlying53, Tryd.f22, O22, Egl0, hs, h1, aUn]
    simp [nameErr, h1]
  · cases h2 : among s.data.toList resL
    · simp (disch := first | assumption | decide +kernel | omega) only [rRes, rFn, rCode, rOps, rOp, rDef, rCall, okOp, okLs, Op.operands, Call.operands, okO, aop, evalO, ofVal, ofLeaf, ofLeaves, putT, List.set, List.replicate, List.cons_append, List.nil_append, List.append_nil, List.length_cons, List.length_nil, List.map_cons, List.map_nil, List.toList_toArray, Array.toList_append, List.all_cons, List.all_nil, List.all_toArray, Array.all_append, List.getD_cons_zero, List.getD_cons_succ, Bool.and_true, Bool.true_and, Bool.and_false, Bool.false_and, Bool.or_true, Bool.or_false, Bool.not_true, Bool.not_false, Bool.true_or, Bool.false_or, aLen, nilUnk, asRead, asPure, asSet, asPush, Eff.app, Eff.ids, getH, aBin, aInt, aStr, aPick, aIndex, aSlice, bound, resOf, resVars, resVar, drawStatic_ok, pairsOk_ok, fnOf, mapRes, res_d, mapRes_d, DV.flat, DV.flat.flatL, yieldedA, AV.isAgg, decide_true, decide_false, reduceIte, Option.isSome, Option.map, Nat.reduceAdd, Nat.reduceSub, Nat.reduceLT, Nat.reduceBEq, Nat.reduceEqDiff, Nat.zero_add, Option.bind, beq_self_eq_true, reduceCtorEq, BEq.rfl, and_self, or_self, false_or, or_false, true_or, or_true, and_true, true_and, and_false, false_and, ne_eq, not_true_eq_false, not_false_eq_true, Array.size_append, List.size_toArray, List.getElem?_toArray, List.getElem?_cons_zero, List.getElem?_cons_succ, List.getElem?_nil, rLoop, Option.toArray_some, Option.toArray_none, Option.toArray, EP, onRun, size_lit, Nat.zero_le, Nat.reduceLeDiff, beq_tf, beq_ft, Int.reduceBEq, Int.reduceBNe, Int.reduceLT, Int.reduceLE, Int.reduceAdd, Int.reduceSub, Int.reduceToNat, List.range, List.range.loop, IntWalk.i64_in, Int.natCast_nonneg,  Tryd.underlying3, Tryd.underlying4, Tryd.underlying5, Tryd.underlying9, Tryd.underlying21, Tryd.underlying23, Tryd.underlying24, Tryd.underlying39, Tryd.underlying53, Tryd.f22, O22, Egl0, hs, h1, h2, aUn, loadRes]
      simp [nameErr, h1, h2]
    · simp (disch := first | assumption | decide +kernel | omega) only [rRes, rFn, rCode, rOps, rOp, rDef, rCall, okOp, okLs, Op.operands, Call.operands, okO, aop, evalO, ofVal, ofLeaf, ofLeaves, putT, List.set, List.replicate, List.cons_append, List.nil_append, List.append_nil, List.length_cons, List.length_nil, List.map_cons, List.map_nil, List.toList_toArray, Array.toList_append, List.all_cons, List.all_nil, List.all_toArray, Array.all_append, List.getD_cons_zero, List.getD_cons_succ, Bool.and_true, Bool.true_and, Bool.and_false, Bool.false_and, Bool.or_true, Bool.or_false, Bool.not_true, Bool.not_false, Bool.true_or, Bool.false_or, aLen, nilUnk, asRead, asPure, asSet, asPush, Eff.app, Eff.ids, getH, aBin, aInt, aStr, aPick, aIndex, aSlice, bound, resOf, resVars, resVar, drawStatic_ok, pairsOk_ok, fnOf, mapRes, res_d, mapRes_d, DV.flat, DV.flat.flatL, yieldedA, AV.isAgg, decide_true, decide_false, reduceIte, Option.isSome, Option.map, Nat.reduceAdd, Nat.reduceSub, Nat.reduceLT, Nat.reduceBEq, Nat.reduceEqDiff, Nat.zero_add, Option.bind, beq_self_eq_true, reduceCtorEq, BEq.rfl, and_self, or_self, false_or, or_false, true_or, or_true, and_true, true_and, and_false, false_and, ne_eq, not_true_eq_false, not_false_eq_true, Array.size_append, List.size_toArray, List.getElem?_toArray, List.getElem?_cons_zero, List.getElem?_cons_succ, List.getElem?_nil, rLoop, Option.toArray_some, Option.toArray_none, Option.toArray, EP, onRun, size_lit, Nat.zero_le, Nat.reduceLeDiff, beq_tf, beq_ft, Int.reduceBEq, Int.reduceBNe, Int.reduceLT, Int.reduceLE, Int.reduceAdd, Int.reduceSub, Int.reduceToNat, List.range, List.range.loop, IntWalk.i64_in, Int.natCast_nonneg,  Tryd.underlying3, Tryd.underlying4, Tryd.underlying5, Tryd.underlying9, Tryd.underlying21, Tryd.underlying23, Tryd.underlying24, Tryd.underlying39, Tryd.underlying53, Tryd.f22, O22, Egl0, hs, h1, h2, aUn, loadRes]
      simp [nameErr, h1, h2]
end Go.Lx
