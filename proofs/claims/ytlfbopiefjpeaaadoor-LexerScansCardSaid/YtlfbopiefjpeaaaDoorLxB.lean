/- The lexer's functions, by the walk. -/
import Derived.Test.YtlfbopiefjpeaaaDoorLxA
set_option linter.unusedSimpArgs false
set_option linter.unusedVariables false
namespace Go.Lx
open Go Go.Sv Go.Proofs
set_option maxRecDepth 100000
def cls (s : ByteArray) (i : Int) : Int := if i ≥ s.size then 0 else clsL.getD (s.data[i.toNat]?.getD 0).toNat 0
def O93 : Orc := ⟨fun f ds => match f, ds with
  | 93, [] => some (.agg tabL)
  | _, _ => none, fun _ _ _ => none⟩
theorem O93_ok : OrcOk E O93 := by
  refine ⟨fun f ds r h => ?_, fun _ _ _ _ _ h => by cases h⟩
  simp only [O93] at h
  split at h
  · cases h; exact classes93
  · cases h
theorem class75 (src : ByteArray) (i : Int) (h0 : 0 ≤ i) : PureC E 75 [.str src, .int .i64 i] (.int .u8 (cls src i)) := by
  refine pure_of_run mixed O93_ok (N := 0) Tryd.func75 (by kernel_rfl) ?_
  by_cases h : (src.size : Int) ≤ i
  · simp (disch := first | assumption | decide +kernel) only [rRes, rFn, rCode, rOps, rOp, rDef, rCall, okOp, okLs, Op.operands, Call.operands, okO, aop, evalO, ofVal, ofLeaf, ofLeaves, putT, List.set, List.replicate, List.cons_append, List.nil_append, List.append_nil, List.length_cons, List.length_nil, List.map_cons, List.map_nil, List.toList_toArray, Array.toList_append, List.all_cons, List.all_nil, List.all_toArray, Array.all_append, List.getD_cons_zero, List.getD_cons_succ, Bool.and_true, Bool.true_and, Bool.and_false, Bool.false_and, Bool.or_true, Bool.or_false, Bool.not_true, Bool.not_false, Bool.true_or, Bool.false_or, aLen, nilUnk, asRead, asPure, asSet, asPush, Eff.app, Eff.ids, getH, aBin, aInt, aStr, aPick, aIndex, aSlice, bound, resOf, resVars, resVar, drawStatic_ok, pairsOk_ok, fnOf, mapRes, res_d, mapRes_d, DV.flat, DV.flat.flatL, yieldedA, AV.isAgg, decide_true, decide_false, reduceIte, Option.isSome, Option.map, Nat.reduceAdd, Nat.reduceSub, Nat.reduceLT, Nat.reduceBEq, Nat.reduceEqDiff, Nat.zero_add, Option.bind, beq_self_eq_true, reduceCtorEq, BEq.rfl, and_self, and_true, true_and, and_false, false_and, ne_eq, not_true_eq_false, not_false_eq_true, Array.size_append, List.size_toArray, List.getElem?_toArray, List.getElem?_cons_zero, List.getElem?_cons_succ, List.getElem?_nil, rLoop, EP, Tryd.f75, h, Tryd.underlying9, Tryd.underlying3]
    simp [cls, h]
  · have hb : src.data[i.toNat]? = some (src.data[i.toNat]'(by have : src.data.size = src.size := rfl; omega)) := by simp
    generalize src.data[i.toNat]'_ = b at hb
    simp (disch := first | assumption | decide +kernel) only [rRes, rFn, rCode, rOps, rOp, rDef, rCall, okOp, okLs, Op.operands, Call.operands, okO, aop, evalO, ofVal, ofLeaf, ofLeaves, putT, List.set, List.replicate, List.cons_append, List.nil_append, List.append_nil, List.length_cons, List.length_nil, List.map_cons, List.map_nil, List.toList_toArray, Array.toList_append, List.all_cons, List.all_nil, List.all_toArray, Array.all_append, List.getD_cons_zero, List.getD_cons_succ, Bool.and_true, Bool.true_and, Bool.and_false, Bool.false_and, Bool.or_true, Bool.or_false, Bool.not_true, Bool.not_false, Bool.true_or, Bool.false_or, aLen, nilUnk, asRead, asPure, asSet, asPush, Eff.app, Eff.ids, getH, aBin, aInt, aStr, aPick, aIndex, aSlice, bound, resOf, resVars, resVar, drawStatic_ok, pairsOk_ok, fnOf, mapRes, res_d, mapRes_d, DV.flat, DV.flat.flatL, yieldedA, AV.isAgg, decide_true, decide_false, reduceIte, Option.isSome, Option.map, Nat.reduceAdd, Nat.reduceSub, Nat.reduceLT, Nat.reduceBEq, Nat.reduceEqDiff, Nat.zero_add, Option.bind, beq_self_eq_true, reduceCtorEq, BEq.rfl, and_self, and_true, true_and, and_false, false_and, ne_eq, not_true_eq_false, not_false_eq_true, Array.size_append, List.size_toArray, List.getElem?_toArray, List.getElem?_cons_zero, List.getElem?_cons_succ, List.getElem?_nil, rLoop, EP, Tryd.f75, h, Tryd.underlying9, Tryd.underlying3, O93, h0, hb, Tryd.underlying101, szT5, tabL_flat, tab_part, Int.toNat_natCast, Int.natCast_nonneg, b.toNat_lt]
    have hlt : ¬ ((src.size : Int) ≤ i) := h
    simp [cls, hlt, hb]
end Go.Lx
