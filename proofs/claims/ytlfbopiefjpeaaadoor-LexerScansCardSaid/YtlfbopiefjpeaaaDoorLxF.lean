/- The lexer's functions, by the walk: one token. -/
import Derived.Test.YtlfbopiefjpeaaaDoorLxE
set_option linter.unusedSimpArgs false
set_option linter.unusedVariables false
namespace Go.Lx
open Go Go.Sv Go.Proofs
set_option maxRecDepth 100000
def CtNumber : Prop := ∀ (s : ByteArray), s.size ≤ 9223372036854775807 → PureC E 57 [.str s] (.int .i64 (numErr s.data.toList))
open Classical in
noncomputable def O37 : Orc := ⟨fun f ds => match f, ds with
  | 75, [.str s, .int .i64 i] => if 0 ≤ i then some (.int .u8 (cls s i)) else none
  | 76, [.str s, .int .i64 i] => if 0 ≤ i ∧ i ≤ s.size ∧ s.size ≤ 9223372036854775807 then some (.int .i64 ((i.toNat + wdn (rest s i.toNat) : Nat) : Int)) else none
  | 77, [.str s, .int .i64 i] => if 0 ≤ i ∧ i < s.size ∧ s.size ≤ 9223372036854775807 then some (.int .i64 (sgn (rest s i.toNat) : Int)) else none
  | 57, [.str s] => if CtNumber ∧ s.size ≤ 9223372036854775807 then some (.int .i64 (numErr s.data.toList)) else none
  | _, _ => none, fun _ _ _ => none⟩
theorem O37_ok : OrcOk E O37 := by
  refine ⟨fun f ds r h => ?_, fun _ _ _ _ _ h => by cases h⟩
  simp only [O37] at h
  split at h
  · split at h
    · cases h; exact class75 _ _ (by assumption)
    · cases h
  · rename_i s i
    split at h
    · rename_i hh
      cases h
      have := word76 s i.toNat (by omega) hh.2.2
      rwa [Int.toNat_of_nonneg hh.1] at this
    · cases h
  · rename_i s i
    split at h
    · rename_i hh
      cases h
      have := length77 s i.toNat (by omega) hh.2.2
      rwa [Int.toNat_of_nonneg hh.1] at this
    · cases h
  · split at h
    · rename_i hh
      cases h; exact hh.1 _ hh.2
    · cases h
  · cases h
theorem sgn_le (l : List UInt8) : sgn l ≤ l.length := by
  cases l with
  | nil => simp [sgn]
  | cons b r =>
    simp only [sgn, List.length_cons]
    by_cases hq : r.head? = some 61
    · have : 1 ≤ r.length := by cases r with
        | nil => simp at hq
        | cons c r => simp
      simp only [hq, if_true]
      split
      · omega
      · split <;> omega
    · simp only [hq, if_false]
      split
      · split <;> omega
      · split <;> omega
theorem extract_list (s : ByteArray) (i n : Nat) : (s.extract i (i + n)).data.toList = (rest s i).take n := by
  unfold rest
  simp [ByteArray.data_extract, List.extract_eq_take_drop]
theorem token37 (hN : CtNumber) (src : ByteArray) (i : Nat) (h0 : i ≤ src.size) (hs : src.size ≤ 9223372036854775807) : PureC E 37 [.str src, .int .i64 i] (.tup [(tokenOf src i).1, .int .i64 (tokenOf src i).2]) := by
  refine pure_of_run mixed O37_ok Tryd.func37 (N := 0) (by kernel_rfl) ?_
  have hc := cls_rest src i
  have hnn : (0 : Int) ≤ i := by omega
  by_cases hlt : i < src.size
  · have h1 : ¬ ((i : Int) ≥ src.size) := by omega
    have h2 : ((i : Int) ≤ src.size) := by omega
    have h3 : ((i : Int) < src.size) := by omega
    have hle : ¬ (src.size ≤ i) := by omega
    by_cases c1 : cl (rest src i) = 1
    · have hw : wdn (rest src i) ≤ src.size - i := by rw [← rest_size]; exact wdn_le _
      have h4 : (i : Int) ≤ ((i + wdn (rest src i) : Nat) : Int) := by omega
      have h5 : ((i + wdn (rest src i) : Nat) : Int) ≤ src.size := by omega
      have h6 : (src.extract i (i + wdn (rest src i))).size = wdn (rest src i) := by rw [ByteArray.size_extract]; omega
      by_cases hg : 24 < wdn (rest src i)
      · have hg' : ((wdn (rest src i) : Nat) : Int) > 24 := by omega
        simp (disch := first | assumption | decide +kernel | omega) only [rRes, rFn, rCode, rOps, rOp, rDef, rCall, okOp, okLs, Op.operands, Call.operands, okO, aop, evalO, ofVal, ofLeaf, ofLeaves, putT, List.set, List.replicate, List.cons_append, List.nil_append, List.append_nil, List.length_cons, List.length_nil, List.map_cons, List.map_nil, List.toList_toArray, Array.toList_append, List.all_cons, List.all_nil, List.all_toArray, Array.all_append, List.getD_cons_zero, List.getD_cons_succ, Bool.and_true, Bool.true_and, Bool.and_false, Bool.false_and, Bool.or_true, Bool.or_false, Bool.not_true, Bool.not_false, Bool.true_or, Bool.false_or, aLen, nilUnk, asRead, asPure, asSet, asPush, Eff.app, Eff.ids, getH, aBin, aInt, aStr, aPick, aIndex, aSlice, bound, resOf, resVars, resVar, drawStatic_ok, pairsOk_ok, fnOf, mapRes, res_d, mapRes_d, DV.flat, DV.flat.flatL, yieldedA, AV.isAgg, decide_true, decide_false, reduceIte, Option.isSome, Option.map, Nat.reduceAdd, Nat.reduceSub, Nat.reduceLT, Nat.reduceBEq, Nat.reduceEqDiff, Nat.zero_add, Option.bind, beq_self_eq_true, reduceCtorEq, BEq.rfl, and_self, or_self, false_or, or_false, true_or, or_true, and_true, true_and, and_false, false_and, ne_eq, not_true_eq_false, not_false_eq_true, Array.size_append, List.size_toArray, List.getElem?_toArray, List.getElem?_cons_zero, List.getElem?_cons_succ, List.getElem?_nil, rLoop, Option.toArray_some, Option.toArray_none, Option.toArray, EP, onRun, beq_tf, beq_ft, Int.reduceBEq, Int.reduceBNe, Int.reduceLT, Int.reduceLE, Int.reduceAdd, Int.reduceSub, Int.reduceToNat, List.range, List.range.loop, IntWalk.i64_in, Int.natCast_nonneg,  aLoad, place, elemAt, aStore, aFieldAddr, AV.lies, DV.lies, DV.leaf, AV.leaf, AV.cells, DV.cells, AV.withCells, mkAgg, mkTup, toDs, AV.toD, List.take_zero, List.take_succ_cons, List.take_nil, List.drop_zero, List.drop_succ_cons, List.drop_nil, List.set_cons_zero, List.set_cons_succ, List.all_cons, List.all_nil, aExtract, Nat.reduceLeDiff, Nat.reduceMul, Nat.le_refl, Nat.lt_add_one, List.headD_cons, if_true, if_false, List.map, List.mem_cons, Tryd.f37, O37, Tryd.underlying3, Tryd.underlying5, Tryd.underlying9, hc, hnn, Int.toNat_natCast, alloc53, build53_02, build53, field53_0, field53_1, szT3, szT9, szT53, loadAs3, loadAs9, loadAs53, ByteArray.size_extract, h1, h2, h3, h4, h5, hs, c1, h6, hg']
        simp [tokenOf, hle, c1, hg, tok]
      · have hg' : ¬ (((wdn (rest src i) : Nat) : Int) > 24) := by omega
        simp (disch := first | assumption | decide +kernel | omega) only [rRes, rFn, rCode, rOps, rOp, rDef, rCall, okOp, okLs, Op.operands, Call.operands, okO, aop, evalO, ofVal, ofLeaf, ofLeaves, putT, List.set, List.replicate, List.cons_append, List.nil_append, List.append_nil, List.length_cons, List.length_nil, List.map_cons, List.map_nil, List.toList_toArray, Array.toList_append, List.all_cons, List.all_nil, List.all_toArray, Array.all_append, List.getD_cons_zero, List.getD_cons_succ, Bool.and_true, Bool.true_and, Bool.and_false, Bool.false_and, Bool.or_true, Bool.or_false, Bool.not_true, Bool.not_false, Bool.true_or, Bool.false_or, aLen, nilUnk, asRead, asPure, asSet, asPush, Eff.app, Eff.ids, getH, aBin, aInt, aStr, aPick, aIndex, aSlice, bound, resOf, resVars, resVar, drawStatic_ok, pairsOk_ok, fnOf, mapRes, res_d, mapRes_d, DV.flat, DV.flat.flatL, yieldedA, AV.isAgg, decide_true, decide_false, reduceIte, Option.isSome, Option.map, Nat.reduceAdd, Nat.reduceSub, Nat.reduceLT, Nat.reduceBEq, Nat.reduceEqDiff, Nat.zero_add, Option.bind, beq_self_eq_true, reduceCtorEq, BEq.rfl, and_self, or_self, false_or, or_false, true_or, or_true, and_true, true_and, and_false, false_and, ne_eq, not_true_eq_false, not_false_eq_true, Array.size_append, List.size_toArray, List.getElem?_toArray, List.getElem?_cons_zero, List.getElem?_cons_succ, List.getElem?_nil, rLoop, Option.toArray_some, Option.toArray_none, Option.toArray, EP, onRun, beq_tf, beq_ft, Int.reduceBEq, Int.reduceBNe, Int.reduceLT, Int.reduceLE, Int.reduceAdd, Int.reduceSub, Int.reduceToNat, List.range, List.range.loop, IntWalk.i64_in, Int.natCast_nonneg,  aLoad, place, elemAt, aStore, aFieldAddr, AV.lies, DV.lies, DV.leaf, AV.leaf, AV.cells, DV.cells, AV.withCells, mkAgg, mkTup, toDs, AV.toD, List.take_zero, List.take_succ_cons, List.take_nil, List.drop_zero, List.drop_succ_cons, List.drop_nil, List.set_cons_zero, List.set_cons_succ, List.all_cons, List.all_nil, aExtract, Nat.reduceLeDiff, Nat.reduceMul, Nat.le_refl, Nat.lt_add_one, List.headD_cons, if_true, if_false, List.map, List.mem_cons, Tryd.f37, O37, Tryd.underlying3, Tryd.underlying5, Tryd.underlying9, hc, hnn, Int.toNat_natCast, alloc53, build53_02, build53, field53_0, field53_1, szT3, szT9, szT53, loadAs3, loadAs9, loadAs53, ByteArray.size_extract, h1, h2, h3, h4, h5, hs, c1, h6, hg']
        simp [tokenOf, hle, c1, hg, tok]
    · have c1' : (cl (rest src i) == 1) = false := by simpa using c1
      by_cases c2 : cl (rest src i) = 2
      · have hw : wdn (rest src i) ≤ src.size - i := by rw [← rest_size]; exact wdn_le _
        have h4 : (i : Int) ≤ ((i + wdn (rest src i) : Nat) : Int) := by omega
        have h5 : ((i + wdn (rest src i) : Nat) : Int) ≤ src.size := by omega
        have h6 : (src.extract i (i + wdn (rest src i))).size = wdn (rest src i) := by rw [ByteArray.size_extract]; omega
        have h7 : wdn (rest src i) ≤ 9223372036854775807 := by omega
        simp (disch := first | assumption | decide +kernel | omega) only [rRes, rFn, rCode, rOps, rOp, rDef, rCall, okOp, okLs, Op.operands, Call.operands, okO, aop, evalO, ofVal, ofLeaf, ofLeaves, putT, List.set, List.replicate, List.cons_append, List.nil_append, List.append_nil, List.length_cons, List.length_nil, List.map_cons, List.map_nil, List.toList_toArray, Array.toList_append, List.all_cons, List.all_nil, List.all_toArray, Array.all_append, List.getD_cons_zero, List.getD_cons_succ, Bool.and_true, Bool.true_and, Bool.and_false, Bool.false_and, Bool.or_true, Bool.or_false, Bool.not_true, Bool.not_false, Bool.true_or, Bool.false_or, aLen, nilUnk, asRead, asPure, asSet, asPush, Eff.app, Eff.ids, getH, aBin, aInt, aStr, aPick, aIndex, aSlice, bound, resOf, resVars, resVar, drawStatic_ok, pairsOk_ok, fnOf, mapRes, res_d, mapRes_d, DV.flat, DV.flat.flatL, yieldedA, AV.isAgg, decide_true, decide_false, reduceIte, Option.isSome, Option.map, Nat.reduceAdd, Nat.reduceSub, Nat.reduceLT, Nat.reduceBEq, Nat.reduceEqDiff, Nat.zero_add, Option.bind, beq_self_eq_true, reduceCtorEq, BEq.rfl, and_self, or_self, false_or, or_false, true_or, or_true, and_true, true_and, and_false, false_and, ne_eq, not_true_eq_false, not_false_eq_true, Array.size_append, List.size_toArray, List.getElem?_toArray, List.getElem?_cons_zero, List.getElem?_cons_succ, List.getElem?_nil, rLoop, Option.toArray_some, Option.toArray_none, Option.toArray, EP, onRun, beq_tf, beq_ft, Int.reduceBEq, Int.reduceBNe, Int.reduceLT, Int.reduceLE, Int.reduceAdd, Int.reduceSub, Int.reduceToNat, List.range, List.range.loop, IntWalk.i64_in, Int.natCast_nonneg,  aLoad, place, elemAt, aStore, aFieldAddr, AV.lies, DV.lies, DV.leaf, AV.leaf, AV.cells, DV.cells, AV.withCells, mkAgg, mkTup, toDs, AV.toD, List.take_zero, List.take_succ_cons, List.take_nil, List.drop_zero, List.drop_succ_cons, List.drop_nil, List.set_cons_zero, List.set_cons_succ, List.all_cons, List.all_nil, aExtract, Nat.reduceLeDiff, Nat.reduceMul, Nat.le_refl, Nat.lt_add_one, List.headD_cons, if_true, if_false, List.map, List.mem_cons, Tryd.f37, O37, Tryd.underlying3, Tryd.underlying5, Tryd.underlying9, hc, hnn, Int.toNat_natCast, alloc53, build53_02, build53, field53_0, field53_1, szT3, szT9, szT53, loadAs3, loadAs9, loadAs53, ByteArray.size_extract, h1, h2, h3, h4, h5, hs, c1', c2, h6, h7, hN]
        simp [tokenOf, hle, c1, c2, tok, extract_list]
        rfl
      · have c2' : (cl (rest src i) == 2) = false := by simpa using c2
        have hw : sgn (rest src i) ≤ src.size - i := by rw [← rest_size]; exact sgn_le _
        have h4 : (i : Int) ≤ (i : Int) + ((sgn (rest src i) : Nat) : Int) := by omega
        have h5 : (i : Int) + ((sgn (rest src i) : Nat) : Int) ≤ src.size := by omega
        have h6 : ((i : Int) + ((sgn (rest src i) : Nat) : Int)).toNat = i + sgn (rest src i) := by omega
        by_cases hz : sgn (rest src i) = 0
        · have hz' : (((sgn (rest src i) : Nat) : Int) == 0) = true := by simp [hz]
          simp (disch := first | assumption | decide +kernel | omega) only [rRes, rFn, rCode, rOps, rOp, rDef, rCall, okOp, okLs, Op.operands, Call.operands, okO, aop, evalO, ofVal, ofLeaf, ofLeaves, putT, List.set, List.replicate, List.cons_append, List.nil_append, List.append_nil, List.length_cons, List.length_nil, List.map_cons, List.map_nil, List.toList_toArray, Array.toList_append, List.all_cons, List.all_nil, List.all_toArray, Array.all_append, List.getD_cons_zero, List.getD_cons_succ, Bool.and_true, Bool.true_and, Bool.and_false, Bool.false_and, Bool.or_true, Bool.or_false, Bool.not_true, Bool.not_false, Bool.true_or, Bool.false_or, aLen, nilUnk, asRead, asPure, asSet, asPush, Eff.app, Eff.ids, getH, aBin, aInt, aStr, aPick, aIndex, aSlice, bound, resOf, resVars, resVar, drawStatic_ok, pairsOk_ok, fnOf, mapRes, res_d, mapRes_d, DV.flat, DV.flat.flatL, yieldedA, AV.isAgg, decide_true, decide_false, reduceIte, Option.isSome, Option.map, Nat.reduceAdd, Nat.reduceSub, Nat.reduceLT, Nat.reduceBEq, Nat.reduceEqDiff, Nat.zero_add, Option.bind, beq_self_eq_true, reduceCtorEq, BEq.rfl, and_self, or_self, false_or, or_false, true_or, or_true, and_true, true_and, and_false, false_and, ne_eq, not_true_eq_false, not_false_eq_true, Array.size_append, List.size_toArray, List.getElem?_toArray, List.getElem?_cons_zero, List.getElem?_cons_succ, List.getElem?_nil, rLoop, Option.toArray_some, Option.toArray_none, Option.toArray, EP, onRun, beq_tf, beq_ft, Int.reduceBEq, Int.reduceBNe, Int.reduceLT, Int.reduceLE, Int.reduceAdd, Int.reduceSub, Int.reduceToNat, List.range, List.range.loop, IntWalk.i64_in, Int.natCast_nonneg,  aLoad, place, elemAt, aStore, aFieldAddr, AV.lies, DV.lies, DV.leaf, AV.leaf, AV.cells, DV.cells, AV.withCells, mkAgg, mkTup, toDs, AV.toD, List.take_zero, List.take_succ_cons, List.take_nil, List.drop_zero, List.drop_succ_cons, List.drop_nil, List.set_cons_zero, List.set_cons_succ, List.all_cons, List.all_nil, aExtract, Nat.reduceLeDiff, Nat.reduceMul, Nat.le_refl, Nat.lt_add_one, List.headD_cons, if_true, if_false, List.map, List.mem_cons, Tryd.f37, O37, Tryd.underlying3, Tryd.underlying5, Tryd.underlying9, hc, hnn, Int.toNat_natCast, alloc53, build53_02, build53, field53_0, field53_1, szT3, szT9, szT53, loadAs3, loadAs9, loadAs53, ByteArray.size_extract, h1, h2, h3, h4, h5, h6, hs, c1', c2', hz']
          simp [tokenOf, hle, c1, c2, hz, tok]
        · have hz' : (((sgn (rest src i) : Nat) : Int) == 0) = false := by simp [hz]
          simp (disch := first | assumption | decide +kernel | omega) only [rRes, rFn, rCode, rOps, rOp, rDef, rCall, okOp, okLs, Op.operands, Call.operands, okO, aop, evalO, ofVal, ofLeaf, ofLeaves, putT, List.set, List.replicate, List.cons_append, List.nil_append, List.append_nil, List.length_cons, List.length_nil, List.map_cons, List.map_nil, List.toList_toArray, Array.toList_append, List.all_cons, List.all_nil, List.all_toArray, Array.all_append, List.getD_cons_zero, List.getD_cons_succ, Bool.and_true, Bool.true_and, Bool.and_false, Bool.false_and, Bool.or_true, Bool.or_false, Bool.not_true, Bool.not_false, Bool.true_or, Bool.false_or, aLen, nilUnk, asRead, asPure, asSet, asPush, Eff.app, Eff.ids, getH, aBin, aInt, aStr, aPick, aIndex, aSlice, bound, resOf, resVars, resVar, drawStatic_ok, pairsOk_ok, fnOf, mapRes, res_d, mapRes_d, DV.flat, DV.flat.flatL, yieldedA, AV.isAgg, decide_true, decide_false, reduceIte, Option.isSome, Option.map, Nat.reduceAdd, Nat.reduceSub, Nat.reduceLT, Nat.reduceBEq, Nat.reduceEqDiff, Nat.zero_add, Option.bind, beq_self_eq_true, reduceCtorEq, BEq.rfl, and_self, or_self, false_or, or_false, true_or, or_true, and_true, true_and, and_false, false_and, ne_eq, not_true_eq_false, not_false_eq_true, Array.size_append, List.size_toArray, List.getElem?_toArray, List.getElem?_cons_zero, List.getElem?_cons_succ, List.getElem?_nil, rLoop, Option.toArray_some, Option.toArray_none, Option.toArray, EP, onRun, beq_tf, beq_ft, Int.reduceBEq, Int.reduceBNe, Int.reduceLT, Int.reduceLE, Int.reduceAdd, Int.reduceSub, Int.reduceToNat, List.range, List.range.loop, IntWalk.i64_in, Int.natCast_nonneg,  aLoad, place, elemAt, aStore, aFieldAddr, AV.lies, DV.lies, DV.leaf, AV.leaf, AV.cells, DV.cells, AV.withCells, mkAgg, mkTup, toDs, AV.toD, List.take_zero, List.take_succ_cons, List.take_nil, List.drop_zero, List.drop_succ_cons, List.drop_nil, List.set_cons_zero, List.set_cons_succ, List.all_cons, List.all_nil, aExtract, Nat.reduceLeDiff, Nat.reduceMul, Nat.le_refl, Nat.lt_add_one, List.headD_cons, if_true, if_false, List.map, List.mem_cons, Tryd.f37, O37, Tryd.underlying3, Tryd.underlying5, Tryd.underlying9, hc, hnn, Int.toNat_natCast, alloc53, build53_02, build53, field53_0, field53_1, szT3, szT9, szT53, loadAs3, loadAs9, loadAs53, ByteArray.size_extract, h1, h2, h3, h4, h5, h6, hs, c1', c2', hz']
          simp [tokenOf, hle, c1, c2, hz, tok]
  · have h1 : ((i : Int) ≥ src.size) := by omega
    simp (disch := first | assumption | decide +kernel | omega) only [rRes, rFn, rCode, rOps, rOp, rDef, rCall, okOp, okLs, Op.operands, Call.operands, okO, aop, evalO, ofVal, ofLeaf, ofLeaves, putT, List.set, List.replicate, List.cons_append, List.nil_append, List.append_nil, List.length_cons, List.length_nil, List.map_cons, List.map_nil, List.toList_toArray, Array.toList_append, List.all_cons, List.all_nil, List.all_toArray, Array.all_append, List.getD_cons_zero, List.getD_cons_succ, Bool.and_true, Bool.true_and, Bool.and_false, Bool.false_and, Bool.or_true, Bool.or_false, Bool.not_true, Bool.not_false, Bool.true_or, Bool.false_or, aLen, nilUnk, asRead, asPure, asSet, asPush, Eff.app, Eff.ids, getH, aBin, aInt, aStr, aPick, aIndex, aSlice, bound, resOf, resVars, resVar, drawStatic_ok, pairsOk_ok, fnOf, mapRes, res_d, mapRes_d, DV.flat, DV.flat.flatL, yieldedA, AV.isAgg, decide_true, decide_false, reduceIte, Option.isSome, Option.map, Nat.reduceAdd, Nat.reduceSub, Nat.reduceLT, Nat.reduceBEq, Nat.reduceEqDiff, Nat.zero_add, Option.bind, beq_self_eq_true, reduceCtorEq, BEq.rfl, and_self, or_self, false_or, or_false, true_or, or_true, and_true, true_and, and_false, false_and, ne_eq, not_true_eq_false, not_false_eq_true, Array.size_append, List.size_toArray, List.getElem?_toArray, List.getElem?_cons_zero, List.getElem?_cons_succ, List.getElem?_nil, rLoop, Option.toArray_some, Option.toArray_none, Option.toArray, EP, onRun, beq_tf, beq_ft, Int.reduceBEq, Int.reduceBNe, Int.reduceLT, Int.reduceLE, Int.reduceAdd, Int.reduceSub, Int.reduceToNat, List.range, List.range.loop, IntWalk.i64_in, Int.natCast_nonneg,  aLoad, place, elemAt, aStore, aFieldAddr, AV.lies, DV.lies, DV.leaf, AV.leaf, AV.cells, DV.cells, AV.withCells, mkAgg, mkTup, toDs, AV.toD, List.take_zero, List.take_succ_cons, List.take_nil, List.drop_zero, List.drop_succ_cons, List.drop_nil, List.set_cons_zero, List.set_cons_succ, List.all_cons, List.all_nil, aExtract, Nat.reduceLeDiff, Nat.reduceMul, Nat.le_refl, Nat.lt_add_one, List.headD_cons, if_true, if_false, List.map, List.mem_cons, Tryd.f37, O37, Tryd.underlying3, Tryd.underlying5, Tryd.underlying9, h1, alloc53, build53_02, szT53, loadAs53]
    have hle : src.size ≤ i := by omega
    simp [tokenOf, hle, tok]
end Go.Lx
