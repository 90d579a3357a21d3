/- The lexer's functions, by the walk. -/
import Derived.Test.YtlfbopiefjpeaaaDoorLxB
import Derived.Test.YtlfbopiefjpeaaaDoorSvU
import Derived.IntWalk
set_option linter.unusedSimpArgs false
set_option linter.unusedVariables false
namespace Go.Lx
open Go Go.Sv Go.Proofs
set_option maxRecDepth 100000
/-- The rest of a text, from an offset on. -/
def rest (s : ByteArray) (i : Nat) : List UInt8 := s.data.toList.drop i
/-- The class of a byte. -/
def cb (b : UInt8) : Int := clsL.getD b.toNat 0
/-- The class of a text's first byte. -/
def cl : List UInt8 → Int
  | [] => 0
  | b :: _ => cb b
/-- How many bytes are blanks and comments. -/
def skn : Bool → List UInt8 → Nat
  | _, [] => 0
  | true, b :: r => if b = 10 then 1 + skn false r else 1 + skn true r
  | false, b :: r => if cb b = 3 then 1 + skn false r else if cb b = 4 then 1 + skn true r else 0
theorem rest_size (s : ByteArray) (i : Nat) : (rest s i).length = s.size - i := by simp [rest]
theorem cls_rest (s : ByteArray) (i : Nat) : cls s i = cl (rest s i) := by
  unfold cls rest
  by_cases h : (i : Int) ≥ s.size
  · have : s.data.toList.length ≤ i := by simpa using h
    rw [if_pos h, List.drop_eq_nil_of_le this]; rfl
  · have hlt : i < s.data.toList.length := by simpa using h
    rw [if_neg h, List.drop_eq_getElem_cons hlt]
    have : i < s.data.size := by simpa using hlt
    have e : s.data[i]? = some s.data[i] := Array.getElem?_eq_getElem this
    simp [cl, cb, e]

theorem rest_cons {s : ByteArray} {i : Nat} (h : i < s.size) : ∃ b, s.data[i]? = some b ∧ rest s i = b :: rest s (i + 1) := by
  have hlt : i < s.data.toList.length := by simpa using h
  refine ⟨s.data[i]'(by simpa using hlt), Array.getElem?_eq_getElem _, ?_⟩
  unfold rest
  rw [List.drop_eq_getElem_cons hlt]
  simp
theorem rest_nil {s : ByteArray} {i : Nat} (h : s.size ≤ i) : rest s i = [] := List.drop_eq_nil_of_le (by simpa using h)
theorem skn_le : ∀ (l : List UInt8) (b : Bool), skn b l ≤ l.length := by
  intro l
  induction l with
  | nil => intro b; cases b <;> simp [skn]
  | cons x r ih =>
    intro b
    have h1 := ih true
    have h2 := ih false
    cases b
    · simp only [skn, List.length_cons]; repeat' split
      all_goals omega
    · simp only [skn, List.length_cons]; repeat' split
      all_goals omega
theorem beq_t {c : UInt8} (d : UInt8) {n : Int} (hn : n = d.toNat) (h : c = d) : ((c.toNat : Int) == n) = true := by subst hn; subst h; simp
theorem beq_f {c : UInt8} (d : UInt8) {n : Int} (hn : n = d.toNat) (h : ¬ c = d) : ((c.toNat : Int) == n) = false := by
  subst hn
  rw [beq_eq_false_iff_ne]
  intro e
  exact h (UInt8.toNat_inj.1 (by exact_mod_cast e))
def O75 : Orc := ⟨fun f ds => match f, ds with
  | 75, [.str s, .int .i64 i] => if 0 ≤ i then some (.int .u8 (cls s i)) else none
  | _, _ => none, fun _ _ _ => none⟩
theorem O75_ok : OrcOk E O75 := by
  refine ⟨fun f ds r h => ?_, fun _ _ _ _ _ h => by cases h⟩
  simp only [O75] at h
  split at h
  · split at h
    · cases h; exact class75 _ _ (by assumption)
    · cases h
  · cases h
theorem skip36 (src : ByteArray) (i : Nat) (h0 : i ≤ src.size) (hs : src.size ≤ 9223372036854775807) : PureC E 36 [.str src, .int .i64 i] (.int .i64 ((i + skn false (rest src i) : Nat) : Int)) := by
  generalize hR : i + skn false (rest src i) = R
  refine pure_of mixed Tryd.func36 rfl (by kernel_rfl) ?_
  unfold exFn
  refine ex_seq (ex_run O75_ok 0 ?_)
  simp only [rRes, rFn, rCode, rOps, rOp, rDef, rCall, okOp, okLs, Op.operands, Call.operands, okO, aop, evalO, ofVal, ofLeaf, ofLeaves, putT, List.set, List.replicate, List.cons_append, List.nil_append, List.append_nil, List.length_cons, List.length_nil, List.map_cons, List.map_nil, List.toList_toArray, Array.toList_append, List.all_cons, List.all_nil, List.all_toArray, Array.all_append, List.getD_cons_zero, List.getD_cons_succ, Bool.and_true, Bool.true_and, Bool.and_false, Bool.false_and, Bool.or_true, Bool.or_false, Bool.not_true, Bool.not_false, Bool.true_or, Bool.false_or, aLen, nilUnk, asRead, asPure, asSet, asPush, Eff.app, Eff.ids, getH, aBin, aInt, aStr, aPick, aIndex, aSlice, bound, resOf, resVars, resVar, drawStatic_ok, pairsOk_ok, fnOf, mapRes, res_d, mapRes_d, DV.flat, DV.flat.flatL, yieldedA, AV.isAgg, decide_true, decide_false, reduceIte, Option.isSome, Option.map, Nat.reduceAdd, Nat.reduceSub, Nat.reduceLT, Nat.reduceBEq, Nat.reduceEqDiff, Nat.zero_add, Option.bind, beq_self_eq_true, reduceCtorEq, BEq.rfl, and_self, or_self, false_or, or_false, true_or, or_true, and_true, true_and, and_false, false_and, ne_eq, not_true_eq_false, not_false_eq_true, Array.size_append, List.size_toArray, List.getElem?_toArray, List.getElem?_cons_zero, List.getElem?_cons_succ, List.getElem?_nil, rLoop, Option.toArray_some, Option.toArray_none, Option.toArray, EP, Tryd.f36, onRun]
  refine ex_scope ?_
  repeat refine ex_assoc ?_
  refine ex_seq (ex_label ?_)
  dsimp only
  refine ex_seq (ex_block ?_)
  refine ex_loop (fun s => ∃ j : Nat, i ≤ j ∧ j ≤ src.size ∧ j + skn false (rest src j) = R ∧ Tm 25 [] (fun f => f 0 = .d (.str src) ∧ f 1 = .d (.int .i64 j)) s) (fun s => match s.tmps.getD 1 .un with | .d (.int _ n) => src.size - n.toNat | _ => 0) ?_ ?_
  · rintro s ⟨j, hj0, hj1, hj2, f, rfl, hf0, hf1⟩
    have hc := cls_rest src j
    have hjn : (0 : Int) ≤ j := Int.natCast_nonneg j
    by_cases hlt : j < src.size
    · obtain ⟨b, hb, hr⟩ := rest_cons hlt
      rw [hr] at hc hj2
      have hc' : cls src j = cb b := hc
      by_cases h3 : cb b = 3
      · refine ex_run O75_ok 0 ?_
        simp (disch := first | assumption | decide +kernel | omega) only [rRes, rFn, rCode, rOps, rOp, rDef, rCall, okOp, okLs, Op.operands, Call.operands, okO, aop, evalO, ofVal, ofLeaf, ofLeaves, putT, List.set, List.replicate, List.cons_append, List.nil_append, List.append_nil, List.length_cons, List.length_nil, List.map_cons, List.map_nil, List.toList_toArray, Array.toList_append, List.all_cons, List.all_nil, List.all_toArray, Array.all_append, List.getD_cons_zero, List.getD_cons_succ, Bool.and_true, Bool.true_and, Bool.and_false, Bool.false_and, Bool.or_true, Bool.or_false, Bool.not_true, Bool.not_false, Bool.true_or, Bool.false_or, aLen, nilUnk, asRead, asPure, asSet, asPush, Eff.app, Eff.ids, getH, aBin, aInt, aStr, aPick, aIndex, aSlice, bound, resOf, resVars, resVar, drawStatic_ok, pairsOk_ok, fnOf, mapRes, res_d, mapRes_d, DV.flat, DV.flat.flatL, yieldedA, AV.isAgg, decide_true, decide_false, reduceIte, Option.isSome, Option.map, Nat.reduceAdd, Nat.reduceSub, Nat.reduceLT, Nat.reduceBEq, Nat.reduceEqDiff, Nat.zero_add, Option.bind, beq_self_eq_true, reduceCtorEq, BEq.rfl, and_self, or_self, false_or, or_false, true_or, or_true, and_true, true_and, and_false, false_and, ne_eq, not_true_eq_false, not_false_eq_true, Array.size_append, List.size_toArray, List.getElem?_toArray, List.getElem?_cons_zero, List.getElem?_cons_succ, List.getElem?_nil, rLoop, Option.toArray_some, Option.toArray_none, Option.toArray, EP, onRun, beq_tf, beq_ft, Int.reduceBEq, Int.reduceBNe, Int.reduceLT, Int.reduceLE, Int.reduceAdd, Int.reduceSub, Int.reduceToNat, List.range, List.range.loop, IntWalk.i64_in, Int.natCast_nonneg,  O75, hf0, hf1, hc', h3, Tryd.underlying3, Tryd.underlying5, Tryd.underlying9]
        refine ⟨⟨j + 1, by omega, by omega, ?_, tm_of rfl ⟨rfl, rfl⟩⟩, by omega⟩
        simp only [skn, h3, if_true] at hj2
        omega
      · by_cases h4 : cb b = 4
        · have hne : ¬ (b = 10) := by
            rintro rfl
            exact h3 (by decide +kernel)
          refine ex_block (ex_seq (ex_run O75_ok 0 ?_))
          simp (disch := first | assumption | decide +kernel | omega) only [rRes, rFn, rCode, rOps, rOp, rDef, rCall, okOp, okLs, Op.operands, Call.operands, okO, aop, evalO, ofVal, ofLeaf, ofLeaves, putT, List.set, List.replicate, List.cons_append, List.nil_append, List.append_nil, List.length_cons, List.length_nil, List.map_cons, List.map_nil, List.toList_toArray, Array.toList_append, List.all_cons, List.all_nil, List.all_toArray, Array.all_append, List.getD_cons_zero, List.getD_cons_succ, Bool.and_true, Bool.true_and, Bool.and_false, Bool.false_and, Bool.or_true, Bool.or_false, Bool.not_true, Bool.not_false, Bool.true_or, Bool.false_or, aLen, nilUnk, asRead, asPure, asSet, asPush, Eff.app, Eff.ids, getH, aBin, aInt, aStr, aPick, aIndex, aSlice, bound, resOf, resVars, resVar, drawStatic_ok, pairsOk_ok, fnOf, mapRes, res_d, mapRes_d, DV.flat, DV.flat.flatL, yieldedA, AV.isAgg, decide_true, decide_false, reduceIte, Option.isSome, Option.map, Nat.reduceAdd, Nat.reduceSub, Nat.reduceLT, Nat.reduceBEq, Nat.reduceEqDiff, Nat.zero_add, Option.bind, beq_self_eq_true, reduceCtorEq, BEq.rfl, and_self, or_self, false_or, or_false, true_or, or_true, and_true, true_and, and_false, false_and, ne_eq, not_true_eq_false, not_false_eq_true, Array.size_append, List.size_toArray, List.getElem?_toArray, List.getElem?_cons_zero, List.getElem?_cons_succ, List.getElem?_nil, rLoop, Option.toArray_some, Option.toArray_none, Option.toArray, EP, onRun, beq_tf, beq_ft, Int.reduceBEq, Int.reduceBNe, Int.reduceLT, Int.reduceLE, Int.reduceAdd, Int.reduceSub, Int.reduceToNat, List.range, List.range.loop, IntWalk.i64_in, Int.natCast_nonneg,  O75, hf0, hf1, hc', h4, Tryd.underlying3, Tryd.underlying5, Tryd.underlying9]
          refine ex_block (ex_seq (ex_run O75_ok 0 ?_))
          simp (disch := first | assumption | decide +kernel | omega) only [rRes, rFn, rCode, rOps, rOp, rDef, rCall, okOp, okLs, Op.operands, Call.operands, okO, aop, evalO, ofVal, ofLeaf, ofLeaves, putT, List.set, List.replicate, List.cons_append, List.nil_append, List.append_nil, List.length_cons, List.length_nil, List.map_cons, List.map_nil, List.toList_toArray, Array.toList_append, List.all_cons, List.all_nil, List.all_toArray, Array.all_append, List.getD_cons_zero, List.getD_cons_succ, Bool.and_true, Bool.true_and, Bool.and_false, Bool.false_and, Bool.or_true, Bool.or_false, Bool.not_true, Bool.not_false, Bool.true_or, Bool.false_or, aLen, nilUnk, asRead, asPure, asSet, asPush, Eff.app, Eff.ids, getH, aBin, aInt, aStr, aPick, aIndex, aSlice, bound, resOf, resVars, resVar, drawStatic_ok, pairsOk_ok, fnOf, mapRes, res_d, mapRes_d, DV.flat, DV.flat.flatL, yieldedA, AV.isAgg, decide_true, decide_false, reduceIte, Option.isSome, Option.map, Nat.reduceAdd, Nat.reduceSub, Nat.reduceLT, Nat.reduceBEq, Nat.reduceEqDiff, Nat.zero_add, Option.bind, beq_self_eq_true, reduceCtorEq, BEq.rfl, and_self, or_self, false_or, or_false, true_or, or_true, and_true, true_and, and_false, false_and, ne_eq, not_true_eq_false, not_false_eq_true, Array.size_append, List.size_toArray, List.getElem?_toArray, List.getElem?_cons_zero, List.getElem?_cons_succ, List.getElem?_nil, rLoop, Option.toArray_some, Option.toArray_none, Option.toArray, EP, onRun, beq_tf, beq_ft, Int.reduceBEq, Int.reduceBNe, Int.reduceLT, Int.reduceLE, Int.reduceAdd, Int.reduceSub, Int.reduceToNat, List.range, List.range.loop, IntWalk.i64_in, Int.natCast_nonneg,  Tryd.underlying3, Tryd.underlying5, Tryd.underlying9]
          refine ex_cond_run rfl rfl (fun e => (by cases e)) (fun _ => ?_)
          refine ex_seq (ex_run O75_ok 0 ?_)
          simp (disch := first | assumption | decide +kernel | omega) only [rRes, rFn, rCode, rOps, rOp, rDef, rCall, okOp, okLs, Op.operands, Call.operands, okO, aop, evalO, ofVal, ofLeaf, ofLeaves, putT, List.set, List.replicate, List.cons_append, List.nil_append, List.append_nil, List.length_cons, List.length_nil, List.map_cons, List.map_nil, List.toList_toArray, Array.toList_append, List.all_cons, List.all_nil, List.all_toArray, Array.all_append, List.getD_cons_zero, List.getD_cons_succ, Bool.and_true, Bool.true_and, Bool.and_false, Bool.false_and, Bool.or_true, Bool.or_false, Bool.not_true, Bool.not_false, Bool.true_or, Bool.false_or, aLen, nilUnk, asRead, asPure, asSet, asPush, Eff.app, Eff.ids, getH, aBin, aInt, aStr, aPick, aIndex, aSlice, bound, resOf, resVars, resVar, drawStatic_ok, pairsOk_ok, fnOf, mapRes, res_d, mapRes_d, DV.flat, DV.flat.flatL, yieldedA, AV.isAgg, decide_true, decide_false, reduceIte, Option.isSome, Option.map, Nat.reduceAdd, Nat.reduceSub, Nat.reduceLT, Nat.reduceBEq, Nat.reduceEqDiff, Nat.zero_add, Option.bind, beq_self_eq_true, reduceCtorEq, BEq.rfl, and_self, or_self, false_or, or_false, true_or, or_true, and_true, true_and, and_false, false_and, ne_eq, not_true_eq_false, not_false_eq_true, Array.size_append, List.size_toArray, List.getElem?_toArray, List.getElem?_cons_zero, List.getElem?_cons_succ, List.getElem?_nil, rLoop, Option.toArray_some, Option.toArray_none, Option.toArray, EP, onRun, beq_tf, beq_ft, Int.reduceBEq, Int.reduceBNe, Int.reduceLT, Int.reduceLE, Int.reduceAdd, Int.reduceSub, Int.reduceToNat, List.range, List.range.loop, IntWalk.i64_in, Int.natCast_nonneg,  Tryd.underlying3, Tryd.underlying5, Tryd.underlying9]
          refine ex_cond_run rfl rfl (fun _ => ?_) (fun e => (by cases e))
          refine ex_block ?_
          refine ex_loop (fun s => ∃ m : Nat, j ≤ m ∧ m ≤ src.size ∧ m + skn true (rest src m) = R ∧ (m = j → m < src.size) ∧ Tm 25 [] (fun f => f 0 = .d (.str src) ∧ f 1 = .d (.int .i64 m)) s) (fun s => match s.tmps.getD 1 .un with | .d (.int _ n) => src.size - n.toNat | _ => 0) ?_ ?_
          · rintro s ⟨m, hm0, hm1, hm2, hm3, f, rfl, hf0, hf1⟩
            by_cases hmt : m < src.size
            · obtain ⟨c, hc, hrc⟩ := rest_cons hmt
              rw [hrc] at hm2
              have hmi : ((m : Int) < (src.size : Int)) := by omega
              by_cases h10 : c = 10
              · have hv := beq_t (n := 10) 10 rfl h10
                refine ex_run O75_ok 0 ?_
                simp (disch := first | assumption | decide +kernel | omega) only [rRes, rFn, rCode, rOps, rOp, rDef, rCall, okOp, okLs, Op.operands, Call.operands, okO, aop, evalO, ofVal, ofLeaf, ofLeaves, putT, List.set, List.replicate, List.cons_append, List.nil_append, List.append_nil, List.length_cons, List.length_nil, List.map_cons, List.map_nil, List.toList_toArray, Array.toList_append, List.all_cons, List.all_nil, List.all_toArray, Array.all_append, List.getD_cons_zero, List.getD_cons_succ, Bool.and_true, Bool.true_and, Bool.and_false, Bool.false_and, Bool.or_true, Bool.or_false, Bool.not_true, Bool.not_false, Bool.true_or, Bool.false_or, aLen, nilUnk, asRead, asPure, asSet, asPush, Eff.app, Eff.ids, getH, aBin, aInt, aStr, aPick, aIndex, aSlice, bound, resOf, resVars, resVar, drawStatic_ok, pairsOk_ok, fnOf, mapRes, res_d, mapRes_d, DV.flat, DV.flat.flatL, yieldedA, AV.isAgg, decide_true, decide_false, reduceIte, Option.isSome, Option.map, Nat.reduceAdd, Nat.reduceSub, Nat.reduceLT, Nat.reduceBEq, Nat.reduceEqDiff, Nat.zero_add, Option.bind, beq_self_eq_true, reduceCtorEq, BEq.rfl, and_self, or_self, false_or, or_false, true_or, or_true, and_true, true_and, and_false, false_and, ne_eq, not_true_eq_false, not_false_eq_true, Array.size_append, List.size_toArray, List.getElem?_toArray, List.getElem?_cons_zero, List.getElem?_cons_succ, List.getElem?_nil, rLoop, Option.toArray_some, Option.toArray_none, Option.toArray, EP, onRun, beq_tf, beq_ft, Int.reduceBEq, Int.reduceBNe, Int.reduceLT, Int.reduceLE, Int.reduceAdd, Int.reduceSub, Int.reduceToNat, List.range, List.range.loop, IntWalk.i64_in, Int.natCast_nonneg,  hf0, hf1, hmi, hc, hv, Tryd.underlying3, Tryd.underlying5, Tryd.underlying9, Int.toNat_natCast]
                simp only [skn, h10, if_true] at hm2
                refine ⟨⟨m, by omega, hm1, ?_, tm_of rfl ⟨rfl, rfl⟩⟩, ?_⟩
                · rw [hrc]; simp only [skn, h10]; rw [if_pos (by decide +kernel)]; omega
                · show src.size - (m : Int).toNat < src.size - j
                  have : m ≠ j := by
                    rintro rfl
                    rw [hr] at hrc
                    injection hrc with e _
                    exact hne (e.trans h10)
                  omega
              · have hv := beq_f (n := 10) 10 rfl h10
                refine ex_run O75_ok 0 ?_
                simp (disch := first | assumption | decide +kernel | omega) only [rRes, rFn, rCode, rOps, rOp, rDef, rCall, okOp, okLs, Op.operands, Call.operands, okO, aop, evalO, ofVal, ofLeaf, ofLeaves, putT, List.set, List.replicate, List.cons_append, List.nil_append, List.append_nil, List.length_cons, List.length_nil, List.map_cons, List.map_nil, List.toList_toArray, Array.toList_append, List.all_cons, List.all_nil, List.all_toArray, Array.all_append, List.getD_cons_zero, List.getD_cons_succ, Bool.and_true, Bool.true_and, Bool.and_false, Bool.false_and, Bool.or_true, Bool.or_false, Bool.not_true, Bool.not_false, Bool.true_or, Bool.false_or, aLen, nilUnk, asRead, asPure, asSet, asPush, Eff.app, Eff.ids, getH, aBin, aInt, aStr, aPick, aIndex, aSlice, bound, resOf, resVars, resVar, drawStatic_ok, pairsOk_ok, fnOf, mapRes, res_d, mapRes_d, DV.flat, DV.flat.flatL, yieldedA, AV.isAgg, decide_true, decide_false, reduceIte, Option.isSome, Option.map, Nat.reduceAdd, Nat.reduceSub, Nat.reduceLT, Nat.reduceBEq, Nat.reduceEqDiff, Nat.zero_add, Option.bind, beq_self_eq_true, reduceCtorEq, BEq.rfl, and_self, or_self, false_or, or_false, true_or, or_true, and_true, true_and, and_false, false_and, ne_eq, not_true_eq_false, not_false_eq_true, Array.size_append, List.size_toArray, List.getElem?_toArray, List.getElem?_cons_zero, List.getElem?_cons_succ, List.getElem?_nil, rLoop, Option.toArray_some, Option.toArray_none, Option.toArray, EP, onRun, beq_tf, beq_ft, Int.reduceBEq, Int.reduceBNe, Int.reduceLT, Int.reduceLE, Int.reduceAdd, Int.reduceSub, Int.reduceToNat, List.range, List.range.loop, IntWalk.i64_in, Int.natCast_nonneg,  hf0, hf1, hmi, hc, hv, Tryd.underlying3, Tryd.underlying5, Tryd.underlying9, Int.toNat_natCast]
                simp only [skn, h10, if_false] at hm2
                refine ⟨⟨m + 1, by omega, by omega, by omega, by omega, tm_of rfl ⟨rfl, rfl⟩⟩, by omega⟩
            · have hmi : ¬ ((m : Int) < (src.size : Int)) := by omega
              refine ex_run O75_ok 0 ?_
              simp (disch := first | assumption | decide +kernel | omega) only [rRes, rFn, rCode, rOps, rOp, rDef, rCall, okOp, okLs, Op.operands, Call.operands, okO, aop, evalO, ofVal, ofLeaf, ofLeaves, putT, List.set, List.replicate, List.cons_append, List.nil_append, List.append_nil, List.length_cons, List.length_nil, List.map_cons, List.map_nil, List.toList_toArray, Array.toList_append, List.all_cons, List.all_nil, List.all_toArray, Array.all_append, List.getD_cons_zero, List.getD_cons_succ, Bool.and_true, Bool.true_and, Bool.and_false, Bool.false_and, Bool.or_true, Bool.or_false, Bool.not_true, Bool.not_false, Bool.true_or, Bool.false_or, aLen, nilUnk, asRead, asPure, asSet, asPush, Eff.app, Eff.ids, getH, aBin, aInt, aStr, aPick, aIndex, aSlice, bound, resOf, resVars, resVar, drawStatic_ok, pairsOk_ok, fnOf, mapRes, res_d, mapRes_d, DV.flat, DV.flat.flatL, yieldedA, AV.isAgg, decide_true, decide_false, reduceIte, Option.isSome, Option.map, Nat.reduceAdd, Nat.reduceSub, Nat.reduceLT, Nat.reduceBEq, Nat.reduceEqDiff, Nat.zero_add, Option.bind, beq_self_eq_true, reduceCtorEq, BEq.rfl, and_self, or_self, false_or, or_false, true_or, or_true, and_true, true_and, and_false, false_and, ne_eq, not_true_eq_false, not_false_eq_true, Array.size_append, List.size_toArray, List.getElem?_toArray, List.getElem?_cons_zero, List.getElem?_cons_succ, List.getElem?_nil, rLoop, Option.toArray_some, Option.toArray_none, Option.toArray, EP, onRun, beq_tf, beq_ft, Int.reduceBEq, Int.reduceBNe, Int.reduceLT, Int.reduceLE, Int.reduceAdd, Int.reduceSub, Int.reduceToNat, List.range, List.range.loop, IntWalk.i64_in, Int.natCast_nonneg,  hf0, hf1, hmi, Tryd.underlying3, Tryd.underlying5, Tryd.underlying9, Int.toNat_natCast]
              refine ⟨⟨m, by omega, hm1, ?_, tm_of rfl ⟨rfl, rfl⟩⟩, by omega⟩
              rw [rest_nil (by omega)] at hm2 ⊢
              exact hm2
          · refine ⟨j, by omega, by omega, ?_, by omega, tm_of rfl ⟨rfl, rfl⟩⟩
            rw [hr]
            simp only [skn, h4] at hj2 ⊢
            rw [if_neg hne]
            simpa using hj2
        · have h3' : ((cb b == 3) = false) := by simpa using h3
          have h4' : ((cb b == 4) = false) := by simpa using h4
          refine ex_run O75_ok 0 ?_
          simp (disch := first | assumption | decide +kernel | omega) only [rRes, rFn, rCode, rOps, rOp, rDef, rCall, okOp, okLs, Op.operands, Call.operands, okO, aop, evalO, ofVal, ofLeaf, ofLeaves, putT, List.set, List.replicate, List.cons_append, List.nil_append, List.append_nil, List.length_cons, List.length_nil, List.map_cons, List.map_nil, List.toList_toArray, Array.toList_append, List.all_cons, List.all_nil, List.all_toArray, Array.all_append, List.getD_cons_zero, List.getD_cons_succ, Bool.and_true, Bool.true_and, Bool.and_false, Bool.false_and, Bool.or_true, Bool.or_false, Bool.not_true, Bool.not_false, Bool.true_or, Bool.false_or, aLen, nilUnk, asRead, asPure, asSet, asPush, Eff.app, Eff.ids, getH, aBin, aInt, aStr, aPick, aIndex, aSlice, bound, resOf, resVars, resVar, drawStatic_ok, pairsOk_ok, fnOf, mapRes, res_d, mapRes_d, DV.flat, DV.flat.flatL, yieldedA, AV.isAgg, decide_true, decide_false, reduceIte, Option.isSome, Option.map, Nat.reduceAdd, Nat.reduceSub, Nat.reduceLT, Nat.reduceBEq, Nat.reduceEqDiff, Nat.zero_add, Option.bind, beq_self_eq_true, reduceCtorEq, BEq.rfl, and_self, or_self, false_or, or_false, true_or, or_true, and_true, true_and, and_false, false_and, ne_eq, not_true_eq_false, not_false_eq_true, Array.size_append, List.size_toArray, List.getElem?_toArray, List.getElem?_cons_zero, List.getElem?_cons_succ, List.getElem?_nil, rLoop, Option.toArray_some, Option.toArray_none, Option.toArray, EP, onRun, beq_tf, beq_ft, Int.reduceBEq, Int.reduceBNe, Int.reduceLT, Int.reduceLE, Int.reduceAdd, Int.reduceSub, Int.reduceToNat, List.range, List.range.loop, IntWalk.i64_in, Int.natCast_nonneg,  O75, hf0, hf1, hc', h3', h4', Tryd.underlying3, Tryd.underlying5, Tryd.underlying9]
          refine ex_run O75_ok 0 ?_
          simp (disch := first | assumption | decide +kernel | omega) only [rRes, rFn, rCode, rOps, rOp, rDef, rCall, okOp, okLs, Op.operands, Call.operands, okO, aop, evalO, ofVal, ofLeaf, ofLeaves, putT, List.set, List.replicate, List.cons_append, List.nil_append, List.append_nil, List.length_cons, List.length_nil, List.map_cons, List.map_nil, List.toList_toArray, Array.toList_append, List.all_cons, List.all_nil, List.all_toArray, Array.all_append, List.getD_cons_zero, List.getD_cons_succ, Bool.and_true, Bool.true_and, Bool.and_false, Bool.false_and, Bool.or_true, Bool.or_false, Bool.not_true, Bool.not_false, Bool.true_or, Bool.false_or, aLen, nilUnk, asRead, asPure, asSet, asPush, Eff.app, Eff.ids, getH, aBin, aInt, aStr, aPick, aIndex, aSlice, bound, resOf, resVars, resVar, drawStatic_ok, pairsOk_ok, fnOf, mapRes, res_d, mapRes_d, DV.flat, DV.flat.flatL, yieldedA, AV.isAgg, decide_true, decide_false, reduceIte, Option.isSome, Option.map, Nat.reduceAdd, Nat.reduceSub, Nat.reduceLT, Nat.reduceBEq, Nat.reduceEqDiff, Nat.zero_add, Option.bind, beq_self_eq_true, reduceCtorEq, BEq.rfl, and_self, or_self, false_or, or_false, true_or, or_true, and_true, true_and, and_false, false_and, ne_eq, not_true_eq_false, not_false_eq_true, Array.size_append, List.size_toArray, List.getElem?_toArray, List.getElem?_cons_zero, List.getElem?_cons_succ, List.getElem?_nil, rLoop, Option.toArray_some, Option.toArray_none, Option.toArray, EP, onRun, beq_tf, beq_ft, Int.reduceBEq, Int.reduceBNe, Int.reduceLT, Int.reduceLE, Int.reduceAdd, Int.reduceSub, Int.reduceToNat, List.range, List.range.loop, IntWalk.i64_in, Int.natCast_nonneg,  Tryd.underlying3, Tryd.underlying5, Tryd.underlying9]
          simp only [skn, h3, h4, if_false] at hj2
          have : j = R := by omega
          subst this
          first | exact ⟨_, rfl⟩ | exact ⟨.inr trivial, _, rfl⟩
    · have hji : cls src j = 0 := by rw [hc, rest_nil (by omega)]; rfl
      have hbn : ((0 : Int) == 3) = false := rfl
      have hbn' : ((0 : Int) == 4) = false := rfl
      refine ex_run O75_ok 0 ?_
      simp (disch := first | assumption | decide +kernel | omega) only [rRes, rFn, rCode, rOps, rOp, rDef, rCall, okOp, okLs, Op.operands, Call.operands, okO, aop, evalO, ofVal, ofLeaf, ofLeaves, putT, List.set, List.replicate, List.cons_append, List.nil_append, List.append_nil, List.length_cons, List.length_nil, List.map_cons, List.map_nil, List.toList_toArray, Array.toList_append, List.all_cons, List.all_nil, List.all_toArray, Array.all_append, List.getD_cons_zero, List.getD_cons_succ, Bool.and_true, Bool.true_and, Bool.and_false, Bool.false_and, Bool.or_true, Bool.or_false, Bool.not_true, Bool.not_false, Bool.true_or, Bool.false_or, aLen, nilUnk, asRead, asPure, asSet, asPush, Eff.app, Eff.ids, getH, aBin, aInt, aStr, aPick, aIndex, aSlice, bound, resOf, resVars, resVar, drawStatic_ok, pairsOk_ok, fnOf, mapRes, res_d, mapRes_d, DV.flat, DV.flat.flatL, yieldedA, AV.isAgg, decide_true, decide_false, reduceIte, Option.isSome, Option.map, Nat.reduceAdd, Nat.reduceSub, Nat.reduceLT, Nat.reduceBEq, Nat.reduceEqDiff, Nat.zero_add, Option.bind, beq_self_eq_true, reduceCtorEq, BEq.rfl, and_self, or_self, false_or, or_false, true_or, or_true, and_true, true_and, and_false, false_and, ne_eq, not_true_eq_false, not_false_eq_true, Array.size_append, List.size_toArray, List.getElem?_toArray, List.getElem?_cons_zero, List.getElem?_cons_succ, List.getElem?_nil, rLoop, Option.toArray_some, Option.toArray_none, Option.toArray, EP, onRun, beq_tf, beq_ft, Int.reduceBEq, Int.reduceBNe, Int.reduceLT, Int.reduceLE, Int.reduceAdd, Int.reduceSub, Int.reduceToNat, List.range, List.range.loop, IntWalk.i64_in, Int.natCast_nonneg,  O75, hf0, hf1, hji, hbn, hbn', Tryd.underlying3, Tryd.underlying5, Tryd.underlying9]
      refine ex_run O75_ok 0 ?_
      simp (disch := first | assumption | decide +kernel | omega) only [rRes, rFn, rCode, rOps, rOp, rDef, rCall, okOp, okLs, Op.operands, Call.operands, okO, aop, evalO, ofVal, ofLeaf, ofLeaves, putT, List.set, List.replicate, List.cons_append, List.nil_append, List.append_nil, List.length_cons, List.length_nil, List.map_cons, List.map_nil, List.toList_toArray, Array.toList_append, List.all_cons, List.all_nil, List.all_toArray, Array.all_append, List.getD_cons_zero, List.getD_cons_succ, Bool.and_true, Bool.true_and, Bool.and_false, Bool.false_and, Bool.or_true, Bool.or_false, Bool.not_true, Bool.not_false, Bool.true_or, Bool.false_or, aLen, nilUnk, asRead, asPure, asSet, asPush, Eff.app, Eff.ids, getH, aBin, aInt, aStr, aPick, aIndex, aSlice, bound, resOf, resVars, resVar, drawStatic_ok, pairsOk_ok, fnOf, mapRes, res_d, mapRes_d, DV.flat, DV.flat.flatL, yieldedA, AV.isAgg, decide_true, decide_false, reduceIte, Option.isSome, Option.map, Nat.reduceAdd, Nat.reduceSub, Nat.reduceLT, Nat.reduceBEq, Nat.reduceEqDiff, Nat.zero_add, Option.bind, beq_self_eq_true, reduceCtorEq, BEq.rfl, and_self, or_self, false_or, or_false, true_or, or_true, and_true, true_and, and_false, false_and, ne_eq, not_true_eq_false, not_false_eq_true, Array.size_append, List.size_toArray, List.getElem?_toArray, List.getElem?_cons_zero, List.getElem?_cons_succ, List.getElem?_nil, rLoop, Option.toArray_some, Option.toArray_none, Option.toArray, EP, onRun, beq_tf, beq_ft, Int.reduceBEq, Int.reduceBNe, Int.reduceLT, Int.reduceLE, Int.reduceAdd, Int.reduceSub, Int.reduceToNat, List.range, List.range.loop, IntWalk.i64_in, Int.natCast_nonneg,  Tryd.underlying3, Tryd.underlying5, Tryd.underlying9]
      rw [rest_nil (by omega)] at hj2
      simp only [skn] at hj2
      have : j = R := by omega
      subst this
      first | exact ⟨_, rfl⟩ | exact ⟨.inr trivial, _, rfl⟩
  · exact ⟨i, Nat.le_refl _, h0, hR, tm_of rfl ⟨rfl, rfl⟩⟩
end Go.Lx
