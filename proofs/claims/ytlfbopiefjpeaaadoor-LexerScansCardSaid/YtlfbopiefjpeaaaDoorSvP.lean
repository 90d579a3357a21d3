/- A region whose order is drawn: the order of the text serves for every order that the edges allow. -/
import Derived.Test.YtlfbopiefjpeaaaDoorSvO
set_option linter.unusedSimpArgs false
set_option linter.unusedVariables false
namespace Go.Sv
open Go

def maskOf (acc : List Nat) : List Edge → Nat
  | [] => 0
  | e :: es => (if Region.binds .any e then 2 ^ e.on ||| acc.getD e.on 0 else 0) ||| maskOf acc es
/-- Of each operation, what surely stands ahead of it (bits). -/
def masks : List Oper → List Nat → List Nat
  | [], acc => acc
  | o :: r, acc => masks r (acc ++ [maskOf acc o.after.toList])
def ordered (M : List Nat) (i j : Nat) : Bool := (decide (i < j) && (M.getD j 0).testBit i) || (decide (j < i) && (M.getD i 0).testBit j)

/-- The slots that an operation looks at or writes. -/
def namesOf (ops : Array Oper) (o : Oper) : List Tmp :=
  o.dst.toList ++ (o.op.operands.toList.filterMap fun | .tmp t => some t | _ => none) ++ (match o.guard with | some (g, _) => ((ops[g]?).bind (·.dst)).toList | none => [])

def drawStatic (ops : Array Oper) : Bool :=
  (List.range ops.size).all fun i => match ops[i]? with
    | none => true
    | some o => (o.after.toList.all fun e => !Region.binds .any e || decide (e.on < i)) &&
      (namesOf ops o).all fun t => (List.range ops.size).all fun j => j == i || ((ops[j]?).bind (·.dst)) != some t || ordered (masks ops.toList []) i j

def Fp.ne (f : Fp) : Bool := f.all || !f.rd.isEmpty || !f.wr.isEmpty
def conf (f g : Fp) : Bool := (f.all && g.ne) || (g.all && f.ne) || (f.wr.any fun x => g.wr.contains x || g.rd.contains x) || g.wr.any fun x => f.rd.contains x
def pairsOk (ops : Array Oper) (fps : List (Nat × Fp)) : Bool :=
  (fps.filter fun p => p.2.ne).all fun p => (fps.filter fun p => p.2.ne).all fun q => p.1 == q.1 || !conf p.2 q.2 || ordered (masks ops.toList []) p.1 q.1

theorem maskOf_bit {acc : List Nat} : ∀ {es : List Edge} {i : Nat}, (maskOf acc es).testBit i = true → ∃ e ∈ es, Region.binds .any e = true ∧ (e.on = i ∨ (acc.getD e.on 0).testBit i = true)
  | [], i, h => by simp [maskOf] at h
  | e :: es, i, h => by
    simp only [maskOf, Nat.testBit_or, Bool.or_eq_true] at h
    rcases h with h | h
    · split at h
      · rename_i hb
        rw [Nat.testBit_or, Bool.or_eq_true] at h
        rcases h with h | h
        · rw [Nat.testBit_two_pow] at h
          exact ⟨e, List.mem_cons_self .., hb, .inl (by simpa using h)⟩
        · exact ⟨e, List.mem_cons_self .., hb, .inr h⟩
      · simp at h
    · obtain ⟨e', h1, h2⟩ := maskOf_bit h
      exact ⟨e', List.mem_cons_of_mem _ h1, h2⟩

theorem masks_spec : ∀ (l : List Oper) (acc : List Nat), (∀ j, j < acc.length → (masks l acc).getD j 0 = acc.getD j 0) ∧
    ∀ j o, l[j]? = some o → (masks l acc).getD (acc.length + j) 0 = maskOf ((masks l acc).take (acc.length + j)) o.after.toList ∧ acc.length + j < (masks l acc).length
  | [], acc => ⟨fun _ _ => rfl, fun j o e => by simp at e⟩
  | o :: r, acc => by
    obtain ⟨h1, h2⟩ := masks_spec r (acc ++ [maskOf acc o.after.toList])
    have hpre : ∀ j, j < acc.length → (masks (o :: r) acc).getD j 0 = acc.getD j 0 := by
      intro j hj
      simp only [masks]
      rw [h1 j (by simp; omega), List.getD_eq_getElem?_getD, List.getD_eq_getElem?_getD, List.getElem?_append_left hj]
    have hlen : ∀ (l : List Oper) (acc : List Nat), (masks l acc).length = acc.length + l.length := by
      intro l
      induction l with
      | nil => intro acc; rfl
      | cons o l ih => intro acc; simp only [masks, ih]; simp; omega
    have hget : ∀ j, j < acc.length → (masks (o :: r) acc)[j]? = acc[j]? := by
      intro j hj
      have := hpre j hj
      rw [List.getD_eq_getElem?_getD, List.getD_eq_getElem?_getD, List.getElem?_eq_getElem (by rw [hlen]; omega), List.getElem?_eq_getElem hj] at this
      rw [List.getElem?_eq_getElem (by rw [hlen]; omega), List.getElem?_eq_getElem hj]
      simpa using this
    refine ⟨hpre, fun j o' e => ?_⟩
    cases j with
    | zero =>
      simp only [List.getElem?_cons_zero, Option.some.injEq] at e
      subst e
      refine ⟨?_, by rw [hlen]; simp⟩
      simp only [Nat.add_zero]
      have h3 := h1 acc.length (by simp)
      simp only [masks] at hget ⊢
      rw [h3]
      have htake : (masks r (acc ++ [maskOf acc o.after.toList])).take acc.length = acc := by
        apply List.ext_getElem?
        intro k
        rw [List.getElem?_take]
        by_cases hk : k < acc.length
        · rw [if_pos hk, hget k hk]
        · rw [if_neg hk, List.getElem?_eq_none (by omega)]
      rw [htake]
      simp
    | succ j =>
      simp only [List.getElem?_cons_succ] at e
      have := h2 j o' e
      simp only [List.length_append, List.length_singleton] at this
      simp only [masks]
      rw [show acc.length + (j + 1) = acc.length + 1 + j by omega]
      exact this

/-- What surely stands ahead has been done, where whatever was done had its edges done. -/
theorem mask_done {ops : Array Oper} (hs : drawStatic ops = true) {L : Nat → Bool} (hL : ∀ j o, ops[j]? = some o → L j = true → ∀ e ∈ o.after.toList, Region.binds .any e = true → L e.on = true) :
    ∀ (j : Nat) (o : Oper) (i : Nat), ops[j]? = some o → (∀ e ∈ o.after.toList, Region.binds .any e = true → L e.on = true) → ((masks ops.toList []).getD j 0).testBit i = true → L i = true := by
  intro j
  induction j using Nat.strongRecOn with
  | _ j ih =>
    intro o i ho hd hb
    obtain ⟨_, h2⟩ := masks_spec ops.toList []
    have h3 := (h2 j o (by simpa using ho)).1
    simp only [List.length_nil, Nat.zero_add] at h3
    rw [h3] at hb
    obtain ⟨e, he, hbe, hc⟩ := maskOf_bit hb
    have hLe := hd e he hbe
    rcases hc with rfl | hc
    · exact hLe
    · have hlt : e.on < j := by
        have hj : j < ops.size := (Array.getElem?_eq_some_iff.1 ho).1
        have := List.all_eq_true.1 hs j (List.mem_range.2 hj)
        simp only [ho, Bool.and_eq_true] at this
        have := List.all_eq_true.1 this.1 e he
        simp only [hbe, Bool.not_true, Bool.false_or, decide_eq_true_eq] at this
        exact this
      have hlt2 : e.on < ops.size := Nat.lt_trans hlt (Array.getElem?_eq_some_iff.1 ho).1
      have ho2 : ops[e.on]? = some ops[e.on] := Array.getElem?_eq_getElem hlt2
      refine ih e.on hlt _ i ho2 (hL _ _ ho2 hLe) ?_
      rw [List.getD_eq_getElem?_getD, List.getElem?_take, if_pos hlt, ← List.getD_eq_getElem?_getD] at hc
      exact hc

/-- One operation, what it does known ahead. -/
inductive Step (E : Env) (o : Oper) (s : St) (v : AV) (H : List Obj) (fp : Fp) : Prop
  | aop (rd : List Nat) (eff : Eff) (ha : aop E.P o (evalO E s.tmps) (getH s.heap) s.heap.length = some (v, rd, eff)) (hH : H = eff.app s.heap) (hf : fp = ⟨false, rd, eff.ids s.heap.length⟩)
  | pure (f : Operand) (args : Array Operand) (tys : Array TypeId) (g : FuncId) (first caps : List AV) (ds : List DV) (ids : List Nat) (r : DV) (hop : o.op = .call { callee := .value f, args := args, argTypes := tys }) (hfn : fnOf (evalO E s.tmps f) = some (g, first, caps))
      (hm : mapRes (res (getH s.heap) 50) (first ++ args.toList.map (evalO E s.tmps) ++ caps) = some (ds, ids)) (hp : PureC E g ds r) (hv : v = .d r) (hH : H = if r.flat then s.heap else freezeL s.heap ids) (hf : fp = ⟨false, ids, if r.flat then [] else ids⟩)
  | hc (f : Operand) (args : Array Operand) (tys : Array TypeId) (g : FuncId) (first caps : List AV) (hop : o.op = .call { callee := .value f, args := args, argTypes := tys }) (hfn : fnOf (evalO E s.tmps f) = some (g, first, caps))
      (hc : HC E g (first ++ args.toList.map (evalO E s.tmps) ++ caps) s.heap fun r1 H1 => r1 = v ∧ H1 = H) (hf : fp = ⟨true, [], []⟩)

def wants (ops : Array Oper) (tmps : List AV) (o : Oper) : Bool := match o.guard with
  | none => true
  | some (g, want) => yieldedA ops tmps g == some want

/-- The way of the text. -/
structure Tr (E : Env) (ops : Array Oper) (S : Nat → St) (V : Nat → AV) (F : Nat → Fp) (i n : Nat) : Prop where
  tm : ∀ j o, i ≤ j → j < n → ops[j]? = some o → (S (j + 1)).tmps = putT (S j).tmps o.dst (V j)
  run : ∀ j o, i ≤ j → j < n → ops[j]? = some o → wants ops (S j).tmps o = true → okOs E o = true ∧ Step E o (S j) (V j) (S (j + 1)).heap (F j)
  skip : ∀ j o, i ≤ j → j < n → ops[j]? = some o → wants ops (S j).tmps o = false → V j = .un ∧ (S (j + 1)).heap = (S j).heap ∧ F j = {}

theorem exOp_step {E : Env} {o : Oper} {s : St} {k : AV → List Obj → Fp → Prop} (h : exOp E true o s k) : okOs E o = true ∧ ∃ v H fp, Step E o s v H fp ∧ k v H fp := by
  obtain ⟨ho, h⟩ := h
  refine ⟨ho, ?_⟩
  have hdef : exDef E o s k → ∃ v H fp, Step E o s v H fp ∧ k v H fp := by
    intro h
    unfold exDef at h
    split at h
    · rename_i v rd eff ha
      exact ⟨v, _, _, .aop rd eff ha rfl rfl, h⟩
    · exact h.elim
  split at h
  · rename_i f args tys hop
    split at h
    · rename_i g first caps hf
      simp only [if_true] at h
      rcases h with ⟨ds, ids, r, hm, hp, hk⟩ | ⟨r, H', hc, hk⟩
      · exact ⟨_, _, _, .pure f args tys g first caps ds ids r hop hf hm hp rfl rfl rfl, hk⟩
      · exact ⟨_, _, _, .hc f args tys g first caps hop hf hc rfl, hk⟩
    · exact h.elim
  · split at h
    · rename_i hc; exact absurd hc.1 (by simp)
    · exact hdef h
  · exact hdef h

theorem exOps_tr {E : Env} {ops : Array Oper} {k : St → List (Nat × Fp) → Prop} : ∀ (l : List Oper) (i : Nat) (s : St) (fps : List (Nat × Fp)), (∀ j, l[j]? = ops[i + j]?) → exOps E true ops l i s fps k →
    ∃ S V F, S i = s ∧ Tr E ops S V F i (i + l.length) ∧ k (S (i + l.length)) (fps ++ (List.range' i l.length).map fun j => (j, F j))
  | [], i, s, fps, _, h => ⟨fun _ => s, fun _ => .un, fun _ => {}, rfl, ⟨fun j o h1 h2 => absurd h2 (by simp; omega), fun j o h1 h2 => absurd h2 (by simp; omega), fun j o h1 h2 => absurd h2 (by simp; omega)⟩, by simpa [exOps] using h⟩
  | o :: rest, i, s, fps, hl, h => by
    have ho : ops[i]? = some o := by have := hl 0; simpa using this.symm
    have hl' : ∀ j, rest[j]? = ops[i + 1 + j]? := fun j => by have := hl (j + 1); simp only [List.getElem?_cons_succ] at this; rw [this]; congr 1; omega
    have build : ∀ (s1 : St) (v : AV) (fp : Fp), s1.tmps = putT s.tmps o.dst v → (wants ops s.tmps o = true → okOs E o = true ∧ Step E o s v s1.heap fp) → (wants ops s.tmps o = false → v = .un ∧ s1.heap = s.heap ∧ fp = {}) →
        exOps E true ops rest (i + 1) s1 (fps ++ [(i, fp)]) k → ∃ S V F, S i = s ∧ Tr E ops S V F i (i + (o :: rest).length) ∧ k (S (i + (o :: rest).length)) (fps ++ (List.range' i (o :: rest).length).map fun j => (j, F j)) := by
      intro s1 v fp ht hrun hskip hk
      obtain ⟨S, V, F, e1, e2, e3⟩ := exOps_tr rest (i + 1) s1 _ hl' hk
      refine ⟨fun j => if j = i then s else S j, fun j => if j = i then v else V j, fun j => if j = i then fp else F j, by simp, ⟨?_, ?_, ?_⟩, ?_⟩
      · intro j oj h1 h2 hj
        by_cases e : j = i
        · subst e
          rw [ho] at hj; cases hj
          simp only [if_true, if_neg (show ¬ j + 1 = j by omega), e1, ht]
        · simp only [if_neg e, if_neg (show ¬ j + 1 = i by omega)]
          exact e2.tm j oj (by omega) (by simp at h2; omega) hj
      · intro j oj h1 h2 hj hw
        by_cases e : j = i
        · subst e
          rw [ho] at hj; cases hj
          simp only [if_true] at hw
          simp only [if_true, if_neg (show ¬ j + 1 = j by omega), e1]
          exact hrun hw
        · simp only [if_neg e] at hw
          simp only [if_neg e, if_neg (show ¬ j + 1 = i by omega)]
          exact e2.run j oj (by omega) (by simp at h2; omega) hj hw
      · intro j oj h1 h2 hj hw
        by_cases e : j = i
        · subst e
          rw [ho] at hj; cases hj
          simp only [if_true] at hw
          simp only [if_true, if_neg (show ¬ j + 1 = j by omega), e1]
          exact hskip hw
        · simp only [if_neg e] at hw
          simp only [if_neg e, if_neg (show ¬ j + 1 = i by omega)]
          exact e2.skip j oj (by omega) (by simp at h2; omega) hj hw
      · have e4 : i + (o :: rest).length = i + 1 + rest.length := by simp; omega
        rw [e4]
        simp only [if_neg (show ¬ i + 1 + rest.length = i by omega)]
        have e5 : (List.range' i (o :: rest).length).map (fun j => (j, if j = i then fp else F j)) = (i, fp) :: (List.range' (i + 1) rest.length).map fun j => (j, F j) := by
          simp only [List.length_cons, List.range'_succ, List.map_cons, if_true]
          congr 1
          apply List.map_congr_left
          intro j hj
          rw [if_neg (by have := List.mem_range'_1.1 hj; omega)]
        rw [e5]
        simpa using e3
    simp only [exOps] at h
    cases hg : o.guard with
    | none =>
      simp only [hg] at h
      obtain ⟨hok, v, H, fp, hstep, hk⟩ := exOp_step h
      exact build ⟨putT s.tmps o.dst v, H⟩ v fp rfl (fun _ => ⟨hok, hstep⟩) (fun hw => by simp [wants, hg] at hw) hk
    | some p =>
      obtain ⟨g, want⟩ := p
      simp only [hg] at h
      obtain ⟨z, hz⟩ : ∃ z, yieldedA ops s.tmps g = z := ⟨_, rfl⟩
      simp only [hz] at h
      cases z with
      | none => exact build ⟨putT s.tmps o.dst .un, s.heap⟩ .un {} rfl (fun hw => by simp [wants, hg, hz] at hw) (fun _ => ⟨rfl, rfl, rfl⟩) h
      | some b =>
        simp only at h
        by_cases e : b = want
        · obtain ⟨hok, v, H, fp, hstep, hk⟩ := exOp_step (h.1 e)
          exact build ⟨putT s.tmps o.dst v, H⟩ v fp rfl (fun _ => ⟨hok, hstep⟩) (fun hw => by simp [wants, hg, hz, e] at hw) hk
        · have e' : b = !want := by cases b <;> cases want <;> simp_all
          exact build ⟨putT s.tmps o.dst .un, s.heap⟩ .un {} rfl (fun hw => by simp [wants, hg, hz, e] at hw) (fun _ => ⟨rfl, rfl, rfl⟩) (h.2 e')
end Go.Sv
