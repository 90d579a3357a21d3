/- A region that draws its order, run with its operations' places alone at hand. -/
import Derived.Test.YtlfbopiefjpeaaaDoorSvU
set_option linter.unusedSimpArgs false
set_option linter.unusedVariables false
namespace Go.Sv
open Go
section
variable {E : Env} {O : Orc}
def yieldedD (ds : List (Option Tmp)) (tmps : List AV) (j : Nat) : Option Bool := match ds[j]? with
  | some (some t) => match tmps.getD t .un with
    | .d (.bool b) => some b
    | _ => none
  | _ => none
theorem yieldedD_eq (ops : Array Oper) (tmps : List AV) (j : Nat) : yieldedA ops tmps j = yieldedD (ops.toList.map (·.dst)) tmps j := by
  unfold yieldedA yieldedD
  rw [List.getElem?_map, Array.getElem?_toList]
  cases ops[j]? with
  | none => rfl
  | some o =>
    simp only [Option.bind_some, Option.map_some]
    cases o.dst <;> rfl
def rOpsD (E : Env) (O : Orc) (ds : List (Option Tmp)) : List Oper → Nat → St → List (Nat × Fp) → Option (St × List (Nat × Fp))
  | [], _, s, fps => some (s, fps)
  | o :: rest, i, s, fps => match o.guard with
    | .none => match rOp E O true o s with
      | some (v, H, fp) => rOpsD E O ds rest (i + 1) ⟨putT s.tmps o.dst v, H⟩ (fps ++ [(i, fp)])
      | .none => .none
    | some (g, want) => match yieldedD ds s.tmps g with
      | some b => match b == want with
        | true => match rOp E O true o s with
          | some (v, H, fp) => rOpsD E O ds rest (i + 1) ⟨putT s.tmps o.dst v, H⟩ (fps ++ [(i, fp)])
          | .none => .none
        | false => rOpsD E O ds rest (i + 1) ⟨putT s.tmps o.dst .un, s.heap⟩ (fps ++ [(i, {})])
      | .none => rOpsD E O ds rest (i + 1) ⟨putT s.tmps o.dst .un, s.heap⟩ (fps ++ [(i, {})])
theorem rOpsD_eq (ops : Array Oper) : ∀ (l : List Oper) (i : Nat) (s : St) (fps : List (Nat × Fp)), rOps E O true ops l i s fps = rOpsD E O (ops.toList.map (·.dst)) l i s fps := by
  intro l
  induction l with
  | nil => intro i s fps; rfl
  | cons o rest ih =>
    intro i s fps
    simp only [rOps, rOpsD, yieldedD_eq, ih]
    cases o.guard with
    | none => cases rOp E O true o s <;> rfl
    | some gw =>
      obtain ⟨g, want⟩ := gw
      cases yieldedD (List.map (fun x => x.dst) ops.toList) s.tmps g with
      | none => rfl
      | some b => cases (b == want) <;> first | rfl | (cases rOp E O true o s <;> rfl)
def onOps (r : Option (St × List (Nat × Fp))) (k : St → List (Nat × Fp) → Prop) : Prop := match r with
  | some (s, f) => k s f
  | none => False
/-- Go on with the rest of the operations: the run cut into parts. -/
theorem onOps_cons {ds : List (Option Tmp)} {l : List Oper} {i : Nat} {s s1 : St} {f f1 : List (Nat × Fp)} {l1 : List Oper} {i1 : Nat} {k : St → List (Nat × Fp) → Prop}
    (h : rOpsD E O ds l i s f = rOpsD E O ds l1 i1 s1 f1) (h1 : onOps (rOpsD E O ds l1 i1 s1 f1) k) : onOps (rOpsD E O ds l i s f) k := by rw [h]; exact h1
theorem onOps_bind {r : Option (St × List (Nat × Fp))} {g : St → List (Nat × Fp) → Option (St × List (Nat × Fp))} {k : St → List (Nat × Fp) → Prop} (h : onOps r fun s f => onOps (g s f) k) :
    onOps (match r with | some (s, f) => g s f | none => none) k := by
  cases r with
  | none => exact h
  | some p => obtain ⟨s, f⟩ := p; exact h
theorem rOpsD_append {ds : List (Option Tmp)} : ∀ (l l2 : List Oper) (i : Nat) (s : St) (f : List (Nat × Fp)),
    rOpsD E O ds (l ++ l2) i s f = match rOpsD E O ds l i s f with | some (s', f') => rOpsD E O ds l2 (i + l.length) s' f' | none => none := by
  intro l
  induction l with
  | nil => intro l2 i s f; rfl
  | cons o rest ih =>
    intro l2 i s f
    have e : ∀ j, j + 1 + rest.length = j + (rest.length + 1) := fun j => by omega
    simp only [List.cons_append, rOpsD, List.length_cons, ih, e]
    cases o.guard with
    | none => cases rOp E O true o s <;> rfl
    | some gw =>
      obtain ⟨g, want⟩ := gw
      simp only
      cases yieldedD ds s.tmps g with
      | none => rfl
      | some b =>
        simp only
        cases (b == want) with
        | false => rfl
        | true => cases rOp E O true o s <;> rfl
/-- The run of operations cut in two, behind 'n' of them. -/
theorem onOps_cut (n : Nat) {ds : List (Option Tmp)} {l l1 l2 : List Oper} {i i2 : Nat} {s : St} {f : List (Nat × Fp)} {k : St → List (Nat × Fp) → Prop} (h1 : l.take n = l1) (h2 : l.drop n = l2) (hi : i + l1.length = i2)
    (h : onOps (rOpsD E O ds l1 i s f) fun s' f' => onOps (rOpsD E O ds l2 i2 s' f') k) : onOps (rOpsD E O ds l i s f) k := by
  subst h1
  subst h2
  subst hi
  have := rOpsD_append (E := E) (O := O) (ds := ds) (l.take n) (l.drop n) i s f
  rw [List.take_append_drop] at this
  rw [this]
  generalize rOpsD E O ds (l.take n) i s f = r at h ⊢
  cases r with
  | none => exact h
  | some p => obtain ⟨s, f⟩ := p; exact h
/-- A region that draws. -/
theorem ex_draw (hO : OrcOk E O) {id : Nat} {ops : Array Oper} {s : St} {k : Exit → St → Prop} {ds : List (Option Tmp)} {l : List Oper} (h1 : drawStatic ops = true) (hd : ops.toList.map (·.dst) = ds) (hl : ops.toList = l)
    (h : onOps (rOpsD E O ds l 0 s []) fun s' fps => pairsOk ops fps = true ∧ k .normal s') : ex E (.region id ops true) s k := by
  subst hd
  subst hl
  unfold onOps at h
  split at h
  · rename_i s' fps hr
    refine ex_run hO 0 ?_
    rw [← rOpsD_eq] at hr
    simp only [rCode, h1, hr, h.1, onRun]
    exact h.2
  · exact h.elim
theorem ex_draw' (hO : OrcOk E O) {id : Nat} {ops : Array Oper} {s : St} {k : Exit → St → Prop} (h1 : drawStatic ops = true)
    (h : onOps (rOpsD E O (ops.toList.map (·.dst)) ops.toList 0 s []) fun s' fps => pairsOk ops fps = true ∧ k .normal s') : ex E (.region id ops true) s k := ex_draw hO h1 rfl rfl h
end
end Go.Sv
namespace Go.Sv
open Go
section
variable {E : Env} {O : Orc}
def rOpsN (E : Env) (O : Orc) (ds : List (Option Tmp)) : List Oper → St → Option St
  | [], s => some s
  | o :: rest, s => match o.guard with
    | .none => match rOp E O false o s with
      | some (v, H, _) => rOpsN E O ds rest ⟨putT s.tmps o.dst v, H⟩
      | .none => .none
    | some (g, want) => match yieldedD ds s.tmps g with
      | some b => match b == want with
        | true => match rOp E O false o s with
          | some (v, H, _) => rOpsN E O ds rest ⟨putT s.tmps o.dst v, H⟩
          | .none => .none
        | false => rOpsN E O ds rest ⟨putT s.tmps o.dst .un, s.heap⟩
      | .none => rOpsN E O ds rest ⟨putT s.tmps o.dst .un, s.heap⟩
theorem rOpsN_eq (ops : Array Oper) : ∀ (l : List Oper) (i : Nat) (s s' : St), rOpsN E O (ops.toList.map (·.dst)) l s = some s' → ∃ f, rOps E O false ops l i s [] = some (s', f) := by
  intro l
  induction l with
  | nil => intro i s s' h; cases h; exact ⟨_, rfl⟩
  | cons o rest ih =>
    intro i s s' h
    simp only [rOpsN] at h
    simp only [rOps, yieldedD_eq]
    split at h
    · rename_i hg
      rw [hg]
      split at h
      · rename_i hr; rw [hr]; exact ih _ _ _ h
      · cases h
    · rename_i g want hg
      rw [hg]
      split at h
      · rename_i b hy
        simp only [hy]
        split at h
        · rename_i hb
          rw [hb]
          split at h
          · rename_i hr; simp only [hr]; exact ih _ _ _ h
          · cases h
        · rename_i hb
          rw [hb]
          exact ih _ _ _ h
      · rename_i hy
        simp only [hy]
        exact ih _ _ _ h
def onSt (r : Option St) (k : St → Prop) : Prop := match r with
  | some s => k s
  | none => False
theorem rOpsN_append {ds : List (Option Tmp)} : ∀ (l l2 : List Oper) (s : St), rOpsN E O ds (l ++ l2) s = match rOpsN E O ds l s with | some s' => rOpsN E O ds l2 s' | none => none := by
  intro l
  induction l with
  | nil => intro l2 s; rfl
  | cons o rest ih =>
    intro l2 s
    simp only [List.cons_append, rOpsN, ih]
    cases o.guard with
    | none => cases rOp E O false o s <;> rfl
    | some gw =>
      obtain ⟨g, want⟩ := gw
      simp only
      cases yieldedD ds s.tmps g with
      | none => rfl
      | some b =>
        simp only
        cases (b == want) with
        | false => rfl
        | true => cases rOp E O false o s <;> rfl
theorem onSt_cut (n : Nat) {ds : List (Option Tmp)} {l l1 l2 : List Oper} {s : St} {k : St → Prop} (h1 : l.take n = l1) (h2 : l.drop n = l2)
    (h : onSt (rOpsN E O ds l1 s) fun s' => onSt (rOpsN E O ds l2 s') k) : onSt (rOpsN E O ds l s) k := by
  subst h1
  subst h2
  have := rOpsN_append (E := E) (O := O) (ds := ds) (l.take n) (l.drop n) s
  rw [List.take_append_drop] at this
  rw [this]
  generalize rOpsN E O ds (l.take n) s = r at h ⊢
  cases r with
  | none => exact h
  | some p => exact h
theorem ex_reg (hO : OrcOk E O) {id : Nat} {ops : Array Oper} {s : St} {k : Exit → St → Prop} {ds : List (Option Tmp)} {l : List Oper} (hd : ops.toList.map (·.dst) = ds) (hl : ops.toList = l)
    (h : onSt (rOpsN E O ds l s) fun s' => k .normal s') : ex E (.region id ops false) s k := by
  subst hd
  subst hl
  unfold onSt at h
  split at h
  · rename_i s' hr
    obtain ⟨f, hf⟩ := rOpsN_eq (E := E) (O := O) ops ops.toList 0 s s' hr
    refine ex_run hO 0 ?_
    simp only [rCode, hf, onRun]
    exact h
  · exact h.elim
end
end Go.Sv
