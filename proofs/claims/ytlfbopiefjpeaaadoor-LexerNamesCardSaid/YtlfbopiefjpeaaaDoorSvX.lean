/- A region in order, run in parts. -/
import Derived.Test.YtlfbopiefjpeaaaDoorSvV
set_option linter.unusedSimpArgs false
set_option linter.unusedVariables false
namespace Go.Sv
open Go
section
variable {E : Env} {O : Orc}
def rOpsN (E : Env) (O : Orc) (ds : List (Option Tmp)) : List Oper → St → Option St
  | [], s => some s
  | o :: rest, s => match o.guard with
    | .none => match rOp E O false o s with
      | some (v, H, _) => rOpsN E O ds rest ⟨putT s.tmps o.dst v, H⟩
      | .none => .none
    | some (g, want) => match yieldedD ds s.tmps g with
      | some b => match b == want with
        | true => match rOp E O false o s with
          | some (v, H, _) => rOpsN E O ds rest ⟨putT s.tmps o.dst v, H⟩
          | .none => .none
        | false => rOpsN E O ds rest ⟨putT s.tmps o.dst .un, s.heap⟩
      | .none => rOpsN E O ds rest ⟨putT s.tmps o.dst .un, s.heap⟩
theorem rOpsN_eq (ops : Array Oper) : ∀ (l : List Oper) (i : Nat) (s s' : St), rOpsN E O (ops.toList.map (·.dst)) l s = some s' → ∃ f, rOps E O false ops l i s [] = some (s', f) := by
  intro l
  induction l with
  | nil => intro i s s' h; cases h; exact ⟨_, rfl⟩
  | cons o rest ih =>
    intro i s s' h
    simp only [rOpsN] at h
    simp only [rOps, yieldedD_eq]
    split at h
    · rename_i hg
      rw [hg]
      split at h
      · rename_i hr; rw [hr]; exact ih _ _ _ h
      · cases h
    · rename_i g want hg
      rw [hg]
      split at h
      · rename_i b hy
        simp only [hy]
        split at h
        · rename_i hb
          rw [hb]
          split at h
          · rename_i hr; simp only [hr]; exact ih _ _ _ h
          · cases h
        · rename_i hb
          rw [hb]
          exact ih _ _ _ h
      · rename_i hy
        simp only [hy]
        exact ih _ _ _ h
def onSt (r : Option St) (k : St → Prop) : Prop := match r with
  | some s => k s
  | none => False
theorem rOpsN_append {ds : List (Option Tmp)} : ∀ (l l2 : List Oper) (s : St), rOpsN E O ds (l ++ l2) s = match rOpsN E O ds l s with | some s' => rOpsN E O ds l2 s' | none => none := by
  intro l
  induction l with
  | nil => intro l2 s; rfl
  | cons o rest ih =>
    intro l2 s
    simp only [List.cons_append, rOpsN, ih]
    cases o.guard with
    | none => cases rOp E O false o s <;> rfl
    | some gw =>
      obtain ⟨g, want⟩ := gw
      simp only
      cases yieldedD ds s.tmps g with
      | none => rfl
      | some b =>
        simp only
        cases (b == want) with
        | false => rfl
        | true => cases rOp E O false o s <;> rfl
theorem onSt_cut (n : Nat) {ds : List (Option Tmp)} {l l1 l2 : List Oper} {s : St} {k : St → Prop} (h1 : l.take n = l1) (h2 : l.drop n = l2)
    (h : onSt (rOpsN E O ds l1 s) fun s' => onSt (rOpsN E O ds l2 s') k) : onSt (rOpsN E O ds l s) k := by
  subst h1
  subst h2
  have := rOpsN_append (E := E) (O := O) (ds := ds) (l.take n) (l.drop n) s
  rw [List.take_append_drop] at this
  rw [this]
  generalize rOpsN E O ds (l.take n) s = r at h ⊢
  cases r with
  | none => exact h
  | some p => exact h
theorem ex_reg (hO : OrcOk E O) {id : Nat} {ops : Array Oper} {s : St} {k : Exit → St → Prop} {ds : List (Option Tmp)} {l : List Oper} (hd : ops.toList.map (·.dst) = ds) (hl : ops.toList = l)
    (h : onSt (rOpsN E O ds l s) fun s' => k .normal s') : ex E (.region id ops false) s k := by
  subst hd
  subst hl
  unfold onSt at h
  split at h
  · rename_i s' hr
    obtain ⟨f, hf⟩ := rOpsN_eq (E := E) (O := O) ops ops.toList 0 s s' hr
    refine ex_run hO 0 ?_
    simp only [rCode, hf, onRun]
    exact h
  · exact h.elim
end
end Go.Sv
