/- Steps of a walk by hand, where loops stand. -/
import Derived.Test.YtlfbopiefjpeaaaDoorSvT
set_option linter.unusedSimpArgs false
set_option linter.unusedVariables false
namespace Go.Sv
open Go
theorem size_lit {l : List UInt8} : ByteArray.size ⟨l.toArray⟩ = l.length := rfl
theorem beq_tf : (true == false) = false := rfl
theorem beq_ft : (false == true) = false := rfl
section
variable {E : Env} {O : Orc}

theorem ex_seq {a b : Code} {s : St} {k : Exit → St → Prop} (h : ex E a s fun e s' => match e with | .normal => ex E b s' k | e => k e s') : ex E (.seq a b) s k := h
theorem ex_scope {c : Code} {s : St} {k : Exit → St → Prop} (h : ex E c s fun e s' => match e with | .goto _ => False | e => k e s') : ex E (.scope c) s k := h
theorem ex_assoc {a b c : Code} {s : St} {k : Exit → St → Prop} (h : ex E (.seq a (.seq b c)) s k) : ex E (.seq (.seq a b) c) s k := by
  refine ex_mono a s _ _ (fun e s' h => ?_) h
  cases e <;> exact h
theorem ex_block {id : Nat} {c : Code} {s : St} {k : Exit → St → Prop} (h : ex E c s fun e s' => match e with | .exit id' => if id' = id then k .normal s' else k (.exit id') s' | e => k e s') : ex E (.block id c) s k := h
theorem ex_run_seq (hO : OrcOk E O) (N : Nat) {a b : Code} {s s' : St} {k : Exit → St → Prop} (h : rCode E O N a s = some (.normal, s')) (hb : ex E b s' k) : ex E (.seq a b) s k := by
  show ex E a s fun e s' => match e with | .normal => ex E b s' k | e => k e s'
  exact ex_of_run hO _ _ _ _ _ h hb
def onRun (r : Option (Exit × St)) (k : Exit → St → Prop) : Prop := match r with
  | some (e, s) => k e s
  | none => False
/-- A piece of code without loops is run. -/
theorem ex_run (hO : OrcOk E O) (N : Nat) {a : Code} {s : St} {k : Exit → St → Prop} (h : onRun (rCode E O N a s) k) : ex E a s k := by
  unfold onRun at h
  split at h
  · rename_i e s' h1; exact ex_of_run hO _ _ _ _ _ h1 h
  · exact h.elim
theorem ex_cond_run {c : Operand} {a b : Code} {s : St} {k : Exit → St → Prop} {t : Bool} (h0 : okO E c = true) (h : evalO E s.tmps c = .d (.bool t)) (ht : t = true → ex E a s k) (hf : t = false → ex E b s k) : ex E (.cond c a b) s k := by
  simp only [ex, h0, h]
  exact ⟨trivial, ht, hf⟩
theorem ex_ret {s : St} {k : Exit → St → Prop} (h : k .ret s) : ex E .ret s k := h
theorem ex_skip {s : St} {k : Exit → St → Prop} (h : k .normal s) : ex E .skip s k := h
theorem ex_exit {id : Nat} {s : St} {k : Exit → St → Prop} (h : k (.exit id) s) : ex E (.exit id) s k := h
theorem ex_label {id : Nat} {s : St} {k : Exit → St → Prop} (h : k .normal s) : ex E (.label id) s k := h

/-- A state: its temporaries one by one. -/
def Tm (n : Nat) (H : List Obj) (Q : (Nat → AV) → Prop) (s : St) : Prop := ∃ f : Nat → AV, s = ⟨(List.range n).map f, H⟩ ∧ Q f
theorem tm_of {n : Nat} {l : List AV} {H : List Obj} {Q : (Nat → AV) → Prop} (hl : l.length = n) (hq : Q (fun t => l.getD t .un)) : Tm n H Q ⟨l, H⟩ := by
  refine ⟨_, ?_, hq⟩
  subst hl
  congr 1
  apply List.ext_getElem?
  intro i
  by_cases h : i < l.length
  · simp [h, List.getD_eq_getElem?_getD]
  · simp [h, List.getElem?_eq_none (by omega : l.length ≤ i)]
end
end Go.Sv
