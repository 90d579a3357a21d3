/- Calls, lists of operations, code: what the abstract values say holds of the run. -/
import Derived.Test.YtlfbopiefjpeaaaDoorSvL
set_option linter.unusedSimpArgs false
set_option linter.unusedVariables false
namespace Go.Sv
open Go

def freezeL (H : List Obj) : List Nat → List Obj
  | [] => H
  | id :: ids => freezeL (match H[id]? with | some o => H.set id { o with frozen := true } | none => H) ids

/-- What an operation looked at, what it wrote. -/
structure Fp where
  all : Bool := false
  rd : List Nat := []
  wr : List Nat := []

def Eff.ids (nid : Nat) : Eff → List Nat
  | .no => []
  | .set id _ => [id]
  | .push _ => [nid]

structure St where
  tmps : List AV
  heap : List Obj

def putT (tmps : List AV) (dst : Option Tmp) (v : AV) : List AV := match dst with
  | some d => tmps.set d v
  | none => tmps

/-- A call, where the operations stand in order. -/
def CallK (E : Env) (g : FuncId) (args : List AV) (H : List Obj) (k : AV → List Obj → Fp → Prop) : Prop :=
  (∃ ds ids r, mapRes (res (getH H) 50) args = some (ds, ids) ∧ PureC E g ds r ∧ k (.d r) (if r.flat then H else freezeL H ids) ⟨false, ids, if r.flat then [] else ids⟩) ∨
  HC E g args H (fun r H' => k r H' ⟨true, [], []⟩)
/-- A call in a region whose order is drawn: what it does is known ahead. -/
def CallD (E : Env) (g : FuncId) (args : List AV) (H : List Obj) (k : AV → List Obj → Fp → Prop) : Prop :=
  (∃ ds ids r, mapRes (res (getH H) 50) args = some (ds, ids) ∧ PureC E g ds r ∧ k (.d r) (if r.flat then H else freezeL H ids) ⟨false, ids, if r.flat then [] else ids⟩) ∨
  ∃ r H', HC E g args H (fun r1 H1 => r1 = r ∧ H1 = H') ∧ k r H' ⟨true, [], []⟩

def fnOf : AV → Option (FuncId × List AV × List AV)
  | .d (.fn f a b) => some (f, a.map .d, b.map .d)
  | .fn f a b => some (f, a, b)
  | _ => none

/-- Is it left open whether a slice without elements is nil? -/
def nilUnk (P : Program) (H : Hf) (t : TypeId) (x y : AV) : Bool := match P.underlying t with
  | some (.slice _) => match x, y with
    | .d (.sl _ []), .d .nilSl => true
    | .d .nul, .d .nilSl => true
    | .row id ver, .d .nilSl => match H id with
      | some o => if o.ver = ver then o.elems.isEmpty else false
      | none => false
    | _, _ => false
  | _ => false

def exDef (E : Env) (o : Oper) (s : St) (k : AV → List Obj → Fp → Prop) : Prop :=
  match aop E.P o (evalO E s.tmps) (getH s.heap) s.heap.length with
  | some (v, rd, eff) => k v (eff.app s.heap) ⟨false, rd, eff.ids s.heap.length⟩
  | none => False

def exOp (E : Env) (dr : Bool) (o : Oper) (s : St) (k : AV → List Obj → Fp → Prop) : Prop :=
  okOs E o = true ∧ match o.op with
  | .call { callee := .value f, args, .. } => match fnOf (evalO E s.tmps f) with
    | some (g, first, caps) => if dr then CallD E g (first ++ args.toList.map (evalO E s.tmps) ++ caps) s.heap k else CallK E g (first ++ args.toList.map (evalO E s.tmps) ++ caps) s.heap k
    | none => False
  | .binOp op t x y _ => if dr = false ∧ (op = .eql ∨ op = .neq) ∧ nilUnk E.P (getH s.heap) t (evalO E s.tmps x) (evalO E s.tmps y) = true then ∀ b : Bool, k (.d (.bool b)) s.heap {} else exDef E o s k
  | _ => exDef E o s k

def yieldedA (ops : Array Oper) (tmps : List AV) (j : Nat) : Option Bool := match (ops[j]?).bind (·.dst) with
  | some t => match tmps.getD t .un with
    | .d (.bool b) => some b
    | _ => none
  | none => none

def exOps (E : Env) (dr : Bool) (ops : Array Oper) : List Oper → Nat → St → List (Nat × Fp) → (St → List (Nat × Fp) → Prop) → Prop
  | [], _, s, fps, k => k s fps
  | o :: rest, i, s, fps, k => match o.guard with
    | none => exOp E dr o s fun v H fp => exOps E dr ops rest (i + 1) ⟨putT s.tmps o.dst v, H⟩ (fps ++ [(i, fp)]) k
    | some (g, want) => match yieldedA ops s.tmps g with
      | some b => (b = want → exOp E dr o s fun v H fp => exOps E dr ops rest (i + 1) ⟨putT s.tmps o.dst v, H⟩ (fps ++ [(i, fp)]) k) ∧
                  (b = !want → exOps E dr ops rest (i + 1) ⟨putT s.tmps o.dst .un, s.heap⟩ (fps ++ [(i, {})]) k)
      | none => exOps E dr ops rest (i + 1) ⟨putT s.tmps o.dst .un, s.heap⟩ (fps ++ [(i, {})]) k

structure RelS (E : Env) (w : World) (G : Ctx) (s : St) (a : Act) : Prop where
  tmps : RelT w G s.tmps a.tmps
  heap : RelH w G (getH s.heap)
  gl : GlOk E w G.im
  defers : a.defers = []

theorem GlOk.went {E : Env} {w w' : World} {G G' : Ctx} {H H' : Hf} (h : GlOk E w G.im) (hr : RelH w G H) (hw : Went w G H w' G' H') : GlOk E w' G'.im :=
  fun g x e => (h g x e).mono (hw.im_keep hr) hw.le.1

section
variable {E : Env} {w : World} {G : Ctx}

theorem getH_set {H : List Obj} {id : Nat} {o ob : Obj} (h : getH H id = some o) : getH (H.set id ob) = fun j => if j = id then some ob else getH H j := by
  funext j
  simp only [getH]
  have hlt : id < H.length := (List.getElem?_eq_some_iff.1 h).1
  rw [List.getElem?_set]
  by_cases e : id = j
  · subst e; simp [hlt]
  · rw [if_neg e, if_neg (fun e' => e e'.symm)]
theorem getH_push {H : List Obj} {ob : Obj} : getH (H ++ [ob]) = fun j => if j = H.length then some ob else getH H j := by
  funext j
  simp only [getH]
  by_cases e : j = H.length
  · subst e; simp
  · rw [if_neg e]
    by_cases hlt : j < H.length
    · rw [List.getElem?_append_left hlt]
    · rw [List.getElem?_append_right (by omega), List.getElem?_eq_none (by simp; omega), List.getElem?_eq_none (by omega)]
theorem getH_len {H : List Obj} : getH H H.length = none := by simp [getH]

theorem set_reads {P : Program} {o : Oper} {ρ : Operand → AV} {H : Hf} {nid : Nat} {v : AV} {rd : List Nat} {id : Nat} {ob : Obj} (h : aop P o ρ H nid = some (v, rd, .set id ob)) : ∃ o', H id = some o' ∧ id ∈ rd := by
  unfold aop at h
  have hset : ∀ (r : Option (AV × Fx)), asSet r = some (v, rd, .set id ob) → r = some (v, ⟨rd, [(id, ob)]⟩) := by
    intro r hr
    obtain ⟨id', o', h1, h2⟩ := asSet_inv hr
    cases h2; exact h1
  split at h
  all_goals first
    | (obtain ⟨_, e, _⟩ := asPure_inv h; cases e; done)
    | (obtain ⟨_, _, _, e⟩ := asPush_inv h; cases e; done)
    | (obtain ⟨_, e⟩ := asRead_inv h; cases e; done)
    | (cases h; done)
    | skip
  · have h1 := hset _ h
    unfold aStore at h1
    repeat' split at h1
    all_goals first
      | (simp only [Option.some.injEq, Prod.mk.injEq, Fx.mk.injEq, List.cons.injEq, and_true] at h1; obtain ⟨_, h2, h3, _⟩ := h1; subst h3; subst h2; exact ⟨_, by assumption, List.mem_singleton.2 rfl⟩)
      | cases h1
  · split at h <;> cases h
  · split at h <;> cases h
  · split at h
    · obtain ⟨_, e⟩ := asRead_inv h; cases e
    · cases h
  · split at h
    · split at h
      · have h1 := hset _ h
        unfold aAppend at h1
        repeat' split at h1
        all_goals first
          | contradiction
          | (simp only [Option.some.injEq, Prod.mk.injEq, Fx.mk.injEq, List.cons.injEq, and_true] at h1; obtain ⟨_, h2, h3, _⟩ := h1; subst h3; subst h2; exact ⟨_, by assumption, List.mem_cons_self ..⟩)
          | cases h1
      · obtain ⟨_, _, _, e⟩ := asPush_inv h; cases e
    · cases h

theorem getH_app {P : Program} {o : Oper} {ρ : Operand → AV} {H : List Obj} {v : AV} {rd : List Nat} {eff : Eff} (h : aop P o ρ (getH H) H.length = some (v, rd, eff)) : getH (eff.app H) = eff.upd (getH H) H.length := by
  cases eff with
  | no => rfl
  | set id ob =>
    obtain ⟨o', h1, _⟩ := set_reads h
    exact getH_set h1
  | push ob => exact getH_push
end
end Go.Sv
