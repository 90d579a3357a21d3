/- One operation of the run, by the abstract values; what a call of a function is known to do. -/
import Derived.Test.YtlfbopiefjpeaaaDoorSvJ
set_option linter.unusedSimpArgs false
set_option linter.unusedVariables false
namespace Go.Sv
open Go

/-- What an operation does to the objects. -/
inductive Eff where
  | no
  | set (id : Nat) (o : Obj)
  | push (o : Obj)

def getH (H : List Obj) : Hf := fun id => H[id]?
def Eff.app (H : List Obj) : Eff → List Obj
  | .no => H
  | .set id o => H.set id o
  | .push o => H ++ [o]
/-- The same on objects by their numbers; 'nid': the number of an object that is laid anew. -/
def Eff.upd (H : Hf) (nid : Nat) : Eff → Hf
  | .no => H
  | .set id o => fun j => if j = id then some o else H j
  | .push o => fun j => if j = nid then some o else H j

structure Env where
  P : Program
  gl : Nat → Option DV

def GlOk (E : Env) (w : World) (im : Nat → Prop) : Prop := ∀ g x, E.gl g = some x → Rd w im (.ref x) (.pointer (some ⟨g, 0, none⟩))

def evalO (E : Env) (tmps : List AV) : Operand → AV
  | .tmp t => tmps.getD t .un
  | .const v => match ofVal v with
    | some x => .d x
    | none => .tup []
  | .global g => match E.gl g with
    | some x => .d (.ref x)
    | none => .tup []
  | .func f => .d (.fn f [] [])

/-- An operand that the abstract values don't tell is no operand. -/
def okO (E : Env) : Operand → Bool
  | .tmp _ => true
  | .const v => (ofVal v).isSome
  | .global g => (E.gl g).isSome
  | .func _ => true

def RelT (w : World) (G : Ctx) (tmps : List AV) (vs : Array Value) : Prop := vs.size = tmps.length ∧ ∀ t, t < tmps.length → Ra w G (tmps.getD t .un) (vs.getD t undef)

section
variable {E : Env} {w : World} {G : Ctx} {H : Hf}

theorem RelT.at_ {tmps : List AV} {vs : Array Value} (h : RelT w G tmps vs) (t : Nat) : Ra w G (tmps.getD t .un) (vs.getD t undef) := by
  by_cases ht : t < tmps.length
  · exact h.2 t ht
  · have h1 : tmps.getD t .un = .un := by simp [List.getD_eq_getElem?_getD, List.getElem?_eq_none (by omega : tmps.length ≤ t)]
    have h2 : vs.getD t undef = undef := by simp [Array.getD_eq_getD_getElem?, Array.getElem?_eq_none (by rw [h.1]; omega : vs.size ≤ t)]
    rw [h1, h2]; exact .un

theorem eval_ra {tmps : List AV} {a : Act} (h : RelT w G tmps a.tmps) (hg : GlOk E w G.im) {x : Operand} (hx : okO E x = true) : Ra w G (evalO E tmps x) (a.eval x) := by
  cases x with
  | tmp t => exact h.at_ t
  | const v =>
    simp only [okO] at hx
    obtain ⟨y, hy⟩ := Option.isSome_iff_exists.1 hx
    simp only [evalO, hy]
    exact .d y _ (ofVal_rd hy).1
  | global g =>
    simp only [okO] at hx
    obtain ⟨y, hy⟩ := Option.isSome_iff_exists.1 hx
    simp only [evalO, hy]
    exact .d _ _ (hg g y hy)
  | func f => exact .d _ _ (.fn f [] [] #[] #[] rfl rfl (fun j c e => by simp at e) fun j c e => by simp at e)

theorem RelT.put {tmps : List AV} {a : Act} (h : RelT w G tmps a.tmps) {v : AV} {u : Value} (hv : Ra w G v u) (dst : Option Tmp) :
    RelT w G (match dst with | some d => tmps.set d v | none => tmps) (a.put dst u).tmps := by
  cases dst with
  | none => exact h
  | some d =>
    simp only [Act.put]
    refine ⟨by simp [h.1], fun t ht => ?_⟩
    simp only [List.length_set] at ht
    by_cases hd : d = t
    · subst hd
      have h1 : (tmps.set d v).getD d .un = v := by simp [List.getD_eq_getElem?_getD, ht]
      have h2 : (a.tmps.setIfInBounds d u).getD d undef = u := by
        have : d < a.tmps.size := by rw [h.1]; exact ht
        simp [Array.getD_eq_getD_getElem?, this]
      rw [h1, h2]; exact hv
    · have h1 : (tmps.set d v).getD t .un = tmps.getD t .un := by simp [List.getD_eq_getElem?_getD, List.getElem?_set_ne hd]
      have h2 : (a.tmps.setIfInBounds d u).getD t undef = a.tmps.getD t undef := by simp [Array.getD_eq_getD_getElem?, Array.getElem?_setIfInBounds_ne hd]
      rw [h1, h2]; exact h.2 t ht

theorem RelT.mono {w' : World} {G' : Ctx} {tmps : List AV} {vs : Array Value} (h : RelT w G tmps vs) (hw : ∀ b, G.im b → w'.heap[b]? = w.heap[b]?) (hi : G.le G') : RelT w' G' tmps vs :=
  ⟨h.1, fun t ht => (h.2 t ht).mono hw hi⟩

def asPush (r : Option (AV × Fx)) : Option (AV × List Nat × Eff) := match r with
  | some (v, ⟨rd, [(_, o)]⟩) => some (v, rd, .push o)
  | _ => none
def asSet (r : Option (AV × Fx)) : Option (AV × List Nat × Eff) := match r with
  | some (v, ⟨rd, [(id, o)]⟩) => some (v, rd, .set id o)
  | _ => none
def asRead (r : Option (AV × Fx)) : Option (AV × List Nat × Eff) := match r with
  | some (v, ⟨rd, []⟩) => some (v, rd, .no)
  | _ => none
def asPure (r : Option AV) : Option (AV × List Nat × Eff) := match r with
  | some v => some (v, [], .no)
  | none => none

/-- An operation other than a call of a function. -/
def aop (P : Program) (o : Oper) (ρ : Operand → AV) (H : Hf) (nid : Nat) : Option (AV × List Nat × Eff) := match o.op with
  | .move x | .assign x => some (ρ x, [], .no)
  | .pick c a b => asPure (aPick (ρ c) (ρ a) (ρ b))
  | .alloc t => asPush (aAlloc P t nid)
  | .box _ x => asPush (aBox nid (ρ x))
  | .build t parts => asPure (aBuild P t (parts.toList.map fun p => (p.1, ρ p.2)))
  | .buildSlice t len parts => asPush (aBuildSlice P nid t len (parts.toList.map fun p => (p.1, ρ p.2)))
  | .load t x => asRead (aLoad P H t (ρ x))
  | .store t x y => asSet (aStore P H t (ρ x) (ρ y))
  | .nilCheck x => match ρ x with
    | .ptr id ver i off => some (.ptr id ver i off, [], .no)
    | .d (.ref v) => some (.d (.ref v), [], .no)
    | .d (.fn f a b) => some (.d (.fn f a b), [], .no)
    | .fn f a b => some (.fn f a b, [], .no)
    | _ => none
  | .binOp op t x y _ => match aBin P op t x y (ρ x) (ρ y) with
    | some v => some (.d v, [], .no)
    | none => none
  | .unOp op _ x => asPure (aUn op (ρ x))
  | .convert s d x => asPure (aConvert P s d (ρ x))
  | .makeInterface t x => asPure (aMakeIface P t (ρ x))
  | .makeFunc (.func f) first caps => some (mkFn f (first.toList.map ρ) (caps.toList.map ρ), [], .no)
  | .makeSlice t l c => asPush (aMake P nid t (ρ l) (ρ c))
  | .slice t x lo hi mx => asPure (aSlice P t (ρ x) (lo.map ρ) (hi.map ρ) (mx.map ρ))
  | .fieldAddr s x f => asPure (aFieldAddr P s (ρ x) f)
  | .field s x f => asPure (aField P s (ρ x) f)
  | .indexAddr t x i => asRead (aIndexAddr P H t (ρ x) (ρ i))
  | .index t x i => asPure (aIndex P t (ρ x) (ρ i))
  | .extract x i => asPure (aExtract (ρ x) i)
  | .call { callee := .builtin .len, args, argTypes } => match args.toList, argTypes.toList with
    | [x], [t] => asRead (aLen P H t (ρ x))
    | _, _ => none
  | .call { callee := .builtin .append, args, argTypes } => match args.toList, argTypes.toList with
    | [x, y], [t, tx] => match ρ x with
      | .row id ver => asSet (aAppend P H nid t tx (.row id ver) (ρ y))
      | v => asPush (aAppend P H nid t tx v (ρ y))
    | _, _ => none
  | .call { callee := .builtin .min, args, .. } => asPure (aMM false (args.toList.map ρ))
  | .call { callee := .builtin .max, args, .. } => asPure (aMM true (args.toList.map ρ))
  | _ => none

/-- All operands of an operation are told. -/
def okOs (E : Env) (o : Oper) : Bool := o.op.operands.all (okO E)

def Opv (w : World) (G : Ctx) (o : Oper) (ρ : Operand → AV) (σ : Operand → Value) : Prop := ∀ x ∈ o.op.operands, Ra w G (ρ x) (σ x)

/-- What the run does at an operation. -/
def Does (P : Program) (w : World) (G : Ctx) (H : Hf) (nid : Nat) (o : Oper) (σ : Operand → Value) (v : AV) (eff : Eff) : Prop :=
  ∃ u w' G', ((execOp σ o).run P w = .ok (.value u) w' ∨ ((execOp σ o).run P w = .ok .skip w' ∧ u = undef)) ∧ Ra w' G' v u ∧ RelH w' G' (eff.upd H nid) ∧ Went w G H w' G' (eff.upd H nid)

theorem does_pure {P : Program} {nid : Nat} {o : Oper} {σ : Operand → Value} {v : AV} (hr : RelH w G H) {s : Sem Value} (he : (execOp σ o).run P w = (s.run P w).andThen fun u w' => .ok (.value u) w') (h : SndV P w G s v) : Does P w G H nid o σ v .no := by
  obtain ⟨u, h1, h2⟩ := h
  exact ⟨u, w, G, .inl (by rw [he, h1]; rfl), h2, hr, Went.refl ..⟩
theorem does_push {P : Program} {nid : Nat} {o : Oper} {σ : Operand → Value} {v : AV} {ob : Obj} {s : Sem Value} (he : (execOp σ o).run P w = (s.run P w).andThen fun u w' => .ok (.value u) w') (h : Snd P w G H s v [(nid, ob)]) : Does P w G H nid o σ v (.push ob) := by
  obtain ⟨u, w', G', h1, h2, h3, h4⟩ := h
  exact ⟨u, w', G', .inl (by rw [he, h1]; rfl), h2, h3, h4⟩
theorem does_set {P : Program} {nid id : Nat} {o : Oper} {σ : Operand → Value} {v : AV} {ob : Obj} {s : Sem Value} (he : (execOp σ o).run P w = (s.run P w).andThen fun u w' => .ok (.value u) w') (h : Snd P w G H s v [(id, ob)]) : Does P w G H nid o σ v (.set id ob) := by
  obtain ⟨u, w', G', h1, h2, h3, h4⟩ := h
  exact ⟨u, w', G', .inl (by rw [he, h1]; rfl), h2, h3, h4⟩

theorem asPure_inv {r : Option AV} {v : AV} {rd : List Nat} {eff : Eff} (h : asPure r = some (v, rd, eff)) : r = some v ∧ eff = .no ∧ rd = [] := by
  unfold asPure at h
  split at h
  · simp only [Option.some.injEq, Prod.mk.injEq] at h; obtain ⟨rfl, rfl, rfl⟩ := h; exact ⟨rfl, rfl, rfl⟩
  · cases h
theorem asPush_inv {r : Option (AV × Fx)} {v : AV} {rd : List Nat} {eff : Eff} (h : asPush r = some (v, rd, eff)) : ∃ id o, r = some (v, ⟨rd, [(id, o)]⟩) ∧ eff = .push o := by
  unfold asPush at h
  split at h
  · simp only [Option.some.injEq, Prod.mk.injEq] at h; obtain ⟨rfl, rfl, rfl⟩ := h; exact ⟨_, _, rfl, rfl⟩
  · cases h
theorem asSet_inv {r : Option (AV × Fx)} {v : AV} {rd : List Nat} {eff : Eff} (h : asSet r = some (v, rd, eff)) : ∃ id o, r = some (v, ⟨rd, [(id, o)]⟩) ∧ eff = .set id o := by
  unfold asSet at h
  split at h
  · simp only [Option.some.injEq, Prod.mk.injEq] at h; obtain ⟨rfl, rfl, rfl⟩ := h; exact ⟨_, _, rfl, rfl⟩
  · cases h
theorem asRead_inv {r : Option (AV × Fx)} {v : AV} {rd : List Nat} {eff : Eff} (h : asRead r = some (v, rd, eff)) : r = some (v, ⟨rd, []⟩) ∧ eff = .no := by
  unfold asRead at h
  split at h
  · simp only [Option.some.injEq, Prod.mk.injEq] at h; obtain ⟨rfl, rfl, rfl⟩ := h; exact ⟨rfl, rfl⟩
  · cases h

theorem aBox_id {nid : Nat} {x : AV} {v : AV} {fx : Fx} (h : aBox nid x = some (v, fx)) : ∃ o, fx.wr = [(nid, o)] := by
  unfold aBox at h
  split at h
  · split at h
    · simp only [Option.some.injEq, Prod.mk.injEq] at h; obtain ⟨_, rfl⟩ := h; exact ⟨_, rfl⟩
    · cases h
  · cases h
theorem aAlloc_id {P : Program} {t nid : Nat} {v : AV} {fx : Fx} (h : aAlloc P t nid = some (v, fx)) : ∃ o, fx.wr = [(nid, o)] := by
  unfold aAlloc at h
  split at h
  · split at h
    · split at h
      · exact aBox_id h
      · cases h
    · cases h
  · cases h
theorem aBuildSlice_id {P : Program} {nid t len : Nat} {ps : List (Nat × AV)} {v : AV} {fx : Fx} (h : aBuildSlice P nid t len ps = some (v, fx)) : ∃ o, fx.wr = [(nid, o)] := by
  unfold aBuildSlice at h
  repeat' split at h
  all_goals first
    | (simp only [Option.some.injEq, Prod.mk.injEq] at h; obtain ⟨_, rfl⟩ := h; exact ⟨_, rfl⟩)
    | cases h
theorem aMake_id {P : Program} {nid t : Nat} {l c : AV} {v : AV} {fx : Fx} (h : aMake P nid t l c = some (v, fx)) : ∃ o, fx.wr = [(nid, o)] := by
  unfold aMake at h
  repeat' split at h
  all_goals first
    | (simp only [Option.some.injEq, Prod.mk.injEq] at h; obtain ⟨_, rfl⟩ := h; exact ⟨_, rfl⟩)
    | cases h
theorem aAppend_id {P : Program} {nid t tx : Nat} {x y : AV} {v : AV} {fx : Fx} (h : aAppend P H nid t tx x y = some (v, fx)) (hx : ∀ id ver, x ≠ .row id ver) : ∃ o, fx.wr = [(nid, o)] := by
  unfold aAppend at h
  split at h
  · split at h
    · split at h
      · split at h
        · split at h
          · split at h
            · split at h
              · split at h
                · simp only [Option.some.injEq, Prod.mk.injEq] at h; obtain ⟨_, rfl⟩ := h; exact ⟨_, rfl⟩
                · cases h
              · split at h
                · simp only [Option.some.injEq, Prod.mk.injEq] at h; obtain ⟨_, rfl⟩ := h; exact ⟨_, rfl⟩
                · cases h
              · exact absurd rfl (hx _ _)
              · cases h
            · cases h
          · cases h
        · cases h
      · cases h
    · cases h
  · cases h

theorem ps_map {ρ : Operand → AV} {σ : Operand → Value} (parts : List (Nat × Operand)) (h : ∀ p ∈ parts, Ra w G (ρ p.2) (σ p.2)) : Ps w G (parts.map fun p => (p.1, ρ p.2)) (parts.map fun p => (p.1, σ p.2)) := by
  induction parts with
  | nil => exact .nil
  | cons p ps ih => exact .cons ⟨rfl, h p (List.mem_cons_self ..)⟩ (ih fun q hq => h q (List.mem_cons_of_mem _ hq))
theorem all2_map {ρ : Operand → AV} {σ : Operand → Value} (xs : List Operand) (h : ∀ x ∈ xs, Ra w G (ρ x) (σ x)) : All2 (Ra w G) (xs.map ρ) (xs.map σ) := by
  induction xs with
  | nil => exact .nil
  | cons p ps ih => exact .cons (h p (List.mem_cons_self ..)) (ih fun q hq => h q (List.mem_cons_of_mem _ hq))
theorem opt2_map {ρ : Operand → AV} {σ : Operand → Value} (x : Option Operand) (h : ∀ y, x = some y → Ra w G (ρ y) (σ y)) : Opt2 w G (x.map ρ) (x.map σ) := by
  cases x with
  | none => trivial
  | some y => exact h y rfl

theorem aop_does {P : Program} (hr : RelH w G H) {nid : Nat} {o : Oper} {ρ : Operand → AV} {σ : Operand → Value} (ho : Opv w G o ρ σ) {v : AV} {rd : List Nat} {eff : Eff} (h : aop P o ρ H nid = some (v, rd, eff)) (hid : (∃ ob, eff = .push ob) → H nid = none) : Does P w G H nid o σ v eff := by
  unfold aop at h
  unfold Opv at ho
  split at h
  · rename_i x hop
    rw [hop] at ho
    cases h
    exact ⟨σ x, w, G, .inl (by simp [execOp, hop]), ho x (by simp [Op.operands]), hr, Went.refl ..⟩
  · rename_i x hop
    rw [hop] at ho
    cases h
    exact ⟨σ x, w, G, .inl (by simp [execOp, hop]), ho x (by simp [Op.operands]), hr, Went.refl ..⟩
  · rename_i c a b hop
    rw [hop] at ho
    obtain ⟨h1, rfl, rfl⟩ := asPure_inv h
    obtain ⟨t, e, hv⟩ := aPick_snd (ho c (by simp [Op.operands])) (ho a (by simp [Op.operands])) (ho b (by simp [Op.operands])) h1
    exact ⟨_, w, G, .inl (by simp [execOp, hop, e, asBool]), hv, hr, Went.refl ..⟩
  · rename_i t hop
    obtain ⟨id, ob, h1, rfl⟩ := asPush_inv h
    obtain ⟨ob', e⟩ := aAlloc_id h1
    cases e
    exact does_push (by simp [execOp, hop]) (aAlloc_snd hr (hid ⟨_, rfl⟩) h1)
  · rename_i t x hop
    rw [hop] at ho
    obtain ⟨id, ob, h1, rfl⟩ := asPush_inv h
    obtain ⟨ob', e⟩ := aBox_id h1
    cases e
    exact does_push (by simp [execOp, hop]) (aBox_snd hr (hid ⟨_, rfl⟩) t (ho x (by simp [Op.operands])) h1)
  · rename_i t parts hop
    rw [hop] at ho
    obtain ⟨h1, rfl, rfl⟩ := asPure_inv h
    refine does_pure hr (s := Instr.build t (parts.map fun p => (p.1, σ p.2))) (by simp [execOp, hop]) (aBuild_snd ?_ h1)
    rw [Array.toList_map]
    exact ps_map _ fun p hp => ho p.2 (by simp [Op.operands]; exact ⟨p.1, by simpa using hp⟩)
  · rename_i t len parts hop
    rw [hop] at ho
    obtain ⟨id, ob, h1, rfl⟩ := asPush_inv h
    obtain ⟨ob', e⟩ := aBuildSlice_id h1
    cases e
    refine does_push (s := Instr.buildSlice t len (parts.map fun p => (p.1, σ p.2))) (by simp [execOp, hop]) (aBuildSlice_snd hr (hid ⟨_, rfl⟩) ?_ h1)
    rw [Array.toList_map]
    exact ps_map _ fun p hp => ho p.2 (by simp [Op.operands]; exact ⟨p.1, by simpa using hp⟩)
  · rename_i t x hop
    rw [hop] at ho
    obtain ⟨h1, rfl⟩ := asRead_inv h
    exact does_pure hr (by simp [execOp, hop]) (aLoad_snd hr (ho x (by simp [Op.operands])) h1).1
  · rename_i t x y hop
    rw [hop] at ho
    obtain ⟨id, ob, h1, rfl⟩ := asSet_inv h
    obtain ⟨w', g1, g2, g3, rfl⟩ := aStore_snd hr (ho x (by simp [Op.operands])) (ho y (by simp [Op.operands])) h1
    exact ⟨undef, w', G, .inr ⟨by simp [execOp, hop, g1], rfl⟩, .un, g2, g3⟩
  · rename_i x hop
    rw [hop] at ho
    have hx := ho x (by simp [Op.operands])
    generalize hu : σ x = u at hx
    split at h
    · rename_i e; rw [e] at hx; cases h; cases hx with
      | ptr _ _ _ _ hd hh hn => exact ⟨_, w, G, .inl (by simp [execOp, hop, hu]), .ptr _ _ _ _ hd hh hn, hr, Went.refl ..⟩
    · rename_i e; rw [e] at hx; cases h
      have hd := hx.of_d
      cases hd with
      | ref => exact ⟨_, w, G, .inl (by simp [execOp, hop, hu]), hx, hr, Went.refl ..⟩
    · rename_i e; rw [e] at hx; cases h
      have hd := hx.of_d
      cases hd with
      | fn => exact ⟨_, w, G, .inl (by simp [execOp, hop, hu]), hx, hr, Went.refl ..⟩
    · rename_i e; rw [e] at hx; cases h
      cases hx with
      | fn _ _ _ us vs h1 h2 r1 r2 => exact ⟨_, w, G, .inl (by simp [execOp, hop, hu]), .fn _ _ _ us vs h1 h2 r1 r2, hr, Went.refl ..⟩
    · cases h
  · rename_i op t x y ty hop
    rw [hop] at ho
    split at h
    · rename_i v' h1
      cases h
      exact does_pure hr (by simp only [execOp, hop, Sem.run_bind]; cases (eqGuard op t x y (σ x) (σ y)).run P w <;> rfl) (aBin_snd (ho x (by simp [Op.operands])) (ho y (by simp [Op.operands])) h1)
    · cases h
  · rename_i op t x hop
    rw [hop] at ho
    obtain ⟨h1, rfl, rfl⟩ := asPure_inv h
    exact does_pure hr (by simp [execOp, hop]) (aUn_snd (ho x (by simp [Op.operands])) h1)
  · rename_i s d x hop
    rw [hop] at ho
    obtain ⟨h1, rfl, rfl⟩ := asPure_inv h
    exact does_pure hr (by simp [execOp, hop]) (aConvert_snd (ho x (by simp [Op.operands])) h1)
  · rename_i t x hop
    rw [hop] at ho
    obtain ⟨h1, rfl, rfl⟩ := asPure_inv h
    exact does_pure hr (by simp [execOp, hop]) (aMakeIface_snd (ho x (by simp [Op.operands])) h1)
  · rename_i f first caps hop
    rw [hop] at ho
    cases h
    have key : ∀ (xs : Array Operand), (∀ x ∈ xs, Ra w G (ρ x) (σ x)) → ∀ (j : Nat) (c : AV), (xs.toList.map ρ)[j]? = some c → Ra w G c ((xs.map σ).getD j undef) := by
      intro xs hxs j c e
      simp only [List.getElem?_map, Option.map_eq_some_iff, Array.getElem?_toList] at e
      obtain ⟨y, hy, rfl⟩ := e
      have : (xs.map σ).getD j undef = σ y := by simp [Array.getD_eq_getD_getElem?, hy]
      rw [this]; exact hxs y (Array.mem_of_getElem? hy)
    refine ⟨.func (.func f) (first.map σ) (caps.map σ), w, G, .inl (by simp [execOp, hop, Instr.makeFunc]), mkFn_ra (by simp) (by simp) (key first fun x hx => ho x (by simp [Op.operands, hx])) (key caps fun x hx => ho x (by simp [Op.operands, hx])), hr, Went.refl ..⟩
  · rename_i t l c hop
    rw [hop] at ho
    obtain ⟨id, ob, h1, rfl⟩ := asPush_inv h
    obtain ⟨ob', e⟩ := aMake_id h1
    cases e
    exact does_push (by simp [execOp, hop]) (aMake_snd hr (hid ⟨_, rfl⟩) (ho l (by simp [Op.operands])) (ho c (by simp [Op.operands])) h1)
  · rename_i t x lo hi mx hop
    rw [hop] at ho
    obtain ⟨h1, rfl, rfl⟩ := asPure_inv h
    exact does_pure hr (by simp [execOp, hop]) (aSlice_snd (ho x (by simp [Op.operands])) (opt2_map lo fun y e => ho y (by simp [Op.operands, e])) (opt2_map hi fun y e => ho y (by simp [Op.operands, e])) (opt2_map mx fun y e => ho y (by simp [Op.operands, e])) h1)
  · rename_i s x f hop
    rw [hop] at ho
    obtain ⟨h1, rfl, rfl⟩ := asPure_inv h
    exact does_pure hr (by simp [execOp, hop]) (aFieldAddr_snd (ho x (by simp [Op.operands])) h1)
  · rename_i s x f hop
    rw [hop] at ho
    obtain ⟨h1, rfl, rfl⟩ := asPure_inv h
    exact does_pure hr (by simp [execOp, hop]) (aField_snd (ho x (by simp [Op.operands])) h1)
  · rename_i t x i hop
    rw [hop] at ho
    obtain ⟨h1, rfl⟩ := asRead_inv h
    exact does_pure hr (by simp [execOp, hop]) (aIndexAddr_snd hr (ho x (by simp [Op.operands])) (ho i (by simp [Op.operands])) h1).1
  · rename_i t x i hop
    rw [hop] at ho
    obtain ⟨h1, rfl, rfl⟩ := asPure_inv h
    exact does_pure hr (by simp [execOp, hop]) (aIndex_snd (ho x (by simp [Op.operands])) (ho i (by simp [Op.operands])) h1)
  · rename_i x i hop
    rw [hop] at ho
    obtain ⟨h1, rfl, rfl⟩ := asPure_inv h
    exact does_pure hr (by simp [execOp, hop]) (aExtract_snd (ho x (by simp [Op.operands])) h1)
  · rename_i args argTypes hop
    rw [hop] at ho
    split at h
    · rename_i x t hargs htypes
      obtain ⟨h1, rfl⟩ := asRead_inv h
      have ea : args = #[x] := by apply Array.toList_inj.1; simpa using hargs
      have et : argTypes = #[t] := by apply Array.toList_inj.1; simpa using htypes
      subst ea; subst et
      exact does_pure hr (s := Builtin.len_ #[t] o.type #[σ x]) (by simp [execOp, hop, resolve, invoke, builtin]) (aLen_snd hr (ho x (by simp [Op.operands, Call.operands])) h1).1
    · cases h
  · rename_i args argTypes hop
    rw [hop] at ho
    split at h
    · rename_i x y t tx hargs htypes
      have ea : args = #[x, y] := by apply Array.toList_inj.1; simpa using hargs
      have et : argTypes = #[t, tx] := by apply Array.toList_inj.1; simpa using htypes
      subst ea; subst et
      have hx := ho x (by simp [Op.operands, Call.operands])
      have hy := ho y (by simp [Op.operands, Call.operands])
      have he : (execOp σ o).run P w = ((Builtin.append_ #[t, tx] o.type #[σ x, σ y]).run P w).andThen fun u w' => .ok (.value u) w' := by simp [execOp, hop, resolve, invoke, builtin]
      split at h
      · rename_i id ver e
        rw [e] at hx
        obtain ⟨id', ob, h1, rfl⟩ := asSet_inv h
        exact does_set he (aAppend_snd hr (fun hne => absurd rfl (hne _ _)) hx hy h1)
      · rename_i hne
        obtain ⟨id', ob, h1, rfl⟩ := asPush_inv h
        obtain ⟨ob', e⟩ := aAppend_id h1 (fun id ver e => hne id ver e)
        cases e
        exact does_push he (aAppend_snd hr (fun _ => hid ⟨_, rfl⟩) hx hy h1)
    · cases h
  · rename_i args argTypes hop
    rw [hop] at ho
    obtain ⟨h1, rfl, rfl⟩ := asPure_inv h
    obtain ⟨u, g1, g2⟩ := aMM_min (all2_map args.toList (σ := σ) fun x hx => ho x (by simp [Op.operands, Call.operands]; simpa using hx)) h1
    refine ⟨u, w, G, .inl ?_, g2, hr, Went.refl ..⟩
    have : (Builtin.min_ argTypes o.type (args.map σ)).run P w = .ok u w := by simp only [Builtin.min_, Array.toList_map]; exact g1
    simp [execOp, hop, resolve, invoke, builtin, this]
  · rename_i args argTypes hop
    rw [hop] at ho
    obtain ⟨h1, rfl, rfl⟩ := asPure_inv h
    obtain ⟨u, g1, g2⟩ := aMM_max (all2_map args.toList (σ := σ) fun x hx => ho x (by simp [Op.operands, Call.operands]; simpa using hx)) h1
    refine ⟨u, w, G, .inl ?_, g2, hr, Went.refl ..⟩
    have : (Builtin.max_ argTypes o.type (args.map σ)).run P w = .ok u w := by simp only [Builtin.max_, Array.toList_map]; exact g1
    simp [execOp, hop, resolve, invoke, builtin, this]
  · cases h
end
end Go.Sv
