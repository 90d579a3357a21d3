/- Running code by the abstract values: a run that comes to an end tells what holds. -/
import Derived.Test.YtlfbopiefjpeaaaDoorSvS
set_option linter.unusedSimpArgs false
set_option linter.unusedVariables false
namespace Go.Sv
open Go

/-- What is known of callees. -/
structure Orc where
  pure : Nat → List DV → Option DV
  hc : Nat → List AV → List Obj → Option (AV × List Obj)

structure OrcOk (E : Env) (O : Orc) : Prop where
  pure : ∀ f ds r, O.pure f ds = some r → PureC E f ds r
  hc : ∀ f args H r H', O.hc f args H = some (r, H') → HC E f args H (fun r1 H1 => r1 = r ∧ H1 = H')

def Orc.none : Orc := ⟨fun _ _ => .none, fun _ _ _ => .none⟩
theorem orc_none {E : Env} : OrcOk E Orc.none := ⟨fun _ _ _ h => (by cases h), fun _ _ _ _ _ h => (by cases h)⟩

def rCall (O : Orc) (g : FuncId) (args : List AV) (H : List Obj) : Option (AV × List Obj × Fp) :=
  match mapRes (res (getH H) 50) args with
  | some (ds, ids) => match O.pure g ds with
    | some r => match r.flat with
      | true => some (.d r, H, ⟨false, ids, []⟩)
      | false => some (.d r, freezeL H ids, ⟨false, ids, ids⟩)
    | .none => match O.hc g args H with
      | some (r, H') => some (r, H', ⟨true, [], []⟩)
      | .none => .none
  | .none => match O.hc g args H with
    | some (r, H') => some (r, H', ⟨true, [], []⟩)
    | .none => .none

def rDef (E : Env) (o : Oper) (s : St) : Option (AV × List Obj × Fp) := match aop E.P o (evalO E s.tmps) (getH s.heap) s.heap.length with
  | some (v, rd, eff) => some (v, eff.app s.heap, ⟨false, rd, eff.ids s.heap.length⟩)
  | .none => .none

def okLs (E : Env) : List Operand → Bool
  | [] => true
  | x :: xs => match okO E x with
    | true => okLs E xs
    | false => false
theorem okLs_all {E : Env} : ∀ l, okLs E l = l.all (okO E)
  | [] => rfl
  | x :: xs => by
    simp only [okLs, List.all_cons]
    cases okO E x with
    | true => simpa using okLs_all xs
    | false => simp
def okOp (E : Env) (o : Oper) : Bool := okLs E o.op.operands.toList
theorem okOp_eq {E : Env} {o : Oper} : okOp E o = okOs E o := by
  unfold okOp okOs
  rw [okLs_all, Array.all_toList]

def rOp (E : Env) (O : Orc) (dr : Bool) (o : Oper) (s : St) : Option (AV × List Obj × Fp) := match okOp E o with
  | false => .none
  | true => match o.op with
    | .call { callee := .value f, args, .. } => match fnOf (evalO E s.tmps f) with
      | some (g, first, caps) => rCall O g (first ++ args.toList.map (evalO E s.tmps) ++ caps) s.heap
      | .none => .none
    | .binOp op t x y _ => match dr || !(op == .eql || op == .neq) || !nilUnk E.P (getH s.heap) t (evalO E s.tmps x) (evalO E s.tmps y) with
      | true => rDef E o s
      | false => .none
    | _ => rDef E o s

def rOps (E : Env) (O : Orc) (dr : Bool) (ops : Array Oper) : List Oper → Nat → St → List (Nat × Fp) → Option (St × List (Nat × Fp))
  | [], _, s, fps => some (s, fps)
  | o :: rest, i, s, fps => match o.guard with
    | .none => match rOp E O dr o s with
      | some (v, H, fp) => rOps E O dr ops rest (i + 1) ⟨putT s.tmps o.dst v, H⟩ (match dr with | true => fps ++ [(i, fp)] | false => [])
      | .none => .none
    | some (g, want) => match yieldedA ops s.tmps g with
      | some b => match b == want with
        | true => match rOp E O dr o s with
          | some (v, H, fp) => rOps E O dr ops rest (i + 1) ⟨putT s.tmps o.dst v, H⟩ (match dr with | true => fps ++ [(i, fp)] | false => [])
          | .none => .none
        | false => rOps E O dr ops rest (i + 1) ⟨putT s.tmps o.dst .un, s.heap⟩ (match dr with | true => fps ++ [(i, {})] | false => [])
      | .none => rOps E O dr ops rest (i + 1) ⟨putT s.tmps o.dst .un, s.heap⟩ (match dr with | true => fps ++ [(i, {})] | false => [])

/-- 'n' rounds of a loop at most. -/
def rLoop (body : St → Option (Exit × St)) : Nat → St → Option (Exit × St)
  | 0, _ => .none
  | n + 1, s => match body s with
    | some (.normal, s') => rLoop body n s'
    | r => r

def rCode (E : Env) (O : Orc) (N : Nat) : Code → St → Option (Exit × St)
  | .skip, s => some (.normal, s)
  | .label _, s => some (.normal, s)
  | .region _ ops dr, s => match dr with
    | true => match drawStatic ops with
      | true => match rOps E O true ops ops.toList 0 s [] with
        | some (s', fps) => match pairsOk ops fps with
          | true => some (.normal, s')
          | false => .none
        | .none => .none
      | false => .none
    | false => match rOps E O false ops ops.toList 0 s [] with
      | some (s', _) => some (.normal, s')
      | .none => .none
  | .seq a b, s => match rCode E O N a s with
    | some (.normal, s') => rCode E O N b s'
    | r => r
  | .cond c a b, s => match okO E c with
    | true => match evalO E s.tmps c with
      | .d (.bool t) => match t with
        | true => rCode E O N a s
        | false => rCode E O N b s
      | _ => .none
    | false => .none
  | .block id c, s => match rCode E O N c s with
    | some (.exit id', s') => match id' == id with
      | true => some (.normal, s')
      | false => some (.exit id', s')
    | r => r
  | .loop c, s => rLoop (rCode E O N c) N s
  | .exit id, s => some (.exit id, s)
  | .ret, s => some (.ret, s)
  | .scope c, s => match rCode E O N c s with
    | some (.goto _, _) => .none
    | r => r
  | _, _ => .none

def rFn (E : Env) (O : Orc) (N : Nat) (fn : Func) (args : List AV) (H : List Obj) : Option (AV × List Obj) := match fn.body with
  | some c => match rCode E O N c ⟨args ++ List.replicate (fn.ntmps - args.length) .un, H⟩ with
    | some (.normal, s) | some (.ret, s) => match resOf E.P fn s with
      | some v => some (v, s.heap)
      | .none => .none
    | _ => .none
  | .none => .none

section
variable {E : Env} {O : Orc}

theorem rCall_sound (hO : OrcOk E O) {g : FuncId} {args : List AV} {H : List Obj} {v : AV} {H' : List Obj} {fp : Fp} (h : rCall O g args H = some (v, H', fp)) {k : AV → List Obj → Fp → Prop} (hk : k v H' fp) :
    CallD E g args H k ∧ CallK E g args H k := by
  have hc : ∀ r H1, O.hc g args H = some (r, H1) → (v, H', fp) = (r, H1, ({ all := true } : Fp)) → CallD E g args H k ∧ CallK E g args H k := by
    intro r H1 e e2
    simp only [Prod.mk.injEq] at e2
    obtain ⟨rfl, rfl, rfl⟩ := e2
    have := hO.hc _ _ _ _ _ e
    exact ⟨.inr ⟨_, _, this, hk⟩, .inr (this.mono fun _ _ ⟨e1, e2⟩ => by subst e1; subst e2; exact hk)⟩
  unfold rCall at h
  split at h
  · rename_i ds ids hm
    split at h
    · rename_i r hr
      have hp := hO.pure _ _ _ hr
      have key : (∃ ds ids r, mapRes (res (getH H) 50) args = some (ds, ids) ∧ PureC E g ds r ∧ k (.d r) (if r.flat then H else freezeL H ids) ⟨false, ids, if r.flat then [] else ids⟩) := by
        refine ⟨ds, ids, r, hm, hp, ?_⟩
        split at h
        · rename_i hf
          cases h
          rw [if_pos hf, if_pos hf]; exact hk
        · rename_i hf
          cases h
          rw [if_neg (by simp [hf]), if_neg (by simp [hf])]; exact hk
      exact ⟨.inl key, .inl key⟩
    · split at h
      · rename_i r H1 e
        cases h; exact hc _ _ e rfl
      · cases h
  · split at h
    · rename_i r H1 e
      cases h; exact hc _ _ e rfl
    · cases h

theorem rDef_sound {o : Oper} {s : St} {v : AV} {H' : List Obj} {fp : Fp} (h : rDef E o s = some (v, H', fp)) {k : AV → List Obj → Fp → Prop} (hk : k v H' fp) : exDef E o s k := by
  unfold rDef at h
  unfold exDef
  split at h
  · rename_i v' rd eff e
    cases h
    rw [e]; exact hk
  · cases h

theorem rOp_sound (hO : OrcOk E O) {dr : Bool} {o : Oper} {s : St} {v : AV} {H' : List Obj} {fp : Fp} (h : rOp E O dr o s = some (v, H', fp)) {k : AV → List Obj → Fp → Prop} (hk : k v H' fp) : exOp E dr o s k := by
  unfold rOp at h
  split at h
  · cases h
  · rename_i hok
    rw [okOp_eq] at hok
    refine ⟨hok, ?_⟩
    split at h
    · rename_i f args at_ ho
      split at h
      · rename_i g first caps hf
        have := rCall_sound hO h hk
        simp only [ho, hf]
        cases dr
        · simpa using this.2
        · simpa using this.1
      · cases h
    · rename_i op t x y ty ho
      split at h
      · rename_i hc
        simp only [ho]
        rw [if_neg]
        · exact rDef_sound h hk
        · rintro ⟨h1, h2, h3⟩
          subst h1
          rw [h3] at hc
          rcases h2 with rfl | rfl <;> simp at hc
      · cases h
    · rename_i hn1 hn2
      have := rDef_sound h hk
      split
      · rename_i ho; exact (hn1 _ _ _ ho).elim
      · rename_i ho; exact (hn2 _ _ _ _ _ ho).elim
      · exact this

theorem rOps_sound (hO : OrcOk E O) {dr : Bool} {ops : Array Oper} : ∀ (l : List Oper) (i : Nat) (s : St) (fps fps2 : List (Nat × Fp)) (s' : St) (fps' : List (Nat × Fp)) (k : St → List (Nat × Fp) → Prop), (dr = true → fps2 = fps) →
    rOps E O dr ops l i s fps = some (s', fps') → (∀ f, (dr = true → f = fps') → k s' f) → exOps E dr ops l i s fps2 k := by
  intro l
  induction l with
  | nil =>
    intro i s fps fps2 s' fps' k hd h hk
    simp only [rOps, Option.some.injEq, Prod.mk.injEq] at h
    obtain ⟨rfl, rfl⟩ := h
    exact hk _ hd
  | cons o rest ih =>
    intro i s fps fps2 s' fps' k hd h hk
    simp only [rOps] at h
    simp only [exOps]
    have step : ∀ v H fp, rOps E O dr ops rest (i + 1) ⟨putT s.tmps o.dst v, H⟩ (match dr with | true => fps ++ [(i, fp)] | false => []) = some (s', fps') → exOps E dr ops rest (i + 1) ⟨putT s.tmps o.dst v, H⟩ (fps2 ++ [(i, fp)]) k := by
      intro v H fp e
      refine ih _ _ _ _ _ _ _ (fun e => ?_) e hk
      subst e
      simp [hd rfl]
    split at h
    · rename_i hg
      rw [hg]
      split at h
      · rename_i v H fp e
        exact rOp_sound hO e (step _ _ _ h)
      · cases h
    · rename_i g want hg
      rw [hg]
      simp only
      split at h
      · rename_i b hb
        rw [hb]
        split at h
        · rename_i hbw
          have hbw' : b = want := by simpa using hbw
          split at h
          · rename_i v H fp e
            exact ⟨fun _ => rOp_sound hO e (step _ _ _ h), fun e => by rw [hbw'] at e; cases want <;> cases e⟩
          · cases h
        · rename_i hbw
          refine ⟨fun e => ?_, fun _ => step _ _ _ h⟩
          subst e; simp at hbw
      · rename_i hb
        rw [hb]
        exact step _ _ _ h

theorem rLoop_sound {body : St → Option (Exit × St)} {b' : (St → Prop) → St → Prop} {k : Exit → St → Prop} (hb : ∀ again s e s', body s = some (e, s') → (match e with | .normal => again s' | e => k e s') → b' again s) :
    ∀ n s e s', rLoop body n s = some (e, s') → k e s' → loopN b' n s := by
  intro n
  induction n with
  | zero => intro s e s' h; cases h
  | succ n ih =>
    intro s e s' h hk
    simp only [rLoop] at h
    split at h
    · rename_i s1 h1
      exact hb _ _ _ _ h1 (ih _ _ _ h hk)
    · rename_i hne
      refine hb _ _ _ _ h ?_
      cases e with
      | normal => exact (hne _ h).elim
      | _ => exact hk

theorem ex_of_run (hO : OrcOk E O) {N : Nat} : ∀ (c : Code) (s : St) (e : Exit) (s' : St) (k : Exit → St → Prop), rCode E O N c s = some (e, s') → k e s' → ex E c s k := by
  intro c
  induction c with
  | skip => intro s e s' k h hk; simp only [rCode, Option.some.injEq, Prod.mk.injEq] at h; obtain ⟨rfl, rfl⟩ := h; exact hk
  | label l => intro s e s' k h hk; simp only [rCode, Option.some.injEq, Prod.mk.injEq] at h; obtain ⟨rfl, rfl⟩ := h; exact hk
  | region id ops dr =>
    intro s e s' k h hk
    simp only [rCode] at h
    simp only [ex]
    split at h
    · split at h
      · rename_i hst
        rw [if_pos rfl]
        refine ⟨hst, ?_⟩
        split at h
        · rename_i s1 fps e1
          split at h
          · rename_i hp
            cases h
            exact rOps_sound hO _ _ _ _ _ _ _ _ (fun _ => rfl) e1 fun f hf => by rw [hf rfl]; exact ⟨hp, hk⟩
          · cases h
        · cases h
      · cases h
    · rw [if_neg (by simp)]
      split at h
      · rename_i s1 fps e1
        cases h
        exact rOps_sound hO _ _ _ _ _ _ _ _ (fun _ => rfl) e1 fun f hf => hk
      · cases h
  | seq a b iha ihb =>
    intro s e s' k h hk
    simp only [rCode] at h
    simp only [ex]
    split at h
    · rename_i s1 e1
      exact iha _ _ _ _ e1 (ihb _ _ _ _ h hk)
    · rename_i hne
      refine iha _ _ _ _ h ?_
      cases e with
      | normal => exact (hne _ h).elim
      | _ => exact hk
  | cond c a b iha ihb =>
    intro s e s' k h hk
    simp only [rCode] at h
    simp only [ex]
    split at h
    · rename_i hok
      refine ⟨hok, ?_⟩
      split at h
      · rename_i t ht
        simp only [ht]
        split at h
        · exact ⟨fun _ => iha _ _ _ _ h hk, fun e => (by cases e)⟩
        · exact ⟨fun e => (by cases e), fun _ => ihb _ _ _ _ h hk⟩
      · cases h
    · cases h
  | block id c ih =>
    intro s e s' k h hk
    simp only [rCode] at h
    simp only [ex]
    split at h
    · rename_i id' s1 e1
      refine ih _ _ _ _ e1 ?_
      simp only
      split at h
      · rename_i hid
        cases h
        rw [if_pos (by simpa using hid)]; exact hk
      · rename_i hid
        cases h
        rw [if_neg (by simpa using hid)]; exact hk
    · rename_i hne
      refine ih _ _ _ _ h ?_
      cases e with
      | exit i => exact (hne _ _ h).elim
      | _ => exact hk
  | loop c ih =>
    intro s e s' k h hk
    simp only [rCode] at h
    simp only [ex]
    refine ⟨N, rLoop_sound (b' := fun again s => ex E c s fun e s' => match e with | .normal => again s' | e => k e s') (fun again s e s' h hk => ih _ _ _ _ h ?_) _ _ _ _ h hk⟩
    cases e <;> exact hk
  | exit id => intro s e s' k h hk; simp only [rCode, Option.some.injEq, Prod.mk.injEq] at h; obtain ⟨rfl, rfl⟩ := h; exact hk
  | ret => intro s e s' k h hk; simp only [rCode, Option.some.injEq, Prod.mk.injEq] at h; obtain ⟨rfl, rfl⟩ := h; exact hk
  | rangeFunc f ps x y => intro s e s' k h; cases h
  | scope x ih =>
    intro s e s' k h hk
    simp only [rCode] at h
    simp only [ex]
    split at h
    · cases h
    · rename_i hne
      refine ih _ _ _ _ h ?_
      cases e with
      | goto l => exact (hne _ _ h).elim
      | _ => exact hk
  | goto l => intro s e s' k h; cases h
  | refuse why => intro s e s' k h; cases h

theorem exFn_of_run (hO : OrcOk E O) {N : Nat} {fn : Func} {c : Code} (hb : fn.body = some c) {args : List AV} {H H' : List Obj} {v : AV} (h : rFn E O N fn args H = some (v, H')) {k : AV → List Obj → Prop} (hk : k v H') : exFn E fn c args H k := by
  unfold rFn at h
  rw [hb] at h
  simp only at h
  unfold exFn
  split at h
  · rename_i s e1
    refine ex_of_run hO _ _ _ _ _ e1 ⟨.inl rfl, ?_⟩
    split at h
    · rename_i r hr
      cases h
      rw [hr]; exact hk
    · cases h
  · rename_i s e1
    refine ex_of_run hO _ _ _ _ _ e1 ⟨.inr rfl, ?_⟩
    split at h
    · rename_i r hr
      cases h
      rw [hr]; exact hk
    · cases h
  · cases h

theorem callK_mono {g : FuncId} {args : List AV} {H : List Obj} {k k' : AV → List Obj → Fp → Prop} (hk : ∀ v H fp, k v H fp → k' v H fp) (h : CallK E g args H k) : CallK E g args H k' := by
  rcases h with ⟨ds, ids, r, h1, h2, h3⟩ | h
  · exact .inl ⟨ds, ids, r, h1, h2, hk _ _ _ h3⟩
  · exact .inr (h.mono fun _ _ h => hk _ _ _ h)
theorem callD_mono {g : FuncId} {args : List AV} {H : List Obj} {k k' : AV → List Obj → Fp → Prop} (hk : ∀ v H fp, k v H fp → k' v H fp) (h : CallD E g args H k) : CallD E g args H k' := by
  rcases h with ⟨ds, ids, r, h1, h2, h3⟩ | ⟨r, H', h1, h2⟩
  · exact .inl ⟨ds, ids, r, h1, h2, hk _ _ _ h3⟩
  · exact .inr ⟨r, H', h1, hk _ _ _ h2⟩
theorem exDef_mono {o : Oper} {s : St} {k k' : AV → List Obj → Fp → Prop} (hk : ∀ v H fp, k v H fp → k' v H fp) (h : exDef E o s k) : exDef E o s k' := by
  unfold exDef at *
  split at h
  · exact hk _ _ _ h
  · exact h.elim
theorem exOp_mono {dr : Bool} {o : Oper} {s : St} {k k' : AV → List Obj → Fp → Prop} (hk : ∀ v H fp, k v H fp → k' v H fp) (h : exOp E dr o s k) : exOp E dr o s k' := by
  refine ⟨h.1, ?_⟩
  have h2 := h.2
  obtain ⟨dst, op, ty, pos, after, guard⟩ := o
  have hd : exDef E ⟨dst, op, ty, pos, after, guard⟩ s k → exDef E ⟨dst, op, ty, pos, after, guard⟩ s k' := exDef_mono hk
  cases op with
  | call c =>
    obtain ⟨callee, args, argTypes⟩ := c
    cases callee with
    | value f =>
      simp only at h2 ⊢
      split at h2
      · cases dr
        · simpa using callK_mono hk (by simpa using h2)
        · simpa using callD_mono hk (by simpa using h2)
      · exact h2.elim
    | _ => exact hd h2
  | binOp op t x y ty =>
    simp only at h2 ⊢
    split at h2
    · rename_i hc; rw [if_pos hc]; exact fun b => hk _ _ _ (h2 b)
    · rename_i hc; rw [if_neg hc]; exact hd h2
  | _ => exact hd h2
theorem exOps_mono {dr : Bool} {ops : Array Oper} : ∀ (l : List Oper) (i : Nat) (s : St) (fps : List (Nat × Fp)) (k k' : St → List (Nat × Fp) → Prop), (∀ s f, k s f → k' s f) → exOps E dr ops l i s fps k → exOps E dr ops l i s fps k' := by
  intro l
  induction l with
  | nil => intro i s fps k k' hk h; exact hk _ _ h
  | cons o rest ih =>
    intro i s fps k k' hk h
    simp only [exOps] at h ⊢
    split at h
    · exact exOp_mono (fun v H fp h => ih _ _ _ _ _ hk h) h
    · split at h
      · exact ⟨fun e => exOp_mono (fun v H fp h => ih _ _ _ _ _ hk h) (h.1 e), fun e => ih _ _ _ _ _ hk (h.2 e)⟩
      · exact ih _ _ _ _ _ hk h
theorem loopN_mono {b b' : (St → Prop) → St → Prop} (hb : ∀ p p' s, (∀ s, p s → p' s) → b p s → b' p' s) : ∀ n s, loopN b n s → loopN b' n s := by
  intro n
  induction n with
  | zero => intro s h; exact h
  | succ n ih => intro s h; exact hb _ _ _ ih h
theorem ex_mono : ∀ (c : Code) (s : St) (k k' : Exit → St → Prop), (∀ e s', k e s' → k' e s') → ex E c s k → ex E c s k' := by
  intro c
  induction c with
  | skip => intro s k k' hk h; exact hk _ _ h
  | label l => intro s k k' hk h; exact hk _ _ h
  | region id ops dr =>
    intro s k k' hk h
    simp only [ex] at h ⊢
    split
    · rename_i hd; rw [if_pos hd] at h
      exact ⟨h.1, exOps_mono _ _ _ _ _ _ (fun _ _ h => ⟨h.1, hk _ _ h.2⟩) h.2⟩
    · rename_i hd; rw [if_neg hd] at h
      exact exOps_mono _ _ _ _ _ _ (fun _ _ h => hk _ _ h) h
  | seq a b iha ihb =>
    intro s k k' hk h
    simp only [ex] at h ⊢
    refine iha _ _ _ (fun e s' h => ?_) h
    cases e with
    | normal => exact ihb _ _ _ hk h
    | _ => exact hk _ _ h
  | cond c a b iha ihb =>
    intro s k k' hk h
    simp only [ex] at h ⊢
    refine ⟨h.1, ?_⟩
    have h2 := h.2
    split at h2
    · exact ⟨fun e => iha _ _ _ hk (h2.1 e), fun e => ihb _ _ _ hk (h2.2 e)⟩
    · exact h2.elim
  | block id c ih =>
    intro s k k' hk h
    simp only [ex] at h ⊢
    refine ih _ _ _ (fun e s' h => ?_) h
    cases e with
    | exit i =>
      simp only at h ⊢
      split
      · rename_i e; rw [if_pos e] at h; exact hk _ _ h
      · rename_i e; rw [if_neg e] at h; exact hk _ _ h
    | _ => exact hk _ _ h
  | loop c ih =>
    intro s k k' hk h
    simp only [ex] at h ⊢
    obtain ⟨n, h⟩ := h
    refine ⟨n, loopN_mono (b := fun again s => ex E c s fun e s' => match e with | .normal => again s' | e => k e s') (b' := fun again s => ex E c s fun e s' => match e with | .normal => again s' | e => k' e s') (fun p p' s hp h => ih _ _ _ (fun e s' h => ?_) h) _ _ h⟩
    cases e with
    | normal => exact hp _ h
    | _ => exact hk _ _ h
  | exit id => intro s k k' hk h; exact hk _ _ h
  | ret => intro s k k' hk h; exact hk _ _ h
  | rangeFunc f ps x y => intro s k k' hk h; exact h
  | scope x ih =>
    intro s k k' hk h
    simp only [ex] at h ⊢
    refine ih _ _ _ (fun e s' h => ?_) h
    cases e with
    | goto l => exact h.elim
    | _ => exact hk _ _ h
  | goto l => intro s k k' hk h; exact h
  | refuse why => intro s k k' hk h; exact h

/-- A loop by a condition that each round keeps, and a number that falls. -/
theorem ex_loop (I : St → Prop) (μ : St → Nat) {c : Code} {k : Exit → St → Prop} (hstep : ∀ s, I s → ex E c s fun e s' => match e with | .normal => I s' ∧ μ s' < μ s | e => k e s') {s : St} (hs : I s) : ex E (.loop c) s k := by
  have key : ∀ n s, I s → μ s < n → loopN (fun again s => ex E c s fun e s' => match e with | .normal => again s' | e => k e s') n s := by
    intro n
    induction n with
    | zero => intro s _ h; omega
    | succ n ih =>
      intro s hs hn
      refine ex_mono _ _ _ _ ?_ (hstep s hs)
      intro e s' h
      cases e with
      | normal => exact ih _ h.1 (by have := h.2; omega)
      | _ => exact h
  exact ⟨_, key _ s hs (Nat.lt_succ_self _)⟩
/-- A function, run on data. -/
def rRes (E : Env) (O : Orc) (N : Nat) (fn : Func) (ds : List DV) : Option DV := match rFn E O N fn (ds.map .d) [] with
  | some (v, H) => match res (getH H) 50 v with
    | some (r, _) => some r
    | .none => .none
  | .none => .none

theorem pure_of_run (hm : E.P.follows .mixedOrders = true) (hO : OrcOk E O) {N : Nat} {f : FuncId} {fn : Func} (hf : E.P.funcs[f]? = some fn) (hn : (fn.name == "runtime.NumGoroutine") = false) {ds : List DV} {r : DV} (h : rRes E O N fn ds = some r) : PureC E f ds r := by
  unfold rRes at h
  split at h
  · rename_i v H hr
    split at h
    · rename_i r' ids hres
      cases h
      have hb : ∃ c, fn.body = some c := by
        unfold rFn at hr
        split at hr
        · exact ⟨_, by assumption⟩
        · cases hr
      obtain ⟨c, hb⟩ := hb
      exact pure_of hm hf hb hn (exFn_of_run hO hb hr ⟨ids, hres⟩)
    · cases h
  · cases h

/-- Checks of regions whose order is drawn, for the simplifier's own discharger. -/
theorem drawStatic_ok {ops : Array Oper} (h : drawStatic ops = true) : drawStatic ops = true := h
theorem pairsOk_ok {ops : Array Oper} {fps : List (Nat × Fp)} (h : pairsOk ops fps = true) : pairsOk ops fps = true := h
end
end Go.Sv
