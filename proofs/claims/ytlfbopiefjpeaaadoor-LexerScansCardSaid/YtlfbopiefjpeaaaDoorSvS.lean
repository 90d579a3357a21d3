/- Code and functions: what the abstract values say holds of the run. -/
import Derived.Test.YtlfbopiefjpeaaaDoorSvR
import Derived.Scope
set_option linter.unusedSimpArgs false
set_option linter.unusedVariables false
namespace Go.Sv
open Go

/-- 'n' rounds of a loop at most. -/
def loopN (body : (St → Prop) → St → Prop) : Nat → St → Prop
  | 0, _ => False
  | n + 1, s => body (loopN body n) s

def ex (E : Env) : Code → St → (Exit → St → Prop) → Prop
  | .skip, s, k => k .normal s
  | .label _, s, k => k .normal s
  | .region _ ops dr, s, k => if dr then drawStatic ops = true ∧ exOps E true ops ops.toList 0 s [] (fun s' fps => pairsOk ops fps = true ∧ k .normal s') else exOps E false ops ops.toList 0 s [] (fun s' _ => k .normal s')
  | .seq a b, s, k => ex E a s fun e s' => match e with
    | .normal => ex E b s' k
    | e => k e s'
  | .cond c a b, s, k => okO E c = true ∧ match evalO E s.tmps c with
    | .d (.bool t) => (t = true → ex E a s k) ∧ (t = false → ex E b s k)
    | _ => False
  | .block id c, s, k => ex E c s fun e s' => match e with
    | .exit id' => if id' = id then k .normal s' else k (.exit id') s'
    | e => k e s'
  | .loop c, s, k => ∃ n, loopN (fun again s => ex E c s fun e s' => match e with
    | .normal => again s'
    | e => k e s') n s
  | .exit id, s, k => k (.exit id) s
  | .ret, s, k => k .ret s
  | .scope c, s, k => ex E c s fun e s' => match e with
    | .goto _ => False
    | e => k e s'
  | _, _, _ => False

section
variable {E : Env}

/-- The ends of a piece of code: what is left. -/
def After (E : Env) (w0 : World) (G0 : Ctx) (H0 : List Obj) (k : Exit → St → Prop) : Exit → Act → World → Prop := fun e a w => ∃ s G, k e s ∧ RelS E w G s a ∧ Went w0 G0 (getH H0) w G (getH s.heap)

theorem RelS.drew {w : World} {G : Ctx} {s : St} {a : Act} (h : RelS E w G s a) : RelS E { w with drawn := w.drawn + 1 } G s a := by
  have hm : ∀ b, G.im b → ({ w with drawn := w.drawn + 1 } : World).heap[b]? = w.heap[b]? := fun _ _ => rfl
  refine ⟨h.tmps.mono hm (Ctx.le_refl G), ⟨fun id o ho => ?_, h.heap.apart, h.heap.none, h.heap.old⟩, fun g x e => (h.gl g x e).mono hm fun _ h => h, h.defers⟩
  obtain ⟨hd, ok⟩ := h.heap.ok id o ho
  exact ⟨hd, ok.went (Ctx.le_refl G) hm (fun _ => rfl) ok.own ok.last⟩

theorem went_drew {w w' : World} {G G' : Ctx} {H H' : Hf} (h : Went { w with drawn := w.drawn + 1 } G H w' G' H') : Went w G H w' G' H' :=
  ⟨h.le, h.size, h.keep, h.own, h.im, h.os, h.tape, h.output⟩

theorem loop_wp {c : Code} {k : Exit → St → Prop} {w0 : World} {G0 : Ctx} {H0 : List Obj}
    (ih : ∀ (s : St) (k : Exit → St → Prop) (w : World) (G : Ctx) (a : Act), ex E c s k → RelS E w G s a → Went w0 G0 (getH H0) w G (getH s.heap) → c.wp E.P (After E w0 G0 H0 k) a w) :
    ∀ (n : Nat) (s : St) (w : World) (G : Ctx) (a : Act), loopN (fun again s => ex E c s fun e s' => match e with | .normal => again s' | e => k e s') n s → RelS E w G s a → Went w0 G0 (getH H0) w G (getH s.heap) →
      Code.rounds E.P c (After E w0 G0 H0 k) n a w := by
  intro n
  induction n with
  | zero => intro s w G a h; exact h.elim
  | succ n ihn =>
    intro s w G a h hs hw
    rw [rounds_succ]
    refine wp_mono (ih s _ w G a h hs hw) ?_
    rintro e a' w' ⟨s', G', hk, hs', hw'⟩
    cases e with
    | normal => exact ihn s' w' G' a' hk hs' hw'
    | _ => exact ⟨s', G', hk, hs', hw'⟩

theorem ex_sound (hm : E.P.follows .mixedOrders = true) : ∀ (c : Code) (s : St) (k : Exit → St → Prop) (w : World) (G : Ctx) (a : Act) (w0 : World) (G0 : Ctx) (H0 : List Obj), ex E c s k → RelS E w G s a → Went w0 G0 (getH H0) w G (getH s.heap) → c.wp E.P (After E w0 G0 H0 k) a w := by
  intro c
  induction c with
  | skip => intro s k w G a w0 G0 H0 h hs hw; exact wp_skip ⟨s, G, h, hs, hw⟩
  | label l => intro s k w G a w0 G0 H0 h hs hw; exact wp_label ⟨s, G, h, hs, hw⟩
  | region id ops dr =>
    intro s k w G a w0 G0 H0 h hs hw
    cases dr with
    | false =>
      simp only [ex, Bool.false_eq_true, if_false] at h
      refine wp_region ?_
      have := ops_wp (Q := After E w0 G0 H0 k) ops.toList 0 s a w G [] (fun j => by simp) hs h (fun s' a' w' G' fps' h1 h2 h3 => ⟨s', G', h1, h2, hw.trans h3⟩)
      rw [List.range_eq_range']
      simpa using this
    | true =>
      simp only [ex, if_true] at h
      obtain ⟨hst, h⟩ := h
      obtain ⟨S, V, F, e1, tr, hk⟩ := exOps_tr ops.toList 0 s [] (fun j => by simp) h
      simp only [Nat.zero_add, Array.length_toList, List.nil_append] at tr hk
      refine wp_region_any hm ?_
      have hs1 := hs.drew
      refine draw_any (S := S) (V := V) (F := F) (n := ops.size) (w0 := { w with drawn := w.drawn + 1 }) (G0 := G) rfl hst hk.1 tr ?_ ops.size _ a _ G (by simp) ?_ ?_ ?_
      · intro a' w' G' h1 h2
        rw [e1] at h2
        exact ⟨_, G', hk.2, h1, hw.trans (went_drew h2)⟩
      · intro j o _ hj
        simp [Array.getD_eq_getD_getElem?, Array.getElem?_replicate] at hj
        split at hj <;> simp at hj
      · have hz : (fun j => (Array.replicate ops.size false).getD j false) = fun _ => false := by
          funext j
          simp only [Array.getD_eq_getD_getElem?, Array.getElem?_replicate]
          split <;> rfl
        rw [hz]
        have hh : ∀ m, heapL S F (fun _ => false) m = getH (S 0).heap := by
          intro m
          induction m with
          | zero => rfl
          | succ m ih => funext id; simp [heapL, ih]
        have ht : ∀ m t, tmpL ops S V (fun _ => false) m t = (S 0).tmps.getD t .un := by
          intro m t
          induction m with
          | zero => rfl
          | succ m ih => simp [tmpL, ih]
        refine ⟨by rw [e1]; exact hs1.tmps.1, fun t htl => ?_, by rw [hh, e1]; exact hs1.heap, hs1.gl, hs1.defers, by rw [hh]; exact Went.refl ..⟩
        rw [ht, e1]; exact hs1.tmps.at_ t
      · exact Nat.le_trans (List.length_filter_le _ _) (by simp)
  | seq x y ihx ihy =>
    intro s k w G a w0 G0 H0 h hs hw
    simp only [ex] at h
    refine wp_seq (wp_mono (ihx s _ w G a w0 G0 H0 h hs hw) ?_)
    rintro e a' w' ⟨s', G', hk, hs', hw'⟩
    cases e with
    | normal => exact ihy s' k w' G' a' w0 G0 H0 hk hs' hw'
    | _ => exact ⟨s', G', hk, hs', hw'⟩
  | cond c x y ihx ihy =>
    intro s k w G a w0 G0 H0 h hs hw
    simp only [ex] at h
    obtain ⟨ho, h⟩ := h
    have hc := eval_ra hs.tmps hs.gl ho
    split at h
    · rename_i t ht
      rw [ht] at hc
      refine wp_cond_split hc.bool_inv (fun e => ihx s k w G a w0 G0 H0 (h.1 e) hs hw) (fun e => ihy s k w G a w0 G0 H0 (h.2 e) hs hw)
    · exact h.elim
  | block id x ih =>
    intro s k w G a w0 G0 H0 h hs hw
    simp only [ex] at h
    refine wp_block (wp_mono (ih s _ w G a w0 G0 H0 h hs hw) ?_)
    rintro e a' w' ⟨s', G', hk, hs', hw'⟩
    cases e with
    | exit id' =>
      simp only [Exit.inBlock]
      split
      · rename_i e
        simp only [if_pos e] at hk
        exact ⟨s', G', hk, hs', hw'⟩
      · rename_i e
        simp only [if_neg e] at hk
        exact ⟨s', G', hk, hs', hw'⟩
    | _ => exact ⟨s', G', hk, hs', hw'⟩
  | loop x ih =>
    intro s k w G a w0 G0 H0 h hs hw
    simp only [ex] at h
    obtain ⟨n, h⟩ := h
    exact wp_loop_rounds n (loop_wp (fun s k w G a h hs hw => ih s k w G a w0 G0 H0 h hs hw) n s w G a h hs hw)
  | rangeFunc f ps x y => intro s k w G a w0 G0 H0 h; exact h.elim
  | exit id => intro s k w G a w0 G0 H0 h hs hw; exact wp_exit ⟨s, G, h, hs, hw⟩
  | scope x ih =>
    intro s k w G a w0 G0 H0 h hs hw
    simp only [ex] at h
    refine wp_scope_straight (wp_mono (ih s _ w G a w0 G0 H0 h hs hw) ?_)
    rintro e a' w' ⟨s', G', hk, hs', hw'⟩
    cases e with
    | goto l => exact hk.elim
    | _ => exact ⟨s', G', hk, hs', hw'⟩
  | goto l => intro s k w G a w0 G0 H0 h; exact h.elim
  | ret => intro s k w G a w0 G0 H0 h hs hw; exact wp_ret ⟨s, G, h, hs, hw⟩
  | refuse why => intro s k w G a w0 G0 H0 h; exact h.elim

/-- A function's results out of its slots. -/
def resVar (P : Program) (s : St) : ResultVar → Option AV
  | .tmp t => some (s.tmps.getD t .un)
  | .cell a t => match aLoad P (getH s.heap) t (s.tmps.getD a .un) with
    | some (v, _) => some v
    | none => none
def resVars (P : Program) (s : St) : List ResultVar → Option (List AV)
  | [] => some []
  | r :: rs => match resVar P s r, resVars P s rs with
    | some v, some vs => some (v :: vs)
    | _, _ => none
def resOf (P : Program) (fn : Func) (s : St) : Option AV := match resVars P s fn.results.toList with
  | some [v] => some v
  | some vs => some (mkTup vs)
  | none => none

/-- The run's own way to a result. -/
def resSem (tmps : Array Value) : ResultVar → Sem Value
  | .tmp t => pure (tmps.getD t undef)
  | .cell a t => do loadVar t (← asAddr (tmps.getD a undef))

theorem resVar_run {w : World} {G : Ctx} {s : St} {a : Act} (hs : RelS E w G s a) {r : ResultVar} {v : AV} (h : resVar E.P s r = some v) :
    ∃ u, (resSem a.tmps r).run E.P w = .ok u w ∧ Ra w G v u := by
  cases r with
  | tmp t => simp only [resVar, Option.some.injEq] at h; subst h; exact ⟨_, rfl, hs.tmps.at_ t⟩
  | cell x t =>
    simp only [resVar] at h
    split at h
    · rename_i v' fx hl
      cases h
      have hx := hs.tmps.at_ x
      unfold aLoad at hl
      split at hl
      · rename_i cs rd hp
        split at hl
        · rename_i v2 hld
          simp only [Option.some.injEq, Prod.mk.injEq] at hl
          obtain ⟨rfl, rfl⟩ := hl
          obtain ⟨ad, e, hat⟩ := place_at hs.heap hx hp
          obtain ⟨u, h1, h2⟩ := run_loadVar_at (P := E.P) hat hld
          exact ⟨u, by simp only [resSem, e, asAddr, Sem.run_bind, Sem.run_pure, Result.andThen_ok, h1], h2⟩
        · cases hl
      · cases hl
    · cases h

theorem resVars_run {w : World} {G : Ctx} {s : St} {a : Act} (hs : RelS E w G s a) : ∀ (rs : List ResultVar) (vs : List AV), resVars E.P s rs = some vs → ∃ us, (rs.mapM (resSem a.tmps)).run E.P w = .ok us w ∧ All2 (Ra w G) vs us
  | [], vs, h => by simp only [resVars, Option.some.injEq] at h; subst h; exact ⟨[], by simp, .nil⟩
  | r :: rs, vs, h => by
    simp only [resVars] at h
    split at h
    · rename_i v vs' h1 h2
      cases h
      obtain ⟨u, q1, q2⟩ := resVar_run hs h1
      obtain ⟨us, q3, q4⟩ := resVars_run hs rs vs' h2
      refine ⟨u :: us, ?_, .cons q2 q4⟩
      rw [List.mapM_cons]
      simp only [Sem.run_bind, q1, Result.andThen_ok, q3, Sem.run_pure]
    · cases h

theorem all2_get {α β : Type} {R : α → β → Prop} {xs : List α} {ys : List β} (h : All2 R xs ys) : xs.length = ys.length ∧ ∀ (j : Nat) (x : α), xs[j]? = some x → ∃ y, ys[j]? = some y ∧ R x y := by
  induction h with
  | nil => exact ⟨rfl, fun j x e => by simp at e⟩
  | cons h _ ih =>
    refine ⟨by simp [ih.1], fun j x e => ?_⟩
    cases j with
    | zero => simp only [List.getElem?_cons_zero, Option.some.injEq] at e ⊢; subst e; exact ⟨_, rfl, h⟩
    | succ n => simp only [List.getElem?_cons_succ] at e ⊢; exact ih.2 n x e

theorem resOf_run {w : World} {G : Ctx} {s : St} {a : Act} (hs : RelS E w G s a) {fn : Func} {v : AV} (h : resOf E.P fn s = some v) : ∃ u, (results fn a.tmps).run E.P w = .ok u w ∧ Ra w G v u := by
  unfold resOf at h
  have key : ∀ vs, resVars E.P s fn.results.toList = some vs → ∃ us : Array Value, (results fn a.tmps).run E.P w = .ok (if h : us.size = 1 then us[0] else .tuple us) w ∧ All2 (Ra w G) vs us.toList := by
    intro vs hv
    obtain ⟨us, q1, q2⟩ := resVars_run hs fn.results.toList vs hv
    refine ⟨us.toArray, ?_, by simpa using q2⟩
    have he : results fn a.tmps = (do let vs ← fn.results.mapM (resSem a.tmps); pure (if h : vs.size = 1 then vs[0] else .tuple vs)) := by
      unfold results
      congr 1
    rw [he, Array.mapM_eq_mapM_toList]
    simp only [Sem.run_bind, Sem.run_map, q1]
    rfl
  split at h
  · rename_i v' hv
    cases h
    obtain ⟨us, q1, q2⟩ := key _ hv
    obtain ⟨l1, l2⟩ := all2_get q2
    have hsz : us.size = 1 := by simpa using l1.symm
    rw [dif_pos hsz] at q1
    obtain ⟨y, hy, hr⟩ := l2 0 v rfl
    have : us[0] = y := by
      rw [Array.getElem?_toList, Array.getElem?_eq_getElem (by omega)] at hy
      exact Option.some.inj hy
    exact ⟨us[0], q1, by rw [this]; exact hr⟩
  · rename_i vs hne hv
    cases h
    obtain ⟨us, q1, q2⟩ := key _ hv
    obtain ⟨l1, l2⟩ := all2_get q2
    have hsz : ¬ us.size = 1 := by
      intro e
      have : vs.length = 1 := by rw [l1]; simpa using e
      match vs, this with
      | [x], _ => exact hne x rfl
    rw [dif_neg hsz] at q1
    refine ⟨_, q1, Ra.mkTup (by simpa using l1.symm) fun j c e => ?_⟩
    obtain ⟨y, hy, hr⟩ := l2 j c e
    have : us.getD j undef = y := by
      rw [Array.getElem?_toList] at hy
      simp [Array.getD_eq_getD_getElem?, hy]
    rw [this]; exact hr
  · cases h

/-- A function's body, from its arguments. -/
def exFn (E : Env) (fn : Func) (c : Code) (args : List AV) (H : List Obj) (k : AV → List Obj → Prop) : Prop :=
  ex E c ⟨args ++ List.replicate (fn.ntmps - args.length) .un, H⟩ fun e s => (e = .normal ∨ e = .ret) ∧ match resOf E.P fn s with
    | some v => k v s.heap
    | none => False

theorem exFn_calls (hm : E.P.follows .mixedOrders = true) {f : FuncId} {fn : Func} {c : Code} (hf : E.P.funcs[f]? = some fn) (hb : fn.body = some c) {args : List AV} {H : List Obj} {k : AV → List Obj → Prop} (h : exFn E fn c args H k)
    {w : World} {G : Ctx} {vs : Array Value} (hr : RelH w G (getH H)) (hgl : GlOk E w G.im) (hv : vs.size = args.length) (ha : ∀ (j : Nat) (x : AV), args[j]? = some x → Ra w G x (vs.getD j undef)) :
    Calls E.P f vs w fun e w' => ∃ v r H' G', e = .returned v ∧ k r H' ∧ Ra w' G' r v ∧ RelH w' G' (getH H') ∧ Went w G (getH H) w' G' (getH H') := by
  have hs : RelS E w G ⟨args ++ List.replicate (fn.ntmps - args.length) .un, H⟩ { tmps := vs ++ Array.replicate (fn.ntmps - vs.size) undef, defers := [] } := by
    refine ⟨⟨by simp [hv], fun t ht => ?_⟩, hr, hgl, rfl⟩
    by_cases hlt : t < args.length
    · have h1 : (args ++ List.replicate (fn.ntmps - args.length) AV.un).getD t .un = args[t] := by
        rw [List.getD_eq_getElem?_getD, List.getElem?_append_left hlt, List.getElem?_eq_getElem hlt]; rfl
      have h2 : (vs ++ Array.replicate (fn.ntmps - vs.size) undef).getD t undef = vs.getD t undef := by
        simp only [Array.getD_eq_getD_getElem?]
        rw [Array.getElem?_append_left (by omega)]
      rw [h1, h2]
      exact ha t _ (List.getElem?_eq_getElem hlt)
    · have h1 : (args ++ List.replicate (fn.ntmps - args.length) AV.un).getD t .un = .un := by
        rw [List.getD_eq_getElem?_getD, List.getElem?_append_right (by omega), List.getElem?_replicate]
        split <;> rfl
      have h2 : (vs ++ Array.replicate (fn.ntmps - vs.size) undef).getD t undef = undef := by
        simp only [Array.getD_eq_getD_getElem?]
        rw [Array.getElem?_append_right (by omega), Array.getElem?_replicate]
        split <;> rfl
      rw [h1, h2]; exact .un
  refine calls_of_wp hf hb (wp_mono (ex_sound hm c _ _ w G _ w G H h hs (Went.refl ..)) ?_)
  rintro e a' w' ⟨s', G', ⟨he, hk⟩, hs', hw'⟩
  split at hk
  · rename_i v hv'
    obtain ⟨u, q1, q2⟩ := resOf_run hs' hv'
    have : a'.defers = [] ∧ ∃ v, (results fn a'.tmps).run E.P w' = .ok v w' ∧ ∃ v1 r H' G', (Ending.returned v : Ending) = .returned v1 ∧ k r H' ∧ Ra w' G' r v1 ∧ RelH w' G' (getH H') ∧ Went w G (getH H) w' G' (getH H') :=
      ⟨hs'.defers, u, q1, u, v, s'.heap, G', rfl, hk, q2, hs'.heap, hw'⟩
    rcases he with rfl | rfl
    · exact this
    · exact this
  · exact hk.elim

theorem hc_of (hm : E.P.follows .mixedOrders = true) {f : FuncId} {fn : Func} {c : Code} (hf : E.P.funcs[f]? = some fn) (hb : fn.body = some c) (hn : (fn.name == "runtime.NumGoroutine") = false) {args : List AV} {H : List Obj} {k : AV → List Obj → Prop} (h : exFn E fn c args H k) : HC E f args H k :=
  ⟨⟨fn, hf, by rw [hb]; rfl, hn⟩, fun _ _ _ h1 h2 h3 h4 => exFn_calls hm hf hb h h1 h2 h3 h4⟩

theorem relH_nil (w : World) (im : Nat → Prop) (h : ∀ b, im b → b < w.heap.size) : RelH w ⟨im, fun _ _ => none⟩ (getH []) :=
  ⟨fun id o e => by simp [getH] at e, fun i j oi oj hi hj e => by simp [getH] at e, fun _ _ _ => rfl, h⟩

theorem pure_of (hm : E.P.follows .mixedOrders = true) {f : FuncId} {fn : Func} {c : Code} (hf : E.P.funcs[f]? = some fn) (hb : fn.body = some c) (hn : (fn.name == "runtime.NumGoroutine") = false) {ds : List DV} {r : DV}
    (h : exFn E fn c (ds.map .d) [] fun v H => ∃ ids, res (getH H) 50 v = some (r, ids)) : PureC E f ds r := by
  refine ⟨⟨fn, hf, by rw [hb]; rfl, hn⟩, fun w im vs h1 h2 h3 h4 => ?_⟩
  refine (exFn_calls hm hf hb h (G := ⟨im, fun _ _ => none⟩) (relH_nil w im h1) h2 (by simpa using h3) (fun j x e => ?_)).mono ?_
  · simp only [List.getElem?_map, Option.map_eq_some_iff] at e
    obtain ⟨d, hd, rfl⟩ := e
    exact .d d _ (h4 j d hd)
  · rintro e w' ⟨v, r', H', G', rfl, ⟨ids, hres⟩, q1, q2, q3⟩
    have hno : ∀ b, ¬ Own (⟨im, fun _ _ => none⟩ : Ctx) (getH []) b := by
      rintro b ⟨id, o, hd, e, _⟩
      simp [getH] at e
    refine ⟨v, imOf G' (getH H') ids, rfl, res_sound q2 50 r' v r ids hres q1, fun b hb => .inl (q3.le.1 b hb), imOf_lt q2, fun b hb => ⟨q3.keep b hb (hno b), fun hi => ?_⟩, q3.size, q3.os, q3.tape, q3.output⟩
    rcases hi with hi | ⟨id, _, o, hd, e1, e2, e3, rfl⟩
    · exact (q3.im b hb hi).resolve_right (hno b)
    · by_cases hfz : o.frozen = false
      · rcases q3.own hd.blk ⟨id, o, hd, e1, hfz, e2, e3, rfl⟩ with h5 | h5
        · omega
        · exact absurd h5 (hno _)
      · have hi := (q2.at_ e1 e2).frz e3 (by simpa using hfz)
        exact (q3.im hd.blk hb hi).resolve_right (hno _)
end
end Go.Sv
