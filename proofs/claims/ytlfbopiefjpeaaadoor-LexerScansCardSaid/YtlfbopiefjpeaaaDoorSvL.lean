/- What a call is known to do: contracts; data out of rows of one's own. -/
import Derived.Test.YtlfbopiefjpeaaaDoorSvK
set_option linter.unusedSimpArgs false
set_option linter.unusedVariables false
namespace Go.Sv
open Go

/-- A call of this function is entered. -/
def Enters (P : Program) (f : FuncId) : Prop := ∃ fn, P.funcs[f]? = some fn ∧ fn.body.isSome = true ∧ (fn.name == "runtime.NumGoroutine") = false

/-- The function's results hang on the values of its arguments alone; it leaves everything as it was. -/
def PureC (E : Env) (f : FuncId) (ds : List DV) (r : DV) : Prop := Enters E.P f ∧ ∀ (w : World) (im : Nat → Prop) (vs : Array Value), (∀ b, im b → b < w.heap.size) → GlOk E w im → vs.size = ds.length →
  (∀ (j : Nat) (d : DV), ds[j]? = some d → Rd w im d (vs.getD j undef)) → Calls E.P f vs w fun e w' => ∃ v im', e = .returned v ∧ Rd w' im' r v ∧ (∀ b, im b → im' b) ∧ (∀ b, im' b → b < w'.heap.size) ∧
    (∀ b, b < w.heap.size → w'.heap[b]? = w.heap[b]? ∧ (im' b → im b)) ∧ w.heap.size ≤ w'.heap.size ∧ w'.os = w.os ∧ w'.tape = w.tape ∧ w'.output = w.output

/-- A call that may look at the caller's objects, and change them. -/
def HC (E : Env) (f : FuncId) (args : List AV) (H : List Obj) (Q : AV → List Obj → Prop) : Prop := Enters E.P f ∧ ∀ (w : World) (G : Ctx) (vs : Array Value), RelH w G (getH H) → GlOk E w G.im → vs.size = args.length →
  (∀ (j : Nat) (x : AV), args[j]? = some x → Ra w G x (vs.getD j undef)) → Calls E.P f vs w fun e w' => ∃ v r H' G', e = .returned v ∧ Q r H' ∧ Ra w' G' r v ∧ RelH w' G' (getH H') ∧ Went w G (getH H) w' G' (getH H')

theorem HC.mono {E : Env} {f : FuncId} {args : List AV} {H : List Obj} {Q Q' : AV → List Obj → Prop} (h : HC E f args H Q) (hq : ∀ r H', Q r H' → Q' r H') : HC E f args H Q' :=
  ⟨h.1, fun w G vs h1 h2 h3 h4 => (h.2 w G vs h1 h2 h3 h4).mono fun _ _ ⟨v, r, H', G', a, b, c⟩ => ⟨v, r, H', G', a, hq _ _ b, c⟩⟩

def mapRes (f : AV → Option (DV × List Nat)) : List AV → Option (List DV × List Nat)
  | [] => some ([], [])
  | x :: xs => match f x, mapRes f xs with
    | some (d, i), some (ds, j) => some (d :: ds, i ++ j)
    | _, _ => none

/-- The data that a value comes to, its own rows read; and the rows that were read. -/
def res (H : Hf) : Nat → AV → Option (DV × List Nat)
  | _, .d v => some (v, [])
  | n + 1, .row id ver => match H id with
    | some o => if o.ver = ver then match mapRes (res H n) o.elems with
      | some (ds, ids) => some (.sl o.esz ds, id :: ids)
      | none => none
      else none
    | none => none
  | n + 1, .fn f a b => match mapRes (res H n) a, mapRes (res H n) b with
    | some (x, i), some (y, j) => some (.fn f x y, i ++ j)
    | _, _ => none
  | n + 1, .agg cs => match mapRes (res H n) cs with
    | some (x, i) => some (.agg x, i)
    | none => none
  | n + 1, .tup cs => match mapRes (res H n) cs with
    | some (x, i) => some (.tup x, i)
    | none => none
  | _, _ => none
@[simp] theorem res_d (H : Hf) (n : Nat) (v : DV) : res H n (.d v) = some (v, []) := by cases n <;> rfl
@[simp] theorem mapRes_d (H : Hf) (n : Nat) (vs : List DV) : mapRes (res H n) (vs.map .d) = some (vs, []) := by
  induction vs with
  | nil => rfl
  | cons v vs ih => simp [mapRes, ih]

theorem mapRes_get {f : AV → Option (DV × List Nat)} {xs : List AV} {ds : List DV} {ids : List Nat} (h : mapRes f xs = some (ds, ids)) : xs.length = ds.length ∧ ∀ (j : Nat) (d : DV), ds[j]? = some d → ∃ x i, xs[j]? = some x ∧ f x = some (d, i) ∧ ∀ k ∈ i, k ∈ ids := by
  induction xs generalizing ds ids with
  | nil => simp only [mapRes, Option.some.injEq, Prod.mk.injEq] at h; obtain ⟨rfl, rfl⟩ := h; exact ⟨rfl, fun j d e => by simp at e⟩
  | cons x xs ih =>
    simp only [mapRes] at h
    split at h
    · rename_i d i ds' j h1 h2
      simp only [Option.some.injEq, Prod.mk.injEq] at h
      obtain ⟨rfl, rfl⟩ := h
      obtain ⟨g1, g2⟩ := ih h2
      refine ⟨by simp [g1], fun j' d' e => ?_⟩
      cases j' with
      | zero => simp only [List.getElem?_cons_zero, Option.some.injEq] at e; subst e; exact ⟨x, i, rfl, h1, fun k hk => List.mem_append_left _ hk⟩
      | succ m =>
        simp only [List.getElem?_cons_succ] at e ⊢
        obtain ⟨x', i', a, b, c⟩ := g2 m d' e
        exact ⟨x', i', a, b, fun k hk => List.mem_append_right _ (c k hk)⟩
    · cases h

/-- The blocks of some rows. -/
def imOf (G : Ctx) (H : Hf) (ids : List Nat) (b : Nat) : Prop := G.im b ∨ ∃ id ∈ ids, ∃ o h, H id = some o ∧ G.hd id o.ver = some h ∧ h.isNil = false ∧ b = h.blk

section
variable {E : Env} {w : World} {G : Ctx} {H : Hf}

theorem res_leaf {n : Nat} {x : AV} {d : DV} {ids : List Nat} (h : res H n x = some (d, ids)) (hl : x.leaf = true) : d.leaf = true ∧ x.lies = true := by
  cases x with
  | d v => simp only [res_d, Option.some.injEq, Prod.mk.injEq] at h; obtain ⟨rfl, rfl⟩ := h; refine ⟨hl, ?_⟩; simp only [AV.leaf] at hl; simp only [AV.lies]; cases v <;> simp_all [DV.leaf, DV.lies]
  | ptr => cases n <;> simp [res] at h
  | row id ver =>
    cases n with
    | zero => simp [res] at h
    | succ n =>
      simp only [res] at h
      repeat' split at h
      all_goals first
        | (simp only [Option.some.injEq, Prod.mk.injEq] at h; obtain ⟨rfl, rfl⟩ := h; exact ⟨rfl, rfl⟩)
        | cases h
  | fn f a b =>
    cases n with
    | zero => simp [res] at h
    | succ n =>
      simp only [res] at h
      split at h
      · simp only [Option.some.injEq, Prod.mk.injEq] at h; obtain ⟨rfl, rfl⟩ := h; exact ⟨rfl, rfl⟩
      · cases h
  | agg cs => simp [AV.leaf] at hl
  | tup cs => simp [AV.leaf] at hl

/-- The cells of what a value comes to. -/
theorem res_cells {n : Nat} {x : AV} {d : DV} {ids : List Nat} (h : res H n x = some (d, ids)) (hl : x.lies = true) : d.lies = true ∧ d.cells.length = x.cells.length ∧
    ∀ (j : Nat) (c : DV), d.cells[j]? = some c → ∃ y m i, x.cells[j]? = some y ∧ m ≤ n ∧ res H m y = some (c, i) ∧ ∀ k ∈ i, k ∈ ids := by
  cases x with
  | d v =>
    simp only [res_d, Option.some.injEq, Prod.mk.injEq] at h; obtain ⟨rfl, rfl⟩ := h
    exact ⟨hl, by simp [AV.cells], fun j c e => ⟨.d c, 0, [], by simp [AV.cells, e], Nat.zero_le _, by simp, by simp⟩⟩
  | agg cs =>
    cases n with
    | zero => simp [res] at h
    | succ n =>
      simp only [res] at h
      split at h
      · rename_i ds i hm
        simp only [Option.some.injEq, Prod.mk.injEq] at h; obtain ⟨rfl, rfl⟩ := h
        obtain ⟨g1, g2⟩ := mapRes_get hm
        refine ⟨List.all_eq_true.2 fun c hc => ?_, by simp [AV.cells, DV.cells, g1], fun j c e => ?_⟩
        · obtain ⟨j, hj⟩ := List.getElem?_of_mem hc
          obtain ⟨y, i', a, b, _⟩ := g2 j c hj
          exact (res_leaf b (List.all_eq_true.1 hl y (List.mem_of_getElem? a))).1
        · obtain ⟨y, i', a, b, c'⟩ := g2 j c e
          exact ⟨y, n, i', a, by omega, b, c'⟩
      · cases h
  | tup cs => simp [AV.lies] at hl
  | ptr => cases n <;> simp [res] at h
  | row id ver =>
    obtain ⟨h1, _⟩ := res_leaf h rfl
    rw [leaf_cells h1]
    refine ⟨by cases d <;> simp_all [DV.leaf, DV.lies], rfl, fun j c e => ?_⟩
    cases j with
    | zero => simp only [List.getElem?_cons_zero, Option.some.injEq] at e; subst e; exact ⟨_, n, ids, rfl, Nat.le_refl _, h, fun k hk => hk⟩
    | succ m => simp at e
  | fn f a b =>
    obtain ⟨h1, _⟩ := res_leaf h rfl
    rw [leaf_cells h1]
    refine ⟨by cases d <;> simp_all [DV.leaf, DV.lies], rfl, fun j c e => ?_⟩
    cases j with
    | zero => simp only [List.getElem?_cons_zero, Option.some.injEq] at e; subst e; exact ⟨_, n, ids, rfl, Nat.le_refl _, h, fun k hk => hk⟩
    | succ m => simp at e

theorem imOf_mono {ids ids' : List Nat} (h : ∀ k ∈ ids, k ∈ ids') (b : Nat) (hb : imOf G H ids b) : imOf G H ids' b := by
  rcases hb with hb | ⟨id, h1, h2⟩
  · exact .inl hb
  · exact .inr ⟨id, h _ h1, h2⟩

theorem res_sound (hr : RelH w G H) : ∀ (n : Nat) (x : AV) (u : Value) (d : DV) (ids : List Nat), res H n x = some (d, ids) → Ra w G x u → Rd w (imOf G H ids) d u := by
  intro n
  induction n using Nat.strongRecOn with
  | _ n ih =>
    have ihL : ∀ (m : Nat), m < n → ∀ (xs : List AV) (ds : List DV) (ids : List Nat), mapRes (res H m) xs = some (ds, ids) → ∀ (vs : Nat → Value), (∀ (j : Nat) (c : AV), xs[j]? = some c → Ra w G c (vs j)) → ∀ (j : Nat) (c : DV), ds[j]? = some c → Rd w (imOf G H ids) c (vs j) := by
      intro m hm xs ds ids h vs hv j c e
      obtain ⟨_, g2⟩ := mapRes_get h
      obtain ⟨x, i, a, b, hk⟩ := g2 j c e
      exact (ih m hm x (vs j) c i b (hv j x a)).mono (fun _ _ => rfl) (imOf_mono hk)
    intro x u d ids h hx
    cases x with
    | d v =>
      simp only [res_d, Option.some.injEq, Prod.mk.injEq] at h; obtain ⟨rfl, rfl⟩ := h
      exact hx.of_d.mono (fun _ _ => rfl) (fun b hb => .inl hb)
    | ptr => cases n <;> simp [res] at h
    | row id ver =>
      cases n with
      | zero => simp [res] at h
      | succ n =>
        simp only [res] at h
        split at h
        · rename_i o ho
          split at h
          · rename_i hv
            split at h
            · rename_i ds ids' hm
              simp only [Option.some.injEq, Prod.mk.injEq] at h; obtain ⟨rfl, rfl⟩ := h
              subst hv
              obtain ⟨g1, g2⟩ := mapRes_get hm
              cases hx with
              | row _ _ hd hh =>
                have ok := hr.at_ ho hh
                unfold Hdr.val
                split
                · rename_i hn
                  have he : ds = [] := List.eq_nil_of_length_eq_zero (by rw [← g1, ok.nil hn]; rfl)
                  subst he
                  exact .slNil _ _
                · rename_i hn
                  have hn' : hd.isNil = false := by simpa using hn
                  obtain ⟨vs, t, hb, hsz, hc⟩ := ok.cells hn'
                  rw [ok.len, g1]
                  have hcl : ∀ (i j : Nat) (x c : DV), ds[i]? = some x → x.cells[j]? = some c → w.cell? ⟨hd.blk, 0 + i * o.esz + j, none⟩ = some (vs.getD (i * o.esz + j) undef) ∧ Rd w (imOf G H (id :: ids')) c (vs.getD (i * o.esz + j) undef) := by
                    intro i j x c e1 e2
                    obtain ⟨y, i', a, b, hk⟩ := g2 i x e1
                    have hyl := ok.lies y (List.mem_of_getElem? a)
                    obtain ⟨_, q2, q3⟩ := res_cells b hyl
                    obtain ⟨z, m, i'', z1, z2, z3, z4⟩ := q3 j c e2
                    have hcz := hc i j y z a z1
                    rw [ok.esz] at hcz
                    refine ⟨?_, (ih m (by omega) z _ c i'' z3 hcz).mono (fun _ _ => rfl) (imOf_mono fun k hk' => List.mem_cons_of_mem _ (hk k (z4 k hk')))⟩
                    have hcell := (obj_at hr ho hh hn' a).2.2 j z z1
                    obtain ⟨u', hu', _⟩ := hcell
                    rw [ok.esz] at hu'
                    have : vs.getD (i * o.esz + j) undef = u' := by
                      simp only [World.cell?, hb] at hu'
                      simp only [Option.isSome_none, Bool.false_eq_true, if_false] at hu'
                      simp [Array.getD_eq_getD_getElem?, hu']
                    rw [this, Nat.zero_add]; exact hu'
                  refine .sl o.esz ds hd.blk 0 hd.cap (fun k => vs.getD k undef) ok.pos (fun _ => .inr ⟨id, List.mem_cons_self .., o, hd, ho, hh, hn', rfl⟩) (by rw [← g1, ← ok.len]; exact ok.cap) (by rw [← g1, ← ok.len]; exact ok.big)
                    (fun x hx => ?_) (fun x hx => ?_) (fun i j x c e1 e2 => (hcl i j x c e1 e2).1) (fun i j x c e1 e2 => (hcl i j x c e1 e2).2)
                  · obtain ⟨j, hj⟩ := List.getElem?_of_mem hx
                    obtain ⟨y, i', a, b, _⟩ := g2 j x hj
                    rw [(res_cells b (ok.lies y (List.mem_of_getElem? a))).2.1]
                    exact ok.size y (List.mem_of_getElem? a)
                  · obtain ⟨j, hj⟩ := List.getElem?_of_mem hx
                    obtain ⟨y, i', a, b, _⟩ := g2 j x hj
                    exact (res_cells b (ok.lies y (List.mem_of_getElem? a))).1
            · cases h
          · cases h
        · cases h
    | fn f a b =>
      cases n with
      | zero => simp [res] at h
      | succ n =>
        simp only [res] at h
        split at h
        · rename_i x i y j h1 h2
          simp only [Option.some.injEq, Prod.mk.injEq] at h; obtain ⟨rfl, rfl⟩ := h
          cases hx with
          | fn _ _ _ us vs s1 s2 r1 r2 =>
            refine .fn f x y us vs (by rw [s1, (mapRes_get h1).1]) (by rw [s2, (mapRes_get h2).1]) (fun k c e => ?_) fun k c e => ?_
            · exact (ihL n (by omega) a x i h1 (fun j => us.getD j undef) r1 k c e).mono (fun _ _ => rfl) (imOf_mono fun k hk => List.mem_append_left _ hk)
            · exact (ihL n (by omega) b y j h2 (fun j => vs.getD j undef) r2 k c e).mono (fun _ _ => rfl) (imOf_mono fun k hk => List.mem_append_right _ hk)
        · cases h
    | agg cs =>
      cases n with
      | zero => simp [res] at h
      | succ n =>
        simp only [res] at h
        split at h
        · rename_i ds i hm
          simp only [Option.some.injEq, Prod.mk.injEq] at h; obtain ⟨rfl, rfl⟩ := h
          cases hx with
          | agg _ vs hs hl hrr =>
            obtain ⟨g1, g2⟩ := mapRes_get hm
            refine .agg ds vs (by rw [hs, g1]) (fun c hc => ?_) fun j c e => ihL n (by omega) cs ds i hm (fun j => vs.getD j undef) hrr j c e
            obtain ⟨j, hj⟩ := List.getElem?_of_mem hc
            obtain ⟨y, i', a, b, _⟩ := g2 j c hj
            exact (res_leaf b (hl y (List.mem_of_getElem? a))).1
        · cases h
    | tup cs =>
      cases n with
      | zero => simp [res] at h
      | succ n =>
        simp only [res] at h
        split at h
        · rename_i ds i hm
          simp only [Option.some.injEq, Prod.mk.injEq] at h; obtain ⟨rfl, rfl⟩ := h
          cases hx with
          | tup _ vs hs hrr =>
            obtain ⟨g1, g2⟩ := mapRes_get hm
            exact .tup ds vs (by rw [hs, g1]) fun j c e => ihL n (by omega) cs ds i hm (fun j => vs.getD j undef) hrr j c e
        · cases h
end
end Go.Sv
