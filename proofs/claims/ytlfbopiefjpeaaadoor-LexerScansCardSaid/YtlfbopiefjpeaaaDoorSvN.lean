/- Calls and lists of operations: what the abstract values say holds of the run. -/
import Derived.Test.YtlfbopiefjpeaaaDoorSvM
set_option linter.unusedSimpArgs false
set_option linter.unusedVariables false
namespace Go.Sv
open Go

mutual
theorem flat_rd {w w' : World} {im im' : Nat → Prop} : ∀ (x : DV) (v : Value), Rd w im x v → x.flat = true → Rd w' im' x v
  | .bool b, _, h, _ => by cases h; exact .bool b
  | .int k n, _, h, _ => by cases h; exact .int k n
  | .str s, _, h, _ => by cases h; exact .str s ‹_›
  | .nilFace, _, h, _ => by cases h; exact .nilFace
  | .face t x, _, h, hf => by cases h with | face _ _ u h => exact .face t x u (flat_rd x u h (by simpa [DV.flat] using hf))
  | .nilPtr, _, h, _ => by cases h; exact .nilPtr
  | .ref _, _, _, hf => by simp [DV.flat] at hf
  | .nilSl, _, h, _ => by cases h; exact .nilSl
  | .nul, _, _, hf => by simp [DV.flat] at hf
  | .sl _ _, _, _, hf => by simp [DV.flat] at hf
  | .nilFn, _, h, _ => by cases h; exact .nilFn
  | .fn _ _ _, _, _, hf => by simp [DV.flat] at hf
  | .agg cs, _, h, hf => by
    cases h with
    | agg _ vs hs hl hr => exact .agg cs vs hs hl (flatL_rd cs (fun j => vs.getD j undef) hr (by simpa [DV.flat] using hf))
  | .tup cs, _, h, hf => by
    cases h with
    | tup _ vs hs hr => exact .tup cs vs hs (flatL_rd cs (fun j => vs.getD j undef) hr (by simpa [DV.flat] using hf))
theorem flatL_rd {w w' : World} {im im' : Nat → Prop} : ∀ (cs : List DV) (vs : Nat → Value), (∀ (j : Nat) (c : DV), cs[j]? = some c → Rd w im c (vs j)) → DV.flat.flatL cs = true → ∀ (j : Nat) (c : DV), cs[j]? = some c → Rd w' im' c (vs j)
  | [], _, _, _ => fun j c e => by simp at e
  | x :: xs, vs, h, hf => by
    simp only [DV.flat.flatL, Bool.and_eq_true] at hf
    intro j c e
    cases j with
    | zero => simp only [List.getElem?_cons_zero, Option.some.injEq] at e; subst e; exact flat_rd x _ (h 0 x rfl) hf.1
    | succ n => simp only [List.getElem?_cons_succ] at e; exact flatL_rd xs (fun j => vs (j + 1)) (fun j c e => h (j + 1) c (by simpa using e)) hf.2 n c e
end

section
variable {w w' : World} {G : Ctx} {H : Hf}

theorem relH_grow {im' : Nat → Prop} (hr : RelH w G H) (hs : ∀ b, b < w.heap.size → w'.heap[b]? = w.heap[b]?) (hsz : w.heap.size ≤ w'.heap.size) (h1 : ∀ b, G.im b → im' b) (h2 : ∀ b, b < w.heap.size → im' b → G.im b) (h3 : ∀ b, im' b → b < w'.heap.size)
    (hos : w'.os = w.os) (htape : w'.tape = w.tape) (hout : w'.output = w.output) : RelH w' ⟨im', G.hd⟩ H ∧ Went w G H w' ⟨im', G.hd⟩ H := by
  have hle : G.le ⟨im', G.hd⟩ := ⟨h1, fun _ _ _ h => h⟩
  have hlt : ∀ (o : Obj) id hd, H id = some o → ObjOk w G id o hd → hd.isNil = false → hd.blk < w.heap.size := by
    intro o id hd _ ok hn
    obtain ⟨vs, t, hc, _⟩ := ok.cells hn
    exact (Array.getElem?_eq_some_iff.1 hc).1
  refine ⟨⟨fun id o ho => ?_, hr.apart, hr.none, h3⟩, ⟨hle, hsz, fun b hb _ => hs b hb, fun b hb => .inr hb, fun b hb hi => .inl (h2 b hb hi), hos, htape, hout⟩⟩
  obtain ⟨hd, ok⟩ := hr.ok id o ho
  exact ⟨hd, ok.went hle (fun b hb => hs b (hr.old b hb)) (fun hn => hs _ (hlt o id hd ho ok hn)) (fun hn hf hi => ok.own hn hf (h2 _ (hlt o id hd ho ok hn) hi)) ok.last⟩

theorem Ctx.ext_hd {G1 G2 : Ctx} (h1 : ∀ b, G1.im b ↔ G2.im b) (h2 : G1.hd = G2.hd) : G1 = G2 := by
  obtain ⟨a, b⟩ := G1
  obtain ⟨c, d⟩ := G2
  simp only at h1 h2
  subst h2
  have : a = c := funext fun x => propext (h1 x)
  subst this
  rfl

/-- Objects given up for writing. -/
def freezeF (H : Hf) (ids : List Nat) : Hf := fun id => if id ∈ ids then (H id).map fun o => { o with frozen := true } else H id
theorem freezeF_some {ids : List Nat} {k : Nat} {o2 : Obj} (h : freezeF H ids k = some o2) : ∃ o, H k = some o ∧ o2.ver = o.ver ∧ (k ∈ ids → o2.frozen = true) ∧ (k ∉ ids → o2 = o) := by
  unfold freezeF at h
  split at h
  · rename_i hk
    obtain ⟨o, ho, rfl⟩ := Option.map_eq_some_iff.1 h
    exact ⟨o, ho, rfl, fun _ => rfl, fun hn => absurd hk hn⟩
  · rename_i hk
    exact ⟨o2, h, rfl, fun hk' => absurd hk' hk, fun _ => rfl⟩
theorem freezeF_nil : freezeF H [] = H := by funext id; simp [freezeF]
theorem freezeF_cons (id : Nat) (ids : List Nat) : freezeF H (id :: ids) = freezeF (fun j => if j = id then (H id).map fun o => { o with frozen := true } else H j) ids := by
  funext k
  simp only [freezeF, List.mem_cons]
  by_cases h1 : k = id
  · subst h1
    simp only [true_or, if_true]
    split
    · cases H k <;> rfl
    · rfl
  · simp only [h1, false_or, if_false]
theorem getH_freeze : ∀ (ids : List Nat) (H : List Obj), getH (freezeL H ids) = freezeF (getH H) ids
  | [], H => by rw [freezeF_nil]; rfl
  | id :: ids, H => by
    rw [freezeF_cons]
    simp only [freezeL]
    rw [getH_freeze ids]
    congr 1
    cases ho : H[id]? with
    | none => funext j; by_cases e : j = id <;> simp [e, getH, ho]
    | some o =>
      have h1 : getH H id = some o := ho
      simp only
      rw [getH_set h1, h1]
      rfl

theorem freeze_all : ∀ (ids : List Nat) (H : Hf) (G : Ctx), RelH w G H → (∀ id ∈ ids, ∃ o, H id = some o) →
    RelH w ⟨imOf G H ids, G.hd⟩ (freezeF H ids) ∧ Went w G H w ⟨imOf G H ids, G.hd⟩ (freezeF H ids)
  | [], H, G, hr, _ => by
    have : (⟨imOf G H [], G.hd⟩ : Ctx) = G := Ctx.ext_hd (fun b => by simp [imOf]) rfl
    rw [this, freezeF_nil]; exact ⟨hr, Went.refl ..⟩
  | id :: ids, H, G, hr, hid => by
    obtain ⟨o, ho⟩ := hid id (List.mem_cons_self ..)
    obtain ⟨hd, ok⟩ := hr.ok id o ho
    obtain ⟨g1, g2⟩ := relH_freeze hr ho ok.hd
    have hH : upd H [(id, { o with frozen := true })] = fun j => if j = id then (H id).map (fun o => { o with frozen := true }) else H j := by
      funext j
      simp [upd, ho]
    rw [hH] at g1 g2
    rw [freezeF_cons]
    generalize hH1 : (fun j => if j = id then (H id).map (fun o : Obj => { o with frozen := true }) else H j : Hf) = H1 at g1 g2
    have hk : ∀ k o', H k = some o' → ∃ o2, H1 k = some o2 ∧ o2.ver = o'.ver := by
      intro k o' hk
      subst hH1
      by_cases e : k = id
      · subst e; exact ⟨{ o' with frozen := true }, by simp [hk], rfl⟩
      · exact ⟨o', by simp [e, hk], rfl⟩
    have hk' : ∀ k o2, H1 k = some o2 → ∃ o', H k = some o' ∧ o2.ver = o'.ver := by
      intro k o2 hk
      subst hH1
      by_cases e : k = id
      · subst e; simp [ho] at hk; subst hk; exact ⟨o, ho, rfl⟩
      · simp only [if_neg e] at hk; exact ⟨o2, hk, rfl⟩
    obtain ⟨f1, f2⟩ := freeze_all ids H1 _ g1 (fun k hk2 => by
      obtain ⟨o', ho'⟩ := hid k (List.mem_cons_of_mem _ hk2)
      obtain ⟨o2, h2, _⟩ := hk k o' ho'
      exact ⟨o2, h2⟩)
    have he : (⟨imOf G H (id :: ids), G.hd⟩ : Ctx) = ⟨imOf ⟨fun b => G.im b ∨ (hd.isNil = false ∧ b = hd.blk), G.hd⟩ H1 ids, G.hd⟩ := by
      refine Ctx.ext_hd (fun b => ?_) rfl
      simp only [imOf]
      constructor
      · rintro (h | ⟨k, hk2, o', h', e1, e2, e3, e4⟩)
        · exact .inl (.inl h)
        · rcases List.mem_cons.1 hk2 with rfl | hk2
          · rw [ho] at e1; cases e1
            have : h' = hd := by have := ok.hd; rw [e2] at this; exact Option.some.inj this
            subst this
            exact .inl (.inr ⟨e3, e4⟩)
          · obtain ⟨o2, h2, hv⟩ := hk k o' e1
            exact .inr ⟨k, hk2, o2, h', h2, by rw [hv]; exact e2, e3, e4⟩
      · rintro ((h | ⟨h1, h2⟩) | ⟨k, hk2, o2, h', e1, e2, e3, e4⟩)
        · exact .inl h
        · exact .inr ⟨id, List.mem_cons_self .., o, hd, ho, ok.hd, h1, h2⟩
        · obtain ⟨o', h2, hv⟩ := hk' k o2 e1
          exact .inr ⟨k, List.mem_cons_of_mem _ hk2, o', h', h2, by rw [← hv]; exact e2, e3, e4⟩
    rw [he]
    exact ⟨f1, g2.trans f2⟩

theorem imOf_lt (hr : RelH w G H) {ids : List Nat} (b : Nat) (hb : imOf G H ids b) : b < w.heap.size := by
  rcases hb with hb | ⟨id, _, o, h, e1, e2, e3, rfl⟩
  · exact hr.old b hb
  · obtain ⟨vs, t, hc, _⟩ := (hr.at_ e1 e2).cells e3
    exact (Array.getElem?_eq_some_iff.1 hc).1

theorem res_ids {n : Nat} {x : AV} {d : DV} {ids : List Nat} (h : res H n x = some (d, ids)) : ∀ id ∈ ids, ∃ o, H id = some o := by
  induction n using Nat.strongRecOn generalizing x d ids with
  | _ n ih =>
    have ihL : ∀ m, m < n → ∀ (xs : List AV) (ds : List DV) (ids : List Nat), mapRes (res H m) xs = some (ds, ids) → ∀ id ∈ ids, ∃ o, H id = some o := by
      intro m hm xs
      induction xs with
      | nil => intro ds ids h; simp only [mapRes, Option.some.injEq, Prod.mk.injEq] at h; obtain ⟨rfl, rfl⟩ := h; simp
      | cons x xs ihx =>
        intro ds ids h
        simp only [mapRes] at h
        split at h
        · rename_i d i ds' j h1 h2
          simp only [Option.some.injEq, Prod.mk.injEq] at h; obtain ⟨rfl, rfl⟩ := h
          intro id hid
          rcases List.mem_append.1 hid with hid | hid
          · exact ih m hm h1 id hid
          · exact ihx _ _ h2 id hid
        · cases h
    cases x with
    | d v => simp only [res_d, Option.some.injEq, Prod.mk.injEq] at h; obtain ⟨rfl, rfl⟩ := h; simp
    | ptr => cases n <;> simp [res] at h
    | row id ver =>
      cases n with
      | zero => simp [res] at h
      | succ n =>
        simp only [res] at h
        split at h
        · rename_i o ho
          split at h
          · split at h
            · rename_i ds i hm
              simp only [Option.some.injEq, Prod.mk.injEq] at h; obtain ⟨rfl, rfl⟩ := h
              intro k hk
              rcases List.mem_cons.1 hk with rfl | hk
              · exact ⟨o, ho⟩
              · exact ihL n (by omega) _ _ _ hm k hk
            · cases h
          · cases h
        · cases h
    | fn f a b =>
      cases n with
      | zero => simp [res] at h
      | succ n =>
        simp only [res] at h
        split at h
        · rename_i x i y j h1 h2
          simp only [Option.some.injEq, Prod.mk.injEq] at h; obtain ⟨rfl, rfl⟩ := h
          intro k hk
          rcases List.mem_append.1 hk with hk | hk
          · exact ihL n (by omega) _ _ _ h1 k hk
          · exact ihL n (by omega) _ _ _ h2 k hk
        · cases h
    | agg cs =>
      cases n with
      | zero => simp [res] at h
      | succ n =>
        simp only [res] at h
        split at h
        · rename_i ds i hm
          simp only [Option.some.injEq, Prod.mk.injEq] at h; obtain ⟨rfl, rfl⟩ := h
          exact ihL n (by omega) _ _ _ hm
        · cases h
    | tup cs =>
      cases n with
      | zero => simp [res] at h
      | succ n =>
        simp only [res] at h
        split at h
        · rename_i ds i hm
          simp only [Option.some.injEq, Prod.mk.injEq] at h; obtain ⟨rfl, rfl⟩ := h
          exact ihL n (by omega) _ _ _ hm
        · cases h
theorem mapRes_ids {n : Nat} {xs : List AV} {ds : List DV} {ids : List Nat} (h : mapRes (res H n) xs = some (ds, ids)) : ∀ id ∈ ids, ∃ o, H id = some o := by
  induction xs generalizing ds ids with
  | nil => simp only [mapRes, Option.some.injEq, Prod.mk.injEq] at h; obtain ⟨rfl, rfl⟩ := h; simp
  | cons x xs ihx =>
    simp only [mapRes] at h
    split at h
    · rename_i d i ds' j h1 h2
      simp only [Option.some.injEq, Prod.mk.injEq] at h; obtain ⟨rfl, rfl⟩ := h
      intro id hid
      rcases List.mem_append.1 hid with hid | hid
      · exact res_ids h1 id hid
      · exact ihx h2 id hid
    · cases h
end

section
variable {E : Env} {w : World} {G : Ctx}

/-- A call by a contract on values, out of a world with objects. -/
theorem pure_call {H : Hf} {g : FuncId} {args : List AV} {ds : List DV} {ids : List Nat} {r : DV} (hr : RelH w G H) (hgl : GlOk E w G.im) (hm : mapRes (res H 50) args = some (ds, ids)) (hp : PureC E g ds r)
    {vs : Array Value} (hv : vs.size = args.length) (ha : ∀ (j : Nat) (x : AV), args[j]? = some x → Ra w G x (vs.getD j undef)) :
    Calls E.P g vs w fun e w' => ∃ v G', e = .returned v ∧ Ra w' G' (.d r) v ∧ RelH w' G' (if r.flat then H else freezeF H ids) ∧ Went w G H w' G' (if r.flat then H else freezeF H ids) := by
  obtain ⟨g1, g2⟩ := mapRes_get hm
  have hids := mapRes_ids hm
  refine (hp.2 w (imOf G H ids) vs (imOf_lt hr) (fun k x e => (hgl k x e).mono (fun _ _ => rfl) fun b hb => .inl hb) (by rw [hv, g1]) (fun j d e => ?_)).mono ?_
  · obtain ⟨x, i, a, b, c⟩ := g2 j d e
    exact (res_sound hr 50 x _ d i b (ha j x a)).mono (fun _ _ => rfl) (imOf_mono c)
  · rintro e w' ⟨v, im', rfl, hrd, hle, hlt, hk, hsz, hos, htape, hout⟩
    by_cases hf : r.flat = true
    · rw [if_pos hf]
      obtain ⟨q1, q2⟩ := relH_grow (im' := G.im) hr (fun b hb => (hk b hb).1) hsz (fun _ h => h) (fun _ _ h => h) (fun b hb => Nat.lt_of_lt_of_le (hr.old b hb) hsz) hos htape hout
      exact ⟨v, G, rfl, .d r v (flat_rd r v hrd hf), q1, q2⟩
    · rw [if_neg hf]
      obtain ⟨f1, f2⟩ := freeze_all ids H G hr hids
      obtain ⟨q1, q2⟩ := relH_grow (im' := im') f1 (fun b hb => (hk b hb).1) hsz hle (fun b hb hi => (hk b hb).2 hi) hlt hos htape hout
      exact ⟨v, _, rfl, .d r v hrd, q1, f2.trans q2⟩

theorem callK_sound {H : List Obj} {g : FuncId} {args : List AV} {k : AV → List Obj → Fp → Prop} (hr : RelH w G (getH H)) (hgl : GlOk E w G.im) (h : CallK E g args H k)
    {vs : Array Value} (hv : vs.size = args.length) (ha : ∀ (j : Nat) (x : AV), args[j]? = some x → Ra w G x (vs.getD j undef)) :
    Enters E.P g ∧ Calls E.P g vs w fun e w' => ∃ v r H' fp G', e = .returned v ∧ k r H' fp ∧ Ra w' G' r v ∧ RelH w' G' (getH H') ∧ Went w G (getH H) w' G' (getH H') := by
  rcases h with ⟨ds, ids, r, hm, hp, hk⟩ | h
  · refine ⟨hp.1, (pure_call hr hgl hm hp hv ha).mono ?_⟩
    rintro e w' ⟨v, G', rfl, h1, h2, h3⟩
    have hf : (if r.flat then getH H else freezeF (getH H) ids) = getH (if r.flat then H else freezeL H ids) := by
      split
      · rfl
      · exact (getH_freeze ids H).symm
    rw [hf] at h2 h3
    exact ⟨v, .d r, _, _, G', rfl, hk, h1, h2, h3⟩
  · refine ⟨h.1, (h.2 w G vs hr hgl hv ha).mono ?_⟩
    rintro e w' ⟨v, r, H', G', rfl, hq, h1, h2, h3⟩
    exact ⟨v, r, H', _, G', rfl, hq, h1, h2, h3⟩

/-- A call's operation goes into the function. -/
theorem exec_call {P : Program} {o : Oper} {σ : Operand → Value} {f : Operand} {args : Array Operand} {tys : Array TypeId} (hop : o.op = .call { callee := .value f, args := args, argTypes := tys }) {g : FuncId} {first caps : Array Value} (hf : σ f = .func (.func g) first caps) (he : Enters P g) :
    (execOp σ o).run P w = .ok (.enter g (first ++ args.map σ ++ caps)) w := by
  obtain ⟨fn, h1, h2, h3⟩ := he
  have h5 : ¬ fn.name = "runtime.NumGoroutine" := by simpa using h3
  cases hb : fn.body with
  | none => simp [hb] at h2
  | some c => simp [execOp, hop, resolve, hf, Deferred.ofValue, invoke, callFunc, h1, hb, h5]

theorem fnOf_ra {x : AV} {u : Value} (hx : Ra w G x u) {g : FuncId} {a b : List AV} (h : fnOf x = some (g, a, b)) : ∃ us vs, u = .func (.func g) us vs ∧ us.size = a.length ∧ vs.size = b.length ∧
    (∀ (j : Nat) (c : AV), a[j]? = some c → Ra w G c (us.getD j undef)) ∧ ∀ (j : Nat) (c : AV), b[j]? = some c → Ra w G c (vs.getD j undef) := by
  unfold fnOf at h
  split at h
  · simp only [Option.some.injEq, Prod.mk.injEq] at h; obtain ⟨rfl, rfl, rfl⟩ := h
    have := hx.of_d
    cases this with
    | fn _ _ _ us vs h1 h2 r1 r2 =>
      refine ⟨us, vs, rfl, by simpa using h1, by simpa using h2, fun j c e => ?_, fun j c e => ?_⟩
      all_goals
        simp only [List.getElem?_map, Option.map_eq_some_iff] at e
        obtain ⟨y, hy, rfl⟩ := e
        first
          | exact .d _ _ (r1 j y hy)
          | exact .d _ _ (r2 j y hy)
  · simp only [Option.some.injEq, Prod.mk.injEq] at h; obtain ⟨rfl, rfl, rfl⟩ := h
    cases hx with
    | fn _ _ _ us vs h1 h2 r1 r2 => exact ⟨us, vs, rfl, h1, h2, r1, r2⟩
  · cases h

theorem args_ra {ρ : Operand → AV} {σ : Operand → Value} {a b : List AV} {us vs : Array Value} {args : Array Operand} (h : ∀ x ∈ args, Ra w G (ρ x) (σ x)) (h1 : us.size = a.length) (h2 : vs.size = b.length)
    (r1 : ∀ (j : Nat) (c : AV), a[j]? = some c → Ra w G c (us.getD j undef)) (r2 : ∀ (j : Nat) (c : AV), b[j]? = some c → Ra w G c (vs.getD j undef)) :
    (us ++ args.map σ ++ vs).size = (a ++ args.toList.map ρ ++ b).length ∧ ∀ (j : Nat) (x : AV), (a ++ args.toList.map ρ ++ b)[j]? = some x → Ra w G x ((us ++ args.map σ ++ vs).getD j undef) := by
  refine ⟨by simp [h1, h2], fun j x e => ?_⟩
  simp only [Array.getD_eq_getD_getElem?]
  by_cases hA : j < a.length
  · rw [List.append_assoc, List.getElem?_append_left hA] at e
    rw [Array.append_assoc, Array.getElem?_append_left (by omega)]
    have := r1 j x e
    rwa [Array.getD_eq_getD_getElem?] at this
  · by_cases hB : j < a.length + args.size
    · rw [List.append_assoc, List.getElem?_append_right (by omega), List.getElem?_append_left (by simp; omega), List.getElem?_map] at e
      obtain ⟨y, hy, rfl⟩ := Option.map_eq_some_iff.1 e
      rw [Array.append_assoc, Array.getElem?_append_right (by omega), Array.getElem?_append_left (by simp; omega), Array.getElem?_map, h1]
      rw [Array.getElem?_toList] at hy
      rw [hy]
      exact h y (Array.mem_of_getElem? hy)
    · rw [List.getElem?_append_right (by simp; omega)] at e
      rw [Array.getElem?_append_right (by simp; omega)]
      have := r2 _ x e
      rw [Array.getD_eq_getD_getElem?] at this
      have e3 : j - (us ++ args.map σ).size = j - (a ++ args.toList.map ρ).length := by simp [h1]
      rw [e3]; exact this

theorem opv_of {tmps : List AV} {a : Act} (ht : RelT w G tmps a.tmps) (hg : GlOk E w G.im) {o : Oper} (ho : okOs E o = true) : Opv w G o (evalO E tmps) a.eval := by
  intro x hx
  exact eval_ra ht hg (Array.all_eq_true_iff_forall_mem.1 ho x hx)

theorem def_wp {s : St} {a : Act} (hs : RelS E w G s a) {o : Oper} (ho : okOs E o = true) {k : AV → List Obj → Fp → Prop} (h : exDef E o s k) {next : Act → World → Prop} {Q : Exit → Act → World → Prop}
    (hn : ∀ u w' G' v H' fp, k v H' fp → Ra w' G' v u → RelH w' G' (getH H') → Went w G (getH s.heap) w' G' (getH H') → next (a.put o.dst u) w') : o.wp E.P a w next Q := by
  unfold exDef at h
  split at h
  · rename_i v rd eff ha
    obtain ⟨u, w', G', hrun, h1, h2, h3⟩ := aop_does hs.heap (opv_of hs.tmps hs.gl ho) ha (fun _ => getH_len)
    rw [← getH_app ha] at h2 h3
    unfold Oper.wp
    rcases hrun with hrun | ⟨hrun, rfl⟩
    · rw [hrun]; exact hn u w' G' v _ _ h h1 h2 h3
    · rw [hrun]; exact hn undef w' G' v _ _ h h1 h2 h3
  · exact h.elim

theorem nil_wp {s : St} {a : Act} (hs : RelS E w G s a) {o : Oper} {op : BinOp} {t ty : TypeId} {x y : Operand} (hop : o.op = .binOp op t x y ty) (ho : okOs E o = true) (hq : op = .eql ∨ op = .neq) (hu : nilUnk E.P (getH s.heap) t (evalO E s.tmps x) (evalO E s.tmps y) = true)
    {next : Act → World → Prop} {Q : Exit → Act → World → Prop} (hn : ∀ b : Bool, next (a.put o.dst (.bool b)) w) : o.wp E.P a w next Q := by
  have hv := opv_of hs.tmps hs.gl ho
  have hx := hv x (by rw [hop]; simp [Op.operands])
  have hy := hv y (by rw [hop]; simp [Op.operands])
  unfold nilUnk at hu
  split at hu
  · rename_i e hun
    have key : ∀ ux uy, Ra w G (evalO E s.tmps x) ux → Ra w G (evalO E s.tmps y) uy → ∃ a1 c, ux = .slice a1 0 c ∧ uy = .slice none 0 0 := by
      intro ux uy hx hy
      split at hu
      · rename_i e1 e2
        rw [e1] at hx; rw [e2] at hy
        have h1 := hx.of_d
        have h2 := hy.of_d
        cases h2
        cases h1 <;> exact ⟨_, _, rfl, rfl⟩
      · rename_i e1 e2
        rw [e1] at hx; rw [e2] at hy
        have h1 := hx.of_d
        have h2 := hy.of_d
        cases h2
        cases h1
        exact ⟨_, _, rfl, rfl⟩
      · rename_i id ver e1 e2
        rw [e1] at hx; rw [e2] at hy
        have h2 := hy.of_d
        split at hu
        · rename_i ob hob
          split at hu
          · rename_i hver
            subst hver
            cases hx with
            | row _ _ hd hh =>
              have ok := hs.heap.at_ hob hh
              have hlen : hd.len = 0 := by rw [ok.len]; simpa using hu
              cases h2
              unfold Hdr.val
              split
              · exact ⟨_, _, rfl, rfl⟩
              · exact ⟨_, _, by rw [hlen], rfl⟩
          · cases hu
        · cases hu
      · cases hu
    obtain ⟨a1, c, e1, e2⟩ := key _ _ hx hy
    have heq : (Op.equal t (.slice a1 0 c) (.slice none 0 0)).run E.P w = .ok a1.isNone w := by
      unfold Op.equal Op.maxDepth
      rw [show (10000 : Nat) = 9999 + 1 from rfl, Op.equalIn]
      cases a1 <;> simp [run_underlying hun]
    have hg : (eqGuard op t x y (.slice a1 0 c) (.slice none 0 0)).run E.P w = .ok () w := guard_plain (.inl (by simp [hk])) (.inl (by simp [hk]))
    obtain ⟨q1, q2⟩ := binOp_eq (t := t) (u := .slice a1 0 c) (v := .slice none 0 0) (.inl (by simp [hk])) (.inl (by simp [hk])) (by simp [hk])
    have hrun : ∃ b, (execOp a.eval o).run E.P w = .ok (.value (.bool b)) w := by
      rcases hq with rfl | rfl
      · exact ⟨a1.isNone, by simp only [execOp, hop, e1, e2, Sem.run_bind, hg, Result.andThen_ok, q1, heq, Sem.run_pure]⟩
      · exact ⟨!a1.isNone, by simp only [execOp, hop, e1, e2, Sem.run_bind, hg, Result.andThen_ok, q2, heq, Sem.run_pure]⟩
    obtain ⟨b, hrun⟩ := hrun
    unfold Oper.wp
    rw [hrun]
    exact hn b
  · cases hu

/-- One operation, where the operations stand in order. -/
theorem op_wp {s : St} {a : Act} (hs : RelS E w G s a) {o : Oper} {k : AV → List Obj → Fp → Prop} (h : exOp E false o s k) {next : Act → World → Prop} {Q : Exit → Act → World → Prop}
    (hn : ∀ u w' G' v H' fp, k v H' fp → Ra w' G' v u → RelH w' G' (getH H') → Went w G (getH s.heap) w' G' (getH H') → next (a.put o.dst u) w') : o.wp E.P a w next Q := by
  obtain ⟨ho, h⟩ := h
  split at h
  · rename_i f args tys hop
    split at h
    · rename_i g first caps hf
      have hv := opv_of hs.tmps hs.gl ho
      have hfx := hv f (by rw [hop]; simp [Op.operands, Call.operands])
      obtain ⟨us, vs, e1, s1, s2, r1, r2⟩ := fnOf_ra hfx hf
      obtain ⟨c1, c2⟩ := args_ra (args := args) (fun x hx => hv x (by rw [hop]; simp [Op.operands, Call.operands, hx])) s1 s2 r1 r2
      simp only [Bool.false_eq_true, if_false] at h
      obtain ⟨hent, hc⟩ := callK_sound hs.heap hs.gl h c1 c2
      unfold Oper.wp
      rw [exec_call hop e1 hent]
      refine hc.mono ?_
      rintro e w' ⟨v, r, H', fp, G', rfl, hk, h1, h2, h3⟩
      exact hn v w' G' r H' fp hk h1 h2 h3
    · exact h.elim
  · rename_i op t x y ty hop
    split at h
    · rename_i hc
      obtain ⟨_, hq, hu⟩ := hc
      exact nil_wp hs hop ho hq hu fun b => hn _ w G _ _ _ (h b) .bool hs.heap (Went.refl ..)
    · exact def_wp hs ho h hn
  · exact def_wp hs ho h hn

theorem RelS.put {s : St} {a : Act} (hs : RelS E w G s a) {w' : World} {G' : Ctx} {v : AV} {u : Value} {H' : List Obj} (h1 : Ra w' G' v u) (h2 : RelH w' G' (getH H')) (h3 : Went w G (getH s.heap) w' G' (getH H')) (dst : Option Tmp) :
    RelS E w' G' ⟨putT s.tmps dst v, H'⟩ (a.put dst u) := by
  have ht := hs.tmps.mono (h3.im_keep hs.heap) h3.le
  exact ⟨ht.put h1 dst, h2, hs.gl.went hs.heap h3, by cases dst <;> exact hs.defers⟩

theorem yielded_ra {ops : Array Oper} {tmps : List AV} {vs : Array Value} (ht : RelT w G tmps vs) (j : Nat) : yielded ops vs j = yieldedA ops tmps j := by
  unfold yielded yieldedA
  cases hd : (ops[j]?).bind (·.dst) with
  | none => rfl
  | some t =>
    simp only [Option.bind_some]
    have hx := ht.at_ t
    have hk := hx.kind
    by_cases hlt : t < vs.size
    · rw [getD_of hlt]
      generalize vs.getD t undef = u at *
      generalize tmps.getD t .un = x at *
      cases u <;> simp only [Go.Sv.hk] at hk
      case bool b =>
        have : x = .d (.bool b) := by
          cases x with
          | d y => have := hx.of_d; cases this; rfl
          | _ => simp [ak] at hk
        rw [this]
      all_goals
        cases x with
        | d y => cases y <;> simp [ak, dk] at hk <;> rfl
        | _ => first | rfl | (simp [ak] at hk; done)
    · have h1 : vs.size ≤ t := Nat.le_of_not_lt hlt
      have h2 : tmps.length ≤ t := by rw [← ht.1]; exact h1
      rw [Array.getElem?_eq_none h1]
      have : tmps.getD t .un = .un := by rw [List.getD_eq_getElem?_getD, List.getElem?_eq_none h2]; rfl
      rw [this]

theorem wanted_eq {ops : Array Oper} {tmps : List AV} {vs : Array Value} (ht : RelT w G tmps vs) (o : Oper) : Region.wanted o (yielded ops vs) = match o.guard with | none => true | some (g, want) => yieldedA ops tmps g == some want := by
  unfold Region.wanted
  cases o.guard with
  | none => rfl
  | some p => simp only [yielded_ra ht]

/-- Operations in their order. -/
theorem ops_wp {ops : Array Oper} {Q : Exit → Act → World → Prop} {k : St → List (Nat × Fp) → Prop} : ∀ (l : List Oper) (i : Nat) (s : St) (a : Act) (w : World) (G : Ctx) (fps : List (Nat × Fp)), (∀ j, l[j]? = ops[i + j]?) → RelS E w G s a → exOps E false ops l i s fps k →
    (∀ s' a' w' G' fps', k s' fps' → RelS E w' G' s' a' → Went w G (getH s.heap) w' G' (getH s'.heap) → Q .normal a' w') → wpOps E.P ops Q (List.range' i l.length) a w
  | [], i, s, a, w, G, fps, _, hs, h, hq => hq s a w G fps h hs (Went.refl ..)
  | o :: rest, i, s, a, w, G, fps, hl, hs, h, hq => by
    have ho : ops[i]? = some o := by have := hl 0; simpa using this.symm
    have hl' : ∀ j, rest[j]? = ops[i + 1 + j]? := fun j => by have := hl (j + 1); simp only [List.getElem?_cons_succ] at this; rw [this]; congr 1; omega
    have run : exOp E false o s (fun v H fp => exOps E false ops rest (i + 1) ⟨putT s.tmps o.dst v, H⟩ (fps ++ [(i, fp)]) k) → o.wp E.P a w (wpOps E.P ops Q (List.range' (i + 1) rest.length)) Q := fun h =>
      op_wp hs h fun u w' G' v H' fp hk h1 h2 h3 => ops_wp rest (i + 1) _ _ w' G' _ hl' (hs.put h1 h2 h3 o.dst) hk fun s' a' w'' G'' fps' q1 q2 q3 => hq s' a' w'' G'' fps' q1 q2 (h3.trans q3)
    have skip : exOps E false ops rest (i + 1) ⟨putT s.tmps o.dst .un, s.heap⟩ (fps ++ [(i, ({} : Fp))]) k → wpOps E.P ops Q (List.range' (i + 1) rest.length) (a.put o.dst undef) w := fun h =>
      ops_wp rest (i + 1) _ _ w G _ hl' (hs.put .un hs.heap (Went.refl ..) o.dst) h hq
    simp only [List.length_cons, List.range'_succ]
    rw [wpOps_cons]
    unfold wpOp
    simp only [ho, wanted_eq hs.tmps o]
    simp only [exOps] at h
    cases hg : o.guard with
    | none => simp only [hg] at h ⊢; exact .inl (run h)
    | some p =>
      obtain ⟨g, want⟩ := p
      simp only [hg] at h ⊢
      obtain ⟨z, hz⟩ : ∃ z, yieldedA ops s.tmps g = z := ⟨_, rfl⟩
      simp only [hz] at h ⊢
      cases z with
      | none => exact skip h
      | some b =>
        simp only at h
        by_cases e : b = want
        · subst e; simp only [beq_self_eq_true, if_true]; exact .inl (run (h.1 rfl))
        · have e' : b = !want := by cases b <;> cases want <;> simp_all
          have : (some b == some want) = false := by simpa using e
          simp only [this, Bool.false_eq_true, if_false]
          exact skip (h.2 e')
end
end Go.Sv
