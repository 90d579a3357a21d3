/- An operation looks at those objects alone that it tells. -/
import Derived.Test.YtlfbopiefjpeaaaDoorSvN
set_option linter.unusedSimpArgs false
set_option linter.unusedVariables false
namespace Go.Sv
open Go

section
variable {P : Program} {H H' : Hf}

theorem elemAt_local {id ver i : Nat} (h : H' id = H id) : elemAt H' id ver i = elemAt H id ver i := by unfold elemAt; rw [h]

theorem place_local {addr : AV} {cs : List AV} {rd : List Nat} (h : place H addr = some (cs, rd)) (hd : ∀ id ∈ rd, H' id = H id) : place H' addr = some (cs, rd) := by
  unfold place at h ⊢
  split at h
  · exact h
  · rename_i id ver i off
    try simp only
    split at h
    · rename_i x hx
      simp only [Option.some.injEq, Prod.mk.injEq] at h
      obtain ⟨rfl, rfl⟩ := h
      rw [elemAt_local (hd id (List.mem_singleton.2 rfl)), hx]
    · cases h
  · cases h

theorem elems_local {x : AV} {xs : List AV} {e : Option Nat} {rd : List Nat} (h : elems H x = some (xs, e, rd)) (hd : ∀ id ∈ rd, H' id = H id) : elems H' x = some (xs, e, rd) := by
  unfold elems at h ⊢
  split at h
  · exact h
  · exact h
  · exact h
  · rename_i id ver
    try simp only
    split at h
    · rename_i o ho
      split at h
      · rename_i hv
        simp only [Option.some.injEq, Prod.mk.injEq] at h
        obtain ⟨rfl, rfl, rfl⟩ := h
        rw [hd id (List.mem_singleton.2 rfl), ho]
        simp only [hv, if_true]
      · cases h
    · cases h
  · cases h

theorem srcElems_local {t : TypeId} {x : AV} {xs : List AV} {e : Option Nat} {rd : List Nat} (h : srcElems P H t x = some (xs, e, rd)) (hd : ∀ id ∈ rd, H' id = H id) : srcElems P H' t x = some (xs, e, rd) := by
  unfold srcElems at h ⊢
  split at h
  · exact elems_local h hd
  · exact h
  · cases h

theorem aLoad_local {t : TypeId} {x : AV} {v : AV} {fx : Fx} (h : aLoad P H t x = some (v, fx)) (hd : ∀ id ∈ fx.rd, H' id = H id) : aLoad P H' t x = some (v, fx) := by
  unfold aLoad at h ⊢
  split at h
  · rename_i cs rd hp
    split at h
    · rename_i v' hl
      simp only [Option.some.injEq, Prod.mk.injEq] at h
      obtain ⟨rfl, rfl⟩ := h
      rw [place_local hp hd]
      simp only [hl]
    · cases h
  · cases h

theorem aStore_local {t : TypeId} {a x : AV} {v : AV} {fx : Fx} (h : aStore P H t a x = some (v, fx)) (hd : ∀ id ∈ fx.rd, H' id = H id) : aStore P H' t a x = some (v, fx) := by
  have h0 := h
  unfold aStore at h
  split at h
  · rename_i id ver i off
    have key : ∀ o, H id = some o → fx.rd = [id] → H' id = H id := fun o _ e => hd id (by rw [e]; exact List.mem_singleton.2 rfl)
    split at h
    · rename_i o ho
      have hrd : fx.rd = [id] := by
        repeat' split at h
        all_goals first
          | (simp only [Option.some.injEq, Prod.mk.injEq] at h; obtain ⟨_, rfl⟩ := h; rfl)
          | cases h
      have e := key o ho hrd
      unfold aStore at h0 ⊢
      simp only at h0 ⊢
      rw [e]; exact h0
    · cases h
  · cases h

theorem aIndexAddr_local {t : TypeId} {x i : AV} {v : AV} {fx : Fx} (h : aIndexAddr P H t x i = some (v, fx)) (hd : ∀ id ∈ fx.rd, H' id = H id) : aIndexAddr P H' t x i = some (v, fx) := by
  cases x with
  | row id ver =>
    have h0 := h
    unfold aIndexAddr at h
    have hrd : fx.rd = [id] := by
      repeat' split at h
      all_goals first
        | contradiction
        | (simp only [Option.some.injEq, Prod.mk.injEq] at h; obtain ⟨_, rfl⟩ := h; simp_all; done)
        | cases h
    have e := hd id (by rw [hrd]; exact List.mem_singleton.2 rfl)
    unfold aIndexAddr at h0 ⊢
    simp only at h0 ⊢
    rw [e]; exact h0
  | d v => cases v <;> exact h
  | _ => exact h

theorem aLen_local {t : TypeId} {x : AV} {v : AV} {fx : Fx} (h : aLen P H t x = some (v, fx)) (hd : ∀ id ∈ fx.rd, H' id = H id) : aLen P H' t x = some (v, fx) := by
  unfold aLen at h ⊢
  split at h
  · exact h
  · split at h
    · rename_i xs e' rd he
      simp only [Option.some.injEq, Prod.mk.injEq] at h
      obtain ⟨rfl, rfl⟩ := h
      simp only [elems_local he hd]
    · cases h
  · exact h
  · cases h

theorem aAppend_local {nid : Nat} {t tx : TypeId} {x y : AV} {v : AV} {fx : Fx} (h : aAppend P H nid t tx x y = some (v, fx)) (hd : ∀ id ∈ fx.rd, H' id = H id) : aAppend P H' nid t tx x y = some (v, fx) := by
  have h0 := h
  unfold aAppend at h
  split at h
  · rename_i e hu
    split at h
    · rename_i i hi
      split at h
      · rename_i z hz
        split at h
        · rename_i hp
          split at h
          · rename_i ys ey rd hs
            split at h
            · rename_i hey
              split at h
              · split at h
                · rename_i hl
                  simp only [Option.some.injEq, Prod.mk.injEq] at h
                  obtain ⟨rfl, rfl⟩ := h
                  have hs' := srcElems_local hs (fun id hid => hd id (List.mem_cons_of_mem _ hid))
                  unfold aAppend
                  simp only [hu, hi, hz, if_pos hp, hs', if_pos hey, if_pos hl]
                · cases h
              · split at h
                · rename_i hl
                  simp only [Option.some.injEq, Prod.mk.injEq] at h
                  obtain ⟨rfl, rfl⟩ := h
                  have hs' := srcElems_local hs (fun id hid => hd id (List.mem_cons_of_mem _ hid))
                  unfold aAppend
                  simp only [hu, hi, hz, if_pos hp, hs', if_pos hey, if_pos hl]
                · cases h
              · rename_i id ver
                split at h
                · rename_i o ho
                  split at h
                  · rename_i h1
                    split at h
                    · rename_i h2
                      split at h
                      · rename_i h3
                        split at h
                        · rename_i h4
                          simp only [Option.some.injEq, Prod.mk.injEq] at h
                          obtain ⟨rfl, rfl⟩ := h
                          have hs' := srcElems_local hs (fun id hid => hd id (List.mem_cons_of_mem _ hid))
                          have ho' : H' id = some o := (hd id (List.mem_cons_self ..)).trans ho
                          unfold aAppend
                          simp only [hu, hi, hz, if_pos hp, hs', if_pos hey, ho', if_pos h1, if_pos h2, if_pos h3, if_pos h4]
                        · cases h
                      · cases h
                    · cases h
                  · cases h
                · cases h
              · cases h
            · cases h
          · cases h
        · cases h
      · cases h
    · cases h
  · cases h

theorem aop_local {o : Oper} {ρ : Operand → AV} {nid : Nat} {v : AV} {rd : List Nat} {eff : Eff} (h : aop P o ρ H nid = some (v, rd, eff)) (hd : ∀ id ∈ rd, H' id = H id) : aop P o ρ H' nid = some (v, rd, eff) := by
  unfold aop at h ⊢
  split at h
  all_goals first
    | exact h
    | (rename_i hop; simp only [hop]; exact h)
    | skip
  · obtain ⟨h1, rfl⟩ := asRead_inv h
    rw [aLoad_local h1 hd]; rfl
  · obtain ⟨id, ob, h1, rfl⟩ := asSet_inv h
    rw [aStore_local h1 hd]; rfl
  · obtain ⟨h1, rfl⟩ := asRead_inv h
    rw [aIndexAddr_local h1 hd]; rfl
  · split at h
    · obtain ⟨h1, rfl⟩ := asRead_inv h
      rw [aLen_local h1 hd]; rfl
    · cases h
  · split at h
    · split at h
      · rename_i e
        obtain ⟨id, ob, h1, rfl⟩ := asSet_inv h
        rw [aAppend_local h1 hd]; rfl
      · rename_i hne
        obtain ⟨id, ob, h1, rfl⟩ := asPush_inv h
        rw [aAppend_local h1 hd]; rfl
    · cases h

theorem mapRes_congr {f g : AV → Option (DV × List Nat)} : ∀ {xs : List AV} {ds : List DV} {ids : List Nat}, mapRes f xs = some (ds, ids) → (∀ x d i, x ∈ xs → f x = some (d, i) → (∀ k ∈ i, k ∈ ids) → g x = some (d, i)) → mapRes g xs = some (ds, ids)
  | [], ds, ids, h, _ => h
  | x :: xs, ds, ids, h, hc => by
    simp only [mapRes] at h ⊢
    split at h
    · rename_i d i ds' j h1 h2
      simp only [Option.some.injEq, Prod.mk.injEq] at h
      obtain ⟨rfl, rfl⟩ := h
      rw [hc x d i (List.mem_cons_self ..) h1 (fun k hk => List.mem_append_left _ hk), mapRes_congr h2 (fun y d' i' hy e hk => hc y d' i' (List.mem_cons_of_mem _ hy) e fun k hk' => List.mem_append_right _ (hk k hk'))]
    · cases h

theorem res_local : ∀ (n : Nat) (x : AV) (d : DV) (ids : List Nat), res H n x = some (d, ids) → (∀ id ∈ ids, H' id = H id) → res H' n x = some (d, ids) := by
  intro n
  induction n with
  | zero => intro x d ids h _; cases x <;> simp_all [res]
  | succ n ih =>
    intro x d ids h hd
    have ihL : ∀ (xs : List AV) (ds : List DV) (i : List Nat), mapRes (res H n) xs = some (ds, i) → (∀ k ∈ i, k ∈ ids) → mapRes (res H' n) xs = some (ds, i) := fun xs ds i hm hk =>
      mapRes_congr hm fun y d' i' _ e hi => ih y d' i' e fun id hid => hd id (hk id (hi id hid))
    cases x with
    | d v => simpa using h
    | ptr => simp [res] at h
    | row id ver =>
      simp only [res] at h ⊢
      split at h
      · rename_i o ho
        split at h
        · rename_i hv
          split at h
          · rename_i ds i hm
            simp only [Option.some.injEq, Prod.mk.injEq] at h; obtain ⟨rfl, rfl⟩ := h
            rw [hd id (List.mem_cons_self ..), ho]
            simp only [hv, if_true, ihL _ _ _ hm (fun k hk => List.mem_cons_of_mem _ hk)]
          · cases h
        · cases h
      · cases h
    | fn f a b =>
      simp only [res] at h ⊢
      split at h
      · rename_i x i y j h1 h2
        simp only [Option.some.injEq, Prod.mk.injEq] at h; obtain ⟨rfl, rfl⟩ := h
        rw [ihL _ _ _ h1 (fun k hk => List.mem_append_left _ hk), ihL _ _ _ h2 (fun k hk => List.mem_append_right _ hk)]
      · cases h
    | agg cs =>
      simp only [res] at h ⊢
      split at h
      · rename_i ds i hm
        simp only [Option.some.injEq, Prod.mk.injEq] at h; obtain ⟨rfl, rfl⟩ := h
        rw [ihL _ _ _ hm (fun k hk => hk)]
      · cases h
    | tup cs =>
      simp only [res] at h ⊢
      split at h
      · rename_i ds i hm
        simp only [Option.some.injEq, Prod.mk.injEq] at h; obtain ⟨rfl, rfl⟩ := h
        rw [ihL _ _ _ hm (fun k hk => hk)]
      · cases h

/-- An operation that lays an object tells its number among those that it looks at. -/
theorem push_reads {o : Oper} {ρ : Operand → AV} {nid : Nat} {v : AV} {rd : List Nat} {ob : Obj} (h : aop P o ρ H nid = some (v, rd, .push ob)) : nid ∈ rd := by
  have hbox : ∀ (x : AV) (fx : Fx), aBox nid x = some (v, fx) → nid ∈ fx.rd := by
    intro x fx h
    unfold aBox at h
    split at h
    · split at h
      · simp only [Option.some.injEq, Prod.mk.injEq] at h; obtain ⟨_, rfl⟩ := h; exact List.mem_singleton.2 rfl
      · cases h
    · cases h
  unfold aop at h
  split at h
  all_goals first
    | (obtain ⟨_, e, _⟩ := asPure_inv h; cases e; done)
    | (obtain ⟨_, _, _, e⟩ := asSet_inv h; cases e; done)
    | (obtain ⟨_, e⟩ := asRead_inv h; cases e; done)
    | (cases h; done)
    | skip
  · obtain ⟨id, ob, h1, _⟩ := asPush_inv h
    unfold aAlloc at h1
    split at h1
    · split at h1
      · split at h1
        · exact hbox _ _ h1
        · cases h1
      · cases h1
    · cases h1
  · obtain ⟨id, ob, h1, _⟩ := asPush_inv h
    exact hbox _ _ h1
  · obtain ⟨id, ob, h1, _⟩ := asPush_inv h
    unfold aBuildSlice at h1
    repeat' split at h1
    all_goals first
      | (simp only [Option.some.injEq, Prod.mk.injEq, Fx.mk.injEq] at h1; obtain ⟨_, rfl, _⟩ := h1; exact List.mem_singleton.2 rfl)
      | cases h1
  · split at h <;> cases h
  · split at h <;> cases h
  · obtain ⟨id, ob, h1, _⟩ := asPush_inv h
    unfold aMake at h1
    repeat' split at h1
    all_goals first
      | (simp only [Option.some.injEq, Prod.mk.injEq, Fx.mk.injEq] at h1; obtain ⟨_, rfl, _⟩ := h1; exact List.mem_singleton.2 rfl)
      | cases h1
  · split at h
    · obtain ⟨_, e⟩ := asRead_inv h; cases e
    · cases h
  · split at h
    · split at h
      · obtain ⟨_, _, _, e⟩ := asSet_inv h; cases e
      · rename_i hne
        obtain ⟨id, ob, h1, _⟩ := asPush_inv h
        have hne' := hne
        unfold aAppend at h1
        repeat' split at h1
        all_goals first
          | (simp only [Option.some.injEq, Prod.mk.injEq, Fx.mk.injEq] at h1; obtain ⟨_, rfl, _⟩ := h1; first | exact List.mem_cons_self .. | (exfalso; exact hne _ _ (by assumption)))
          | cases h1
    · cases h
end
end Go.Sv
