/- How the operations act on abstract values, part 2: places, loads, stores, new objects, rows that grow, rows that are given up for writing. -/
import Derived.Test.YtlfbopiefjpeaaaDoorSvB
set_option linter.unusedSimpArgs false
set_option linter.unusedVariables false
namespace Go.Sv
open Go

/-- What an operation does besides: the objects that it looks at, the objects that it lays (later ones win). -/
structure Fx where
  rd : List Nat := []
  wr : List (Nat × Obj) := []

def upd (H : Hf) : List (Nat × Obj) → Hf
  | [] => H
  | (id, o) :: r => upd (fun j => if j = id then some o else H j) r
@[simp] theorem upd_nil (H : Hf) : upd H [] = H := rfl
@[simp] theorem upd_cons (H : Hf) (id : Nat) (o : Obj) (r : List (Nat × Obj)) : upd H ((id, o) :: r) = upd (fun j => if j = id then some o else H j) r := rfl

def Snd (P : Program) (w : World) (G : Ctx) (H : Hf) (s : Sem Value) (v : AV) (wr : List (Nat × Obj)) : Prop :=
  ∃ u w' G', s.run P w = .ok u w' ∧ Ra w' G' v u ∧ RelH w' G' (upd H wr) ∧ Went w G H w' G' (upd H wr)
def SndV (P : Program) (w : World) (G : Ctx) (s : Sem Value) (v : AV) : Prop := ∃ u, s.run P w = .ok u w ∧ Ra w G v u
theorem SndV.snd {P : Program} {w : World} {G : Ctx} {H : Hf} {s : Sem Value} {v : AV} (h : SndV P w G s v) (hr : RelH w G H) : Snd P w G H s v [] :=
  let ⟨u, h1, h2⟩ := h; ⟨u, w, G, h1, h2, hr, Went.refl ..⟩

/-- An element of an object. -/
def elemAt (H : Hf) (id ver i : Nat) : Option AV := match H id with
  | some o => if o.ver = ver then o.elems[i]? else none
  | none => none
theorem elemAt_some {H : Hf} {id ver i : Nat} {x : AV} (h : elemAt H id ver i = some x) : ∃ o, H id = some o ∧ o.ver = ver ∧ o.elems[i]? = some x := by
  unfold elemAt at h
  split at h
  · rename_i o ho
    split at h
    · rename_i hv; exact ⟨o, ho, hv, h⟩
    · cases h
  · cases h

/-- The cells from an address on. -/
def place (H : Hf) : AV → Option (List AV × List Nat)
  | .d (.ref x) => some (x.cells.map .d, [])
  | .ptr id ver i off => match elemAt H id ver i with
    | some x => some (x.cells.drop off, [id])
    | none => none
  | _ => none

section
variable {P : Program} {w : World} {G : Ctx} {H : Hf}

theorem obj_at (hr : RelH w G H) {id : Nat} {o : Obj} {h : Hdr} (ho : H id = some o) (hh : G.hd id o.ver = some h) (hn : h.isNil = false) {i : Nat} {x : AV} (hx : o.elems[i]? = some x) : At w G ⟨h.blk, i * h.esz, none⟩ x.cells := by
  have ok := hr.at_ ho hh
  obtain ⟨vs, t, hb, hsz, hc⟩ := ok.cells hn
  refine ⟨rfl, alies_leaf (ok.lies x (List.mem_of_getElem? hx)), fun j c e => ?_⟩
  have hj : j < x.cells.length := (List.getElem?_eq_some_iff.1 e).1
  have hi : i < o.elems.length := (List.getElem?_eq_some_iff.1 hx).1
  have hxs : x.cells.length = h.esz := by rw [ok.size x (List.mem_of_getElem? hx), ok.esz]
  have hle : i * h.esz + j < vs.size := by
    have h1 : i + 1 ≤ h.cap := by have := ok.len; have := ok.cap; omega
    have h2 : (i + 1) * h.esz ≤ h.cap * h.esz := Nat.mul_le_mul_right _ h1
    have h3 : (i + 1) * h.esz = i * h.esz + h.esz := Nat.succ_mul ..
    omega
  refine ⟨vs.getD (i * h.esz + j) undef, ?_, hc i j x c hx e⟩
  simp only [World.cell?, hb]
  exact getD_of hle

theorem place_at (hr : RelH w G H) {addr : AV} {v : Value} (hv : Ra w G addr v) {cs : List AV} {rd : List Nat} (h : place H addr = some (cs, rd)) : ∃ a, v = .pointer (some a) ∧ At w G a cs := by
  unfold place at h
  split at h
  · rename_i x
    simp only [Option.some.injEq, Prod.mk.injEq] at h
    obtain ⟨rfl, rfl⟩ := h
    have hd := hv.of_d
    cases hd with
    | ref _ b o us hl hb hc hrr =>
      refine ⟨_, rfl, rfl, fun c hc' => ?_, fun j c e => ?_⟩
      · obtain ⟨y, hy, rfl⟩ := List.mem_map.1 hc'
        exact lies_leaf hl y hy
      · simp only [List.getElem?_map, Option.map_eq_some_iff] at e
        obtain ⟨y, hy, rfl⟩ := e
        exact ⟨us j, hc j y hy, .d y _ (hrr j y hy)⟩
  · rename_i id ver i off
    split at h
    · rename_i x hx
      simp only [Option.some.injEq, Prod.mk.injEq] at h
      obtain ⟨rfl, rfl⟩ := h
      obtain ⟨o, ho, rfl, hxx⟩ := elemAt_some hx
      cases hv with
      | ptr _ _ _ _ hd hh hn => exact ⟨_, rfl, (obj_at hr ho hh hn hxx).drop off⟩
    · cases h
  · cases h

def isAggT (P : Program) (t : TypeId) : Bool := match P.underlying t with
  | some (.struct _) | some (.array ..) => true
  | _ => false
def szT (P : Program) (t : TypeId) : Option Nat := (P.info? t).map (·.size)

theorem run_isAgg {t : TypeId} (h : (P.underlying t).isSome = true) : (isAgg t).run P w = .ok (isAggT P t) w := by
  cases hd : P.underlying t with
  | none => simp [hd] at h
  | some d => simp only [isAgg, Sem.run_bind, run_underlying hd, Result.andThen_ok, isAggT, hd]; cases d <;> simp
theorem run_sizeOf {t : TypeId} {n : Nat} (h : szT P t = some n) : (sizeOf t).run P w = .ok n w := by
  unfold szT at h
  cases hi : P.info? t with
  | none => simp [hi] at h
  | some i => simp [hi] at h; simp [sizeOf, typeInfo, hi, h]

/-- A value of a type out of the cells at its place. -/
def loadAs (P : Program) (t : TypeId) (cs : List AV) : Option AV :=
  if (P.underlying t).isSome then
    if isAggT P t then match szT P t with
      | some n => if n ≤ cs.length then some (mkAgg (cs.take n)) else none
      | none => none
    else cs.head?
  else none

theorem run_loadVar_at {a : Addr} {cs : List AV} (hat : At w G a cs) {t : TypeId} {v : AV} (h : loadAs P t cs = some v) : SndV P w G (loadVar t a) v := by
  unfold loadAs at h
  split at h
  · rename_i hu
    split at h
    · rename_i hg
      split at h
      · rename_i n hn
        split at h
        · rename_i hle
          simp only [Option.some.injEq] at h
          subst h
          obtain ⟨vs, h1, h2, h3⟩ := (hat.take n).load (P := P)
          have hlen : (cs.take n).length = n := by simp [hle]
          rw [hlen] at h1 h2
          refine ⟨.agg vs, ?_, Ra.mkAgg (by rw [h2, hlen]) (hat.take n).2.1 h3⟩
          simp only [loadVar, Sem.run_bind, run_isAgg hu, Result.andThen_ok, hg, if_true, run_sizeOf hn, h1, Sem.run_pure]
        · cases h
      · cases h
    · rename_i hg
      cases cs with
      | nil => cases h
      | cons c cs =>
        simp only [List.head?_cons, Option.some.injEq] at h
        subst h
        obtain ⟨u, hu', hr⟩ := hat.2.2 0 c rfl
        refine ⟨u, ?_, hr⟩
        have he : a = ⟨a.block, a.off + 0, none⟩ := by cases a; have := hat.1; simp_all
        rw [← he] at hu'
        simp only [loadVar, Sem.run_bind, run_isAgg hu, Result.andThen_ok, hg, Bool.false_eq_true, if_false, run_load, hu']
  · cases h

def aLoad (P : Program) (H : Hf) (t : TypeId) (addr : AV) : Option (AV × Fx) := match place H addr with
  | some (cs, rd) => match loadAs P t cs with
    | some v => some (v, { rd := rd })
    | none => none
  | none => none
theorem aLoad_snd (hr : RelH w G H) {t : TypeId} {addr : AV} {u : Value} (hu : Ra w G addr u) {v : AV} {fx : Fx} (h : aLoad P H t addr = some (v, fx)) : SndV P w G (Instr.loadAt t u) v ∧ fx.wr = [] := by
  unfold aLoad at h
  split at h
  · rename_i cs rd hp
    split at h
    · rename_i v' hl
      simp only [Option.some.injEq, Prod.mk.injEq] at h
      obtain ⟨rfl, rfl⟩ := h
      obtain ⟨a, rfl, hat⟩ := place_at hr hu hp
      obtain ⟨x, h1, h2⟩ := run_loadVar_at hat hl
      exact ⟨⟨x, by simp only [Instr.loadAt, Instr.sureAddr, Sem.run_bind, Sem.run_pure, Result.andThen_ok, h1], h2⟩, rfl⟩
    · cases h
  · cases h
end
end Go.Sv
