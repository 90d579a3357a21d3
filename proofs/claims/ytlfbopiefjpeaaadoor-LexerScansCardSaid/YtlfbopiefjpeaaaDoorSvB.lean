/- How the operations act on abstract values, and that the run's operations do the same. Part 1: memory that is read. -/
import Derived.Test.YtlfbopiefjpeaaaDoorSvA
import Derived.Laws.Cells
import Derived.Laws.Tables
import Derived.Laws.Slices
import Derived.Deep.AppendSrc
set_option linter.unusedSimpArgs false
set_option linter.unusedVariables false
namespace Go.Sv
open Go

theorem leaf_cells {x : DV} (h : x.leaf = true) : x.cells = [x] := by cases x <;> simp_all [DV.leaf, DV.cells]
theorem lies_leaf {x : DV} (h : x.lies = true) : ∀ c ∈ x.cells, c.leaf = true := by
  intro c hc
  cases x with
  | agg cs => exact (List.all_eq_true.1 h) c hc
  | tup cs => simp [DV.lies] at h
  | _ => simp only [DV.cells, List.mem_singleton] at hc; subst hc; rfl
theorem alies_leaf {x : AV} (h : x.lies = true) : ∀ c ∈ x.cells, c.leaf = true := by
  intro c hc
  cases x with
  | d v =>
    simp only [AV.cells, List.mem_map] at hc
    obtain ⟨y, hy, rfl⟩ := hc
    exact lies_leaf h y hy
  | agg cs => exact (List.all_eq_true.1 h) c hc
  | tup cs => simp [AV.lies] at h
  | _ => simp only [AV.cells, List.mem_singleton] at hc; subst hc; rfl

theorem getD_of {vs : Array Value} {j : Nat} (h : j < vs.size) : vs[j]? = some (vs.getD j undef) := by
  simp [Array.getD, h]

theorem Rd.one {w : World} {im : Nat → Prop} {c : DV} {u : Value} (h : Rd w im c u) (hl : c.leaf = true) : u.oneCell' = true ∧ u.cells = #[u] := by
  cases h <;> simp_all [DV.leaf, Value.oneCell', Value.cells]
theorem Ra.one {w : World} {G : Ctx} {c : AV} {u : Value} (h : Ra w G c u) (hl : c.leaf = true) : u.oneCell' = true ∧ u.cells = #[u] := by
  cases h with
  | d v u h => exact h.one hl
  | row id ver h hh => unfold Hdr.val; split <;> exact ⟨rfl, rfl⟩
  | agg cs vs hs hl' hr => simp [AV.leaf] at hl
  | tup cs vs hs hr => simp [AV.leaf] at hl
  | _ => exact ⟨rfl, rfl⟩

/-- The cells of a value of the run. -/
theorem Rd.cells {w : World} {im : Nat → Prop} {x : DV} {v : Value} (h : Rd w im x v) (hl : x.lies = true) : v.cells.size = x.cells.length ∧ ∀ (j : Nat) (c : DV), x.cells[j]? = some c → Rd w im c (v.cells.getD j undef) := by
  cases h with
  | agg cs vs hs hl hr => exact ⟨hs, hr⟩
  | tup cs vs hs hr => simp [DV.lies] at hl
  | _ => refine ⟨rfl, fun j c e => ?_⟩; cases j with
    | zero => simp only [DV.cells, List.getElem?_cons_zero, Option.some.injEq] at e; subst e; first | exact .bool _ | exact .int _ _ | exact .str _ ‹_› | exact .nilFace | exact .face _ _ _ ‹_› | exact .nilPtr | exact .ref _ _ _ _ ‹_› ‹_› ‹_› ‹_› | exact .nilSl | exact .nul _ | exact .slNil _ _ | exact .sl _ _ _ _ _ _ ‹_› ‹_› ‹_› ‹_› ‹_› ‹_› ‹_› ‹_› | exact .nilFn | exact .fn _ _ _ _ _ ‹_› ‹_› ‹_› ‹_›
    | succ n => simp [DV.cells] at e
theorem Ra.cells {w : World} {G : Ctx} {x : AV} {v : Value} (h : Ra w G x v) (hl : x.lies = true) : v.cells.size = x.cells.length ∧ ∀ (j : Nat) (c : AV), x.cells[j]? = some c → Ra w G c (v.cells.getD j undef) := by
  cases h with
  | d v u h =>
    obtain ⟨h1, h2⟩ := h.cells hl
    refine ⟨by simp [AV.cells, h1], fun j c e => ?_⟩
    simp only [AV.cells, List.getElem?_map, Option.map_eq_some_iff] at e
    obtain ⟨y, hy, rfl⟩ := e
    exact .d y _ (h2 j y hy)
  | agg cs vs hs hl hr => exact ⟨hs, hr⟩
  | tup cs vs hs hr => simp [AV.lies] at hl
  | ptr id ver i off h hh hn =>
    refine ⟨rfl, fun j c e => ?_⟩
    cases j with
    | zero => simp only [AV.cells, List.getElem?_cons_zero, Option.some.injEq] at e; subst e; exact .ptr id ver i off h hh hn
    | succ n => simp [AV.cells] at e
  | row id ver h hh =>
    have : h.val.cells = #[h.val] := by unfold Hdr.val; split <;> rfl
    rw [this]
    refine ⟨rfl, fun j c e => ?_⟩
    cases j with
    | zero => simp only [AV.cells, List.getElem?_cons_zero, Option.some.injEq] at e; subst e; exact .row id ver h hh
    | succ n => simp [AV.cells] at e
  | fn f first caps us vs h1 h2 r1 r2 =>
    refine ⟨rfl, fun j c e => ?_⟩
    cases j with
    | zero => simp only [AV.cells, List.getElem?_cons_zero, Option.some.injEq] at e; subst e; exact .fn f first caps us vs h1 h2 r1 r2
    | succ n => simp [AV.cells] at e

/-- Data out of a value, if it is nothing else. -/
def AV.toD : AV → Option DV
  | .d v => some v
  | _ => none
def toDs : List AV → Option (List DV)
  | [] => some []
  | x :: xs => match x.toD, toDs xs with
    | some y, some ys => some (y :: ys)
    | _, _ => none
theorem toD_some {x : AV} {y : DV} (h : x.toD = some y) : x = .d y := by
  cases x <;> simp [AV.toD] at h
  rw [h]
theorem toDs_some {xs : List AV} {ys : List DV} (h : toDs xs = some ys) : xs = ys.map .d := by
  induction xs generalizing ys with
  | nil => simp [toDs] at h; subst h; rfl
  | cons x xs ih =>
    simp only [toDs] at h
    split at h
    · rename_i y ys' h1 h2
      simp only [Option.some.injEq] at h
      subst h
      rw [toD_some h1, ih h2]; rfl
    · cases h
@[simp] theorem toDs_map (ys : List DV) : toDs (ys.map .d) = some ys := by
  induction ys with
  | nil => rfl
  | cons y ys ih => simp [toDs, AV.toD, ih]

def mkAgg (cs : List AV) : AV := match toDs cs with
  | some ds => .d (.agg ds)
  | none => .agg cs
def mkTup (cs : List AV) : AV := match toDs cs with
  | some ds => .d (.tup ds)
  | none => .tup cs

theorem Ra.of_d {w : World} {G : Ctx} {x : DV} {v : Value} (h : Ra w G (.d x) v) : Rd w G.im x v := by cases h; assumption

theorem Ra.mkAgg {w : World} {G : Ctx} {cs : List AV} {vs : Array Value} (hs : vs.size = cs.length) (hl : ∀ c ∈ cs, c.leaf = true) (hr : ∀ (j : Nat) (c : AV), cs[j]? = some c → Ra w G c (vs.getD j undef)) : Ra w G (mkAgg cs) (.agg vs) := by
  unfold Sv.mkAgg
  split
  · rename_i ds h
    have e := toDs_some h
    subst e
    refine .d _ _ (.agg ds vs (by simpa using hs) (fun c hc => hl (.d c) (List.mem_map.2 ⟨c, hc, rfl⟩)) fun j c hj => ?_)
    exact (hr j (.d c) (by simp [hj])).of_d
  · exact .agg cs vs hs hl hr
theorem Ra.mkTup {w : World} {G : Ctx} {cs : List AV} {vs : Array Value} (hs : vs.size = cs.length) (hr : ∀ (j : Nat) (c : AV), cs[j]? = some c → Ra w G c (vs.getD j undef)) : Ra w G (mkTup cs) (.tuple vs) := by
  unfold Sv.mkTup
  split
  · rename_i ds h
    have e := toDs_some h
    subst e
    refine .d _ _ (.tup ds vs (by simpa using hs) fun j c hj => ?_)
    exact (hr j (.d c) (by simp [hj])).of_d
  · exact .tup cs vs hs hr

/-- The cells that lie from an address on. -/
def At (w : World) (G : Ctx) (a : Addr) (cs : List AV) : Prop :=
  a.spot = none ∧ (∀ c ∈ cs, c.leaf = true) ∧ ∀ (j : Nat) (c : AV), cs[j]? = some c → ∃ u, w.cell? ⟨a.block, a.off + j, none⟩ = some u ∧ Ra w G c u

theorem add_at (a : Addr) (h : a.spot = none) (j : Nat) : a.add j = ⟨a.block, a.off + j, none⟩ := by
  cases a; simp only at h; subst h; unfold Addr.add; split <;> simp_all

theorem At.drop {w : World} {G : Ctx} {a : Addr} {cs : List AV} (h : At w G a cs) (k : Nat) : At w G ⟨a.block, a.off + k, none⟩ (cs.drop k) := by
  refine ⟨rfl, fun c hc => h.2.1 c (List.mem_of_mem_drop hc), fun j c e => ?_⟩
  rw [List.getElem?_drop] at e
  obtain ⟨u, hu, hr⟩ := h.2.2 _ _ e
  exact ⟨u, by rw [Nat.add_assoc]; exact hu, hr⟩
theorem At.take {w : World} {G : Ctx} {a : Addr} {cs : List AV} (h : At w G a cs) (k : Nat) : At w G a (cs.take k) := by
  refine ⟨h.1, fun c hc => h.2.1 c (List.mem_of_mem_take hc), fun j c e => ?_⟩
  rw [List.getElem?_take] at e
  split at e
  · exact h.2.2 _ _ e
  · cases e

section
variable {P : Program} {w : World} {G : Ctx}

theorem At.load {a : Addr} {cs : List AV} (h : At w G a cs) : ∃ vs : Array Value, (loadCells a cs.length).run P w = .ok vs w ∧ vs.size = cs.length ∧ ∀ (j : Nat) (c : AV), cs[j]? = some c → Ra w G c (vs.getD j undef) := by
  let f : Nat → Value := fun j => (w.cell? ⟨a.block, a.off + j, none⟩).getD undef
  have hf : ∀ j, j < cs.length → w.cell? (a.add j) = some (f j) := by
    intro j hj
    obtain ⟨u, hu, _⟩ := h.2.2 j _ (List.getElem?_eq_getElem hj)
    rw [add_at a h.1, hu]
    simp [f, hu]
  refine ⟨_, run_loadCells w a cs.length f hf, by simp, fun j c e => ?_⟩
  obtain ⟨u, hu, hr⟩ := h.2.2 j c e
  have hj : j < cs.length := (List.getElem?_eq_some_iff.1 e).1
  have : f j = u := by simp [f, hu]
  simpa [Array.getD, hj, this] using hr
end
end Go.Sv
