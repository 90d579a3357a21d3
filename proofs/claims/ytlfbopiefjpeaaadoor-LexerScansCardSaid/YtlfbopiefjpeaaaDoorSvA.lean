/- The abstract values: what a value of the run is, read without addresses; and when a value of the run reads as one. -/
import Derived.Orders
import Derived.LoopN
import Derived.KernelRfl
import GoSem.ClaimData
set_option linter.unusedSimpArgs false
set_option linter.unusedVariables false
namespace Go.Sv
open Go

/-- Two lists, element by element. -/
inductive All2 {α β : Type} (R : α → β → Prop) : List α → List β → Prop
  | nil : All2 R [] []
  | cons {a : α} {b : β} {as : List α} {bs : List β} (h : R a b) (t : All2 R as bs) : All2 R (a :: as) (b :: bs)

/-- Data: a value of the run without any place that somebody may still write. -/
inductive DV where
  | bool (b : Bool)
  | int (k : IntKind) (n : Int)
  | str (s : ByteArray)
  | nilFace
  | face (t : TypeId) (v : DV)
  | nilPtr
  | ref (v : DV)
  | nilSl
  | nul
  | sl (esz : Nat) (xs : List DV)
  | nilFn
  | fn (f : FuncId) (first caps : List DV)
  | agg (cs : List DV)
  | tup (vs : List DV)

/-- The cells of a value. -/
def DV.cells : DV → List DV
  | .agg cs => cs
  | v => [v]

/-- Is it the value of one cell? -/
def DV.leaf : DV → Bool
  | .agg _ | .tup _ => false
  | _ => true

/-- Can it lie in memory? -/
def DV.lies : DV → Bool
  | .agg cs => cs.all DV.leaf
  | .tup _ => false
  | _ => true

/-- Has it no slice, no pointer and no function in it? -/
def DV.flat : DV → Bool
  | .bool _ | .int .. | .str _ | .nilFace | .nilPtr | .nilSl | .nilFn => true
  | .face _ v => v.flat
  | .agg cs => flatL cs
  | .tup cs => flatL cs
  | _ => false
  where flatL : List DV → Bool
  | [] => true
  | v :: vs => v.flat && flatL vs

/-- A value of the run: data, or a place of the call's own (an object's number), or what is made of such. -/
inductive AV where
  | d (v : DV)
  | ptr (id ver i off : Nat)
  | row (id ver : Nat)
  | fn (f : FuncId) (first caps : List AV)
  | agg (cs : List AV)
  | tup (vs : List AV)

abbrev AV.int (k : IntKind) (n : Int) : AV := .d (.int k n)
abbrev AV.bool (b : Bool) : AV := .d (.bool b)
abbrev AV.str (s : ByteArray) : AV := .d (.str s)
/-- What stands where nothing has been written. -/
abbrev AV.un : AV := .d (.tup [])

def AV.cells : AV → List AV
  | .d v => v.cells.map .d
  | .agg cs => cs
  | v => [v]
def AV.leaf : AV → Bool
  | .d v => v.leaf
  | .ptr .. | .row .. | .fn .. => true
  | _ => false
def AV.lies : AV → Bool
  | .d v => v.lies
  | .agg cs => cs.all AV.leaf
  | .ptr .. | .row .. | .fn .. => true
  | _ => false

/-- Where an object lies: its block, how many cells an element has; of a row: its length, its capacity; is it a row without memory (and which address does it bear)? -/
structure Hdr where
  blk : Nat
  esz : Nat
  len : Nat
  cap : Nat
  isNil : Bool
  at0 : Option Addr

def Hdr.val (h : Hdr) : Value := if h.isNil then .slice h.at0 0 0 else .slice (some ⟨h.blk, 0, none⟩) h.len h.cap

/-- The ghost: the blocks that nobody writes any more; where the objects lie. -/
structure Ctx where
  im : Nat → Prop
  hd : Nat → Nat → Option Hdr

inductive Rd (w : World) (im : Nat → Prop) : DV → Value → Prop
  | bool (b : Bool) : Rd w im (.bool b) (.bool b)
  | int (k : IntKind) (n : Int) : Rd w im (.int k n) (.int k n)
  | str (s : ByteArray) (h : s.size ≤ maxLen) : Rd w im (.str s) (.string s)
  | nilFace : Rd w im .nilFace .nilIface
  | face (t : TypeId) (v : DV) (u : Value) (h : Rd w im v u) : Rd w im (.face t v) (.iface t u)
  | nilPtr : Rd w im .nilPtr (.pointer none)
  | ref (v : DV) (b o : Nat) (us : Nat → Value) (hl : v.lies = true) (hb : im b)
      (hc : ∀ (j : Nat) (c : DV), v.cells[j]? = some c → w.cell? ⟨b, o + j, none⟩ = some (us j))
      (hr : ∀ (j : Nat) (c : DV), v.cells[j]? = some c → Rd w im c (us j)) : Rd w im (.ref v) (.pointer (some ⟨b, o, none⟩))
  | nilSl : Rd w im .nilSl (.slice none 0 0)
  | nul (a : Option Addr) : Rd w im .nul (.slice a 0 0)
  | slNil (e : Nat) (a : Option Addr) : Rd w im (.sl e []) (.slice a 0 0)
  | sl (e : Nat) (xs : List DV) (b o cap : Nat) (us : Nat → Value) (he0 : 0 < e) (hb : xs ≠ [] → im b) (hn : xs.length ≤ cap) (hm : xs.length ≤ 281474976710656)
      (he : ∀ x ∈ xs, x.cells.length = e) (hl : ∀ x ∈ xs, x.lies = true)
      (hc : ∀ (i j : Nat) (x c : DV), xs[i]? = some x → x.cells[j]? = some c → w.cell? ⟨b, o + i * e + j, none⟩ = some (us (i * e + j)))
      (hr : ∀ (i j : Nat) (x c : DV), xs[i]? = some x → x.cells[j]? = some c → Rd w im c (us (i * e + j))) : Rd w im (.sl e xs) (.slice (some ⟨b, o, none⟩) xs.length cap)
  | nilFn : Rd w im .nilFn .nilFunc
  | fn (f : FuncId) (first caps : List DV) (us vs : Array Value) (h1 : us.size = first.length) (h2 : vs.size = caps.length)
      (r1 : ∀ (j : Nat) (c : DV), first[j]? = some c → Rd w im c (us.getD j undef)) (r2 : ∀ (j : Nat) (c : DV), caps[j]? = some c → Rd w im c (vs.getD j undef)) : Rd w im (.fn f first caps) (.func (.func f) us vs)
  | agg (cs : List DV) (vs : Array Value) (hs : vs.size = cs.length) (hl : ∀ c ∈ cs, c.leaf = true) (hr : ∀ (j : Nat) (c : DV), cs[j]? = some c → Rd w im c (vs.getD j undef)) : Rd w im (.agg cs) (.agg vs)
  | tup (cs : List DV) (vs : Array Value) (hs : vs.size = cs.length) (hr : ∀ (j : Nat) (c : DV), cs[j]? = some c → Rd w im c (vs.getD j undef)) : Rd w im (.tup cs) (.tuple vs)

inductive Ra (w : World) (G : Ctx) : AV → Value → Prop
  | d (v : DV) (u : Value) (h : Rd w G.im v u) : Ra w G (.d v) u
  | ptr (id ver i off : Nat) (h : Hdr) (hh : G.hd id ver = some h) (hn : h.isNil = false) : Ra w G (.ptr id ver i off) (.pointer (some ⟨h.blk, i * h.esz + off, none⟩))
  | row (id ver : Nat) (h : Hdr) (hh : G.hd id ver = some h) : Ra w G (.row id ver) h.val
  | fn (f : FuncId) (first caps : List AV) (us vs : Array Value) (h1 : us.size = first.length) (h2 : vs.size = caps.length)
      (r1 : ∀ (j : Nat) (c : AV), first[j]? = some c → Ra w G c (us.getD j undef)) (r2 : ∀ (j : Nat) (c : AV), caps[j]? = some c → Ra w G c (vs.getD j undef)) : Ra w G (.fn f first caps) (.func (.func f) us vs)
  | agg (cs : List AV) (vs : Array Value) (hs : vs.size = cs.length) (hl : ∀ c ∈ cs, c.leaf = true) (hr : ∀ (j : Nat) (c : AV), cs[j]? = some c → Ra w G c (vs.getD j undef)) : Ra w G (.agg cs) (.agg vs)
  | tup (cs : List AV) (vs : Array Value) (hs : vs.size = cs.length) (hr : ∀ (j : Nat) (c : AV), cs[j]? = some c → Ra w G c (vs.getD j undef)) : Ra w G (.tup cs) (.tuple vs)

theorem cell_of_block {w w' : World} {b o : Nat} (h : w'.heap[b]? = w.heap[b]?) : w'.cell? ⟨b, o, none⟩ = w.cell? ⟨b, o, none⟩ := by
  simp only [World.cell?, h]

/-- Data live on where what nobody writes is as it was. -/
theorem Rd.mono {w w' : World} {im im' : Nat → Prop} {x : DV} {v : Value} (h : Rd w im x v) (hw : ∀ b, im b → w'.heap[b]? = w.heap[b]?) (hi : ∀ b, im b → im' b) : Rd w' im' x v := by
  induction h with
  | bool b => exact .bool b
  | int k n => exact .int k n
  | str s h => exact .str s h
  | nilFace => exact .nilFace
  | face t v u _ ih => exact .face t v u ih
  | nilPtr => exact .nilPtr
  | ref v b o us hl hb hc hr ih => exact .ref v b o us hl (hi b hb) (fun j c e => (cell_of_block (hw b hb)).trans (hc j c e)) ih
  | nilSl => exact .nilSl
  | nul a => exact .nul a
  | slNil e a => exact .slNil e a
  | sl e xs b o cap us he0 hb hn hm he hl hc hr ih =>
    exact .sl e xs b o cap us he0 (fun hx => hi b (hb hx)) hn hm he hl
      (fun i j x c e1 e2 => (cell_of_block (hw b (hb (by intro e; subst e; simp at e1)))).trans (hc i j x c e1 e2)) ih
  | nilFn => exact .nilFn
  | fn f first caps us vs h1 h2 r1 r2 ih1 ih2 => exact .fn f first caps us vs h1 h2 ih1 ih2
  | agg cs vs hs hl hr ih => exact .agg cs vs hs hl ih
  | tup cs vs hs hr ih => exact .tup cs vs hs ih

def Ctx.le (G G' : Ctx) : Prop := (∀ b, G.im b → G'.im b) ∧ ∀ id ver h, G.hd id ver = some h → G'.hd id ver = some h
theorem Ctx.le_refl (G : Ctx) : G.le G := ⟨fun _ h => h, fun _ _ _ h => h⟩
theorem Ctx.le_trans {G1 G2 G3 : Ctx} (h : G1.le G2) (h' : G2.le G3) : G1.le G3 := ⟨fun b hb => h'.1 b (h.1 b hb), fun i n x hx => h'.2 i n x (h.2 i n x hx)⟩

theorem Ra.mono {w w' : World} {G G' : Ctx} {x : AV} {v : Value} (h : Ra w G x v) (hw : ∀ b, G.im b → w'.heap[b]? = w.heap[b]?) (hi : G.le G') : Ra w' G' x v := by
  induction h with
  | d v u h => exact .d v u (h.mono hw hi.1)
  | ptr id ver i off h hh hn => exact .ptr id ver i off h (hi.2 _ _ _ hh) hn
  | row id ver h hh => exact .row id ver h (hi.2 _ _ _ hh)
  | fn f first caps us vs h1 h2 r1 r2 ih1 ih2 => exact .fn f first caps us vs h1 h2 ih1 ih2
  | agg cs vs hs hl hr ih => exact .agg cs vs hs hl ih
  | tup cs vs hs hr ih => exact .tup cs vs hs ih

/-- An object of the call's own: a variable in memory (one element), or a row of elements. Its version: how often it has been appended to. -/
structure Obj where
  frozen : Bool
  ver : Nat
  esz : Nat
  elems : List AV

/-- The objects by their numbers. -/
abbrev Hf := Nat → Option Obj

structure ObjOk (w : World) (G : Ctx) (id : Nat) (o : Obj) (h : Hdr) : Prop where
  hd : G.hd id o.ver = some h
  esz : h.esz = o.esz
  pos : 0 < o.esz
  len : h.len = o.elems.length
  cap : h.len ≤ h.cap
  big : h.len ≤ 281474976710656
  nil : h.isNil = true → o.elems = []
  cells : h.isNil = false → ∃ vs t, w.heap[h.blk]? = some (.cells vs t (0, 0)) ∧ h.cap * h.esz ≤ vs.size ∧
    ∀ (i j : Nat) (x c : AV), o.elems[i]? = some x → x.cells[j]? = some c → Ra w G c (vs.getD (i * h.esz + j) undef)
  size : ∀ x ∈ o.elems, x.cells.length = o.esz
  lies : ∀ x ∈ o.elems, x.lies = true
  own : h.isNil = false → o.frozen = false → ¬ G.im h.blk
  frz : h.isNil = false → o.frozen = true → G.im h.blk
  last : ∀ n, o.ver < n → G.hd id n = none

/-- The blocks that the objects own. -/
def Own (G : Ctx) (H : Hf) (b : Nat) : Prop := ∃ id o h, H id = some o ∧ o.frozen = false ∧ G.hd id o.ver = some h ∧ h.isNil = false ∧ h.blk = b

structure RelH (w : World) (G : Ctx) (H : Hf) : Prop where
  ok : ∀ id o, H id = some o → ∃ h, ObjOk w G id o h
  apart : ∀ i j oi oj hi hj, H i = some oi → H j = some oj → oi.frozen = false → oj.frozen = false → G.hd i oi.ver = some hi → G.hd j oj.ver = some hj → hi.isNil = false → hj.isNil = false → hi.blk = hj.blk → i = j
  none : ∀ id n, H id = none → G.hd id n = none
  old : ∀ b, G.im b → b < w.heap.size

/-- How the world goes on: only what the objects own may turn. -/
structure Went (w : World) (G : Ctx) (H : Hf) (w' : World) (G' : Ctx) (H' : Hf) : Prop where
  le : G.le G'
  size : w.heap.size ≤ w'.heap.size
  keep : ∀ b, b < w.heap.size → ¬ Own G H b → w'.heap[b]? = w.heap[b]?
  own : ∀ b, Own G' H' b → w.heap.size ≤ b ∨ Own G H b
  im : ∀ b, b < w.heap.size → G'.im b → G.im b ∨ Own G H b
  os : w'.os = w.os
  tape : w'.tape = w.tape
  output : w'.output = w.output

theorem Went.refl (w : World) (G : Ctx) (H : Hf) : Went w G H w G H :=
  ⟨Ctx.le_refl G, Nat.le_refl _, fun _ _ _ => rfl, fun _ h => .inr h, fun _ _ h => .inl h, rfl, rfl, rfl⟩

theorem RelH.at_ {w : World} {G : Ctx} {H : Hf} (h : RelH w G H) {id : Nat} {o : Obj} {hd : Hdr} (h1 : H id = some o) (h2 : G.hd id o.ver = some hd) : ObjOk w G id o hd := by
  obtain ⟨hd', ok⟩ := h.ok id o h1
  have : hd' = hd := by have := ok.hd; rw [h2] at this; exact (Option.some.inj this).symm
  subst this
  exact ok

theorem RelH.own_lt {w : World} {G : Ctx} {H : Hf} (h : RelH w G H) {b : Nat} (hb : Own G H b) : b < w.heap.size := by
  obtain ⟨id, o, hd, h1, h2, h3, h4, rfl⟩ := hb
  obtain ⟨vs, t, hc, _⟩ := (h.at_ h1 h3).cells h4
  exact (Array.getElem?_eq_some_iff.1 hc).1

theorem RelH.own_im {w : World} {G : Ctx} {H : Hf} (h : RelH w G H) {b : Nat} (hb : Own G H b) : ¬ G.im b := by
  obtain ⟨id, o, hd, h1, h2, h3, h4, rfl⟩ := hb
  exact (h.at_ h1 h3).own h4 h2

theorem Went.trans {w1 w2 w3 : World} {G1 G2 G3 : Ctx} {H1 H2 H3 : Hf} (h : Went w1 G1 H1 w2 G2 H2) (h' : Went w2 G2 H2 w3 G3 H3) : Went w1 G1 H1 w3 G3 H3 := by
  refine ⟨Ctx.le_trans h.le h'.le, Nat.le_trans h.size h'.size, ?_, ?_, ?_, h'.os.trans h.os, h'.tape.trans h.tape, h'.output.trans h.output⟩
  · intro b hb hn
    have hn2 : ¬ Own G2 H2 b := fun ho => by
      rcases h.own b ho with h1 | h1
      · omega
      · exact hn h1
    exact (h'.keep b (Nat.lt_of_lt_of_le hb h.size) hn2).trans (h.keep b hb hn)
  · intro b ho
    rcases h'.own b ho with h1 | h1
    · exact .inl (Nat.le_trans h.size h1)
    · exact h.own b h1
  · intro b hb hi
    rcases h'.im b (Nat.lt_of_lt_of_le hb h.size) hi with h1 | h1
    · exact h.im b hb h1
    · rcases h.own b h1 with h2 | h2
      · omega
      · exact .inr h2

/-- What nobody writes is as it was. -/
theorem Went.im_keep {w w' : World} {G G' : Ctx} {H H' : Hf} (h : Went w G H w' G' H') (hr : RelH w G H) (b : Nat) (hb : G.im b) : w'.heap[b]? = w.heap[b]? :=
  h.keep b (hr.old b hb) fun ho => hr.own_im ho hb

theorem Ra.went {w w' : World} {G G' : Ctx} {H H' : Hf} {x : AV} {v : Value} (hx : Ra w G x v) (hr : RelH w G H) (h : Went w G H w' G' H') : Ra w' G' x v :=
  hx.mono (h.im_keep hr) h.le

end Go.Sv
