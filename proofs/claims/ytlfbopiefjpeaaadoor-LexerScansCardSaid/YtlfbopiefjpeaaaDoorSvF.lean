/- How the operations act on abstract values, part 4: operations that look at values alone. -/
import Derived.Test.YtlfbopiefjpeaaaDoorSvE
set_option linter.unusedSimpArgs false
set_option linter.unusedVariables false
namespace Go.Sv
open Go

section
variable {P : Program} {w : World} {G : Ctx} {H : Hf}

theorem Ra.int_inv {k : IntKind} {n : Int} {u : Value} (h : Ra w G (.d (.int k n)) u) : u = .int k n := by have := h.of_d; cases this; rfl
theorem Ra.bool_inv {b : Bool} {u : Value} (h : Ra w G (.d (.bool b)) u) : u = .bool b := by have := h.of_d; cases this; rfl
theorem Ra.str_inv {s : ByteArray} {u : Value} (h : Ra w G (.d (.str s)) u) : u = .string s ∧ s.size ≤ maxLen := by have := h.of_d; cases this; exact ⟨rfl, ‹_›⟩
theorem Ra.un_inv {u : Value} (h : Ra w G .un u) : u = undef := by
  have := h.of_d
  cases this with
  | tup cs vs hs hr => simp at hs; subst hs; rfl
theorem Ra.un : Ra w G .un undef := .d _ _ (.tup [] #[] rfl fun j c e => by simp at e)
theorem Ra.int {k : IntKind} {n : Int} : Ra w G (.d (.int k n)) (.int k n) := .d _ _ (.int k n)
theorem Ra.bool {b : Bool} : Ra w G (.d (.bool b)) (.bool b) := .d _ _ (.bool b)

/-- What lies at a field. -/
def subDV (P : Program) (t : TypeId) (off : Nat) (cs : List DV) : Option DV :=
  if (P.underlying t).isSome then
    match szT P t with
    | some n => if 0 < n then if off + n ≤ cs.length then
        if isAggT P t then some (.agg ((cs.drop off).take n)) else (cs.drop off).head? else none else none
    | none => none
  else none

def fieldOf (P : Program) (s : TypeId) (f : Nat) : Option (TypeId × Nat) := match P.underlying s with
  | some (.struct fs) => match fs[f]? with
    | some x => some (x.type, x.offset)
    | none => none
  | _ => none

def aFieldAddr (P : Program) (s : TypeId) (x : AV) (f : Nat) : Option AV := match fieldOf P s f with
  | some (t, off) => match x with
    | .ptr id ver i o => match szT P t with
      | some n => if 0 < n then some (.ptr id ver i (o + off)) else none
      | none => none
    | .d (.ref v) => match subDV P t off v.cells with
      | some y => some (.d (.ref y))
      | none => none
    | _ => none
  | none => none

theorem run_fieldAt {s : TypeId} {f : Nat} {t : TypeId} {off n : Nat} (hf : fieldOf P s f = some (t, off)) (hn : szT P t = some n) (h0 : 0 < n) (a : Addr) :
    (Instr.fieldAt s (.pointer (some a)) f).run P w = .ok (.pointer (some (a.add off))) w := by
  unfold fieldOf at hf
  split at hf
  · rename_i fs hu
    split at hf
    · rename_i x hx
      simp only [Option.some.injEq, Prod.mk.injEq] at hf
      obtain ⟨rfl, rfl⟩ := hf
      have hn0 : n ≠ 0 := by omega
      simp [Instr.fieldAt, run_underlying hu, hx, Instr.sureAddr, fieldPlace, run_sizeOf hn, hn0]
    · cases hf
  · cases hf

theorem ref_sub {v : DV} {b o : Nat} {us : Nat → Value} (hl : v.lies = true) (hc : ∀ (j : Nat) (c : DV), v.cells[j]? = some c → w.cell? ⟨b, o + j, none⟩ = some (us j)) (hr : ∀ (j : Nat) (c : DV), v.cells[j]? = some c → Rd w G.im c (us j)) (hb : G.im b)
    {t : TypeId} {off : Nat} {y : DV} (h : subDV P t off v.cells = some y) : Ra w G (.d (.ref y)) (.pointer (some ((⟨b, o, none⟩ : Addr).add off))) := by
  unfold subDV at h
  rw [add_at _ rfl]
  split at h
  · split at h
    · rename_i n hn
      split at h
      · split at h
        · rename_i hle
          split at h
          · simp only [Option.some.injEq] at h
            subst h
            refine .d _ _ (.ref _ b (o + off) (fun j => us (off + j)) (List.all_eq_true.2 fun c hc' => lies_leaf hl c (List.mem_of_mem_drop (List.mem_of_mem_take hc'))) hb (fun j c e => ?_) fun j c e => ?_)
            all_goals
              have e2 : (List.take n (List.drop off v.cells))[j]? = some c := e
              rw [List.getElem?_take] at e2
              split at e2
              · rw [List.getElem?_drop] at e2
                first
                  | exact hr _ c e2
                  | (have := hc _ c e2; rwa [← Nat.add_assoc] at this)
              · cases e2
          · rw [List.head?_eq_getElem?, List.getElem?_drop] at h
            have hy := lies_leaf hl y (List.mem_of_getElem? h)
            have hyl : y.lies = true := by cases y <;> simp_all [DV.leaf, DV.lies]
            refine .d _ _ (.ref _ b (o + off) (fun j => us (off + j)) hyl hb (fun j c e => ?_) fun j c e => ?_)
            all_goals
              rw [leaf_cells hy] at e
              match j, e with
              | 0, e =>
                simp only [List.getElem?_cons_zero, Option.some.injEq] at e
                subst e
                first
                  | exact hr _ _ h
                  | exact hc _ _ h
              | j + 1, e => simp at e
        · cases h
      · cases h
    · cases h
  · cases h

theorem subDV_pos {t : TypeId} {off : Nat} {cs : List DV} {y : DV} (h : subDV P t off cs = some y) : ∃ n, szT P t = some n ∧ 0 < n := by
  unfold subDV at h
  split at h
  · split at h
    · rename_i n hn
      split at h
      · exact ⟨n, hn, by assumption⟩
      · cases h
    · cases h
  · cases h

theorem aFieldAddr_snd {s : TypeId} {x : AV} {u : Value} (hx : Ra w G x u) {f : Nat} {v : AV} (h : aFieldAddr P s x f = some v) : SndV P w G (Instr.fieldAt s u f) v := by
  unfold aFieldAddr at h
  split at h
  · rename_i t off hf
    split at h
    · rename_i id ver i o
      split at h
      · rename_i n hn
        split at h
        · rename_i h0
          simp only [Option.some.injEq] at h
          subst h
          cases hx with
          | ptr _ _ _ _ hd hh hnil =>
            refine ⟨_, run_fieldAt hf hn h0 _, ?_⟩
            rw [add_at _ rfl]
            have := Ra.ptr (w := w) id ver i (o + off) hd hh hnil
            simpa [Nat.add_assoc] using this
        · cases h
      · cases h
    · rename_i v'
      split at h
      · rename_i y hy
        simp only [Option.some.injEq] at h
        subst h
        obtain ⟨n, hn, h0⟩ := subDV_pos hy
        have hd := hx.of_d
        cases hd with
        | ref _ b o us hl hb hc hr => exact ⟨_, run_fieldAt hf hn h0 _, ref_sub hl hc hr hb hy⟩
      · cases h
    · cases h
  · cases h

/-- A part of a struct or of an array that is a value. -/
def aPart (P : Program) (t : TypeId) (x : AV) (off : Nat) : Option AV :=
  if x.isAgg then loadAs P t (x.cells.drop off) else none
theorem isAgg_lies {x : AV} {u : Value} (hx : Ra w G x u) (h : x.isAgg = true) : x.lies = true ∧ ∃ vs, u = .agg vs := by
  cases hx with
  | d v u hd => cases hd <;> simp_all [AV.isAgg, AV.lies, DV.lies]
  | agg cs vs hs hl hr => exact ⟨List.all_eq_true.2 hl, vs, rfl⟩
  | _ => simp [AV.isAgg] at h
theorem run_part {t : TypeId} {x : AV} {vs : Array Value} (hx : Ra w G x (.agg vs)) {off : Nat} {v : AV} (h : aPart P t x off = some v) : SndV P w G (part t vs off) v := by
  unfold aPart at h
  split at h
  · rename_i ha
    obtain ⟨hl, _⟩ := isAgg_lies hx ha
    obtain ⟨h1, h2⟩ := hx.cells hl
    simp only [Value.cells] at h1 h2
    unfold loadAs at h
    split at h
    · rename_i hu
      split at h
      · rename_i hg
        split at h
        · rename_i n hn
          split at h
          · rename_i hle
            simp only [Option.some.injEq] at h
            subst h
            simp only [List.length_drop] at hle
            refine ⟨.agg (vs.extract off (off + n)), by simp only [part, Sem.run_bind, run_isAgg hu, Result.andThen_ok, hg, if_true, run_sizeOf hn, Sem.run_pure], Ra.mkAgg ?_ ?_ ?_⟩
            · simp; omega
            · intro c hc; exact alies_leaf hl c (List.mem_of_mem_drop (List.mem_of_mem_take hc))
            · intro j c e
              rw [List.getElem?_take] at e
              split at e
              · rename_i hj
                rw [List.getElem?_drop] at e
                have := h2 _ c e
                have hk : (vs.extract off (off + n)).getD j undef = vs.getD (off + j) undef := by
                  simp only [Array.getD_eq_getD_getElem?, Array.getElem?_extract]
                  have : off + j < vs.size := by rw [h1]; exact (List.getElem?_eq_some_iff.1 e).1
                  rw [if_pos (by omega)]
                rw [hk]; exact this
              · cases e
          · cases h
        · cases h
      · rename_i hg
        rw [List.head?_eq_getElem?, List.getElem?_drop] at h
        have hj := (List.getElem?_eq_some_iff.1 h).1
        have := h2 _ v h
        refine ⟨vs.getD off undef, ?_, by simpa using this⟩
        have hv : vs[off]? = some (vs.getD off undef) := getD_of (by rw [h1]; simpa using hj)
        simp only [part, Sem.run_bind, run_isAgg hu, Result.andThen_ok, hg, Bool.false_eq_true, if_false, hv, Sem.run_pure]
    · cases h
  · cases h

def aField (P : Program) (s : TypeId) (x : AV) (f : Nat) : Option AV := match fieldOf P s f with
  | some (t, off) => aPart P t x off
  | none => none
theorem aField_snd {s : TypeId} {x : AV} {u : Value} (hx : Ra w G x u) {f : Nat} {v : AV} (h : aField P s x f = some v) : SndV P w G (Instr.field s u f) v := by
  unfold aField at h
  split at h
  · rename_i t off hf
    have ha : x.isAgg = true := by unfold aPart at h; split at h; assumption; cases h
    obtain ⟨_, vs, rfl⟩ := isAgg_lies hx ha
    obtain ⟨y, h1, h2⟩ := run_part hx h
    refine ⟨y, ?_, h2⟩
    unfold fieldOf at hf
    split at hf
    · rename_i fs hu
      split at hf
      · rename_i z hz
        simp only [Option.some.injEq, Prod.mk.injEq] at hf
        obtain ⟨rfl, rfl⟩ := hf
        simp [Instr.field, run_underlying hu, hz, asAgg, h1]
      · cases hf
    · cases hf
  · cases h

/-- The elements of a slice (and the objects that were looked at). -/
def elems (H : Hf) : AV → Option (List AV × Option Nat × List Nat)
  | .d .nilSl | .d .nul => some ([], none, [])
  | .d (.sl e xs) => some (xs.map .d, some e, [])
  | .row id ver => match H id with
    | some o => if o.ver = ver then some (o.elems, some o.esz, [id]) else none
    | none => none
  | _ => none

/-- A slice of the run. -/
theorem elems_len (hr : RelH w G H) {x : AV} {u : Value} (hx : Ra w G x u) {xs : List AV} {e : Option Nat} {rd : List Nat} (h : elems H x = some (xs, e, rd)) :
    ∃ a c, u = .slice a xs.length c ∧ xs.length ≤ c ∧ xs.length ≤ 281474976710656 ∧ (∀ y ∈ xs, y.lies = true ∧ some y.cells.length = e) ∧ (xs ≠ [] → ∃ b o, a = some ⟨b, o, none⟩ ∧
      ∀ (i : Nat) (y : AV), xs[i]? = some y → At w G ⟨b, o + i * y.cells.length, none⟩ y.cells) := by
  unfold elems at h
  split at h
  · simp only [Option.some.injEq, Prod.mk.injEq] at h
    obtain ⟨rfl, rfl, rfl⟩ := h
    have := hx.of_d
    cases this
    exact ⟨_, _, rfl, Nat.le_refl _, by simp, fun y hy => (by cases hy), fun h => absurd rfl h⟩
  · simp only [Option.some.injEq, Prod.mk.injEq] at h
    obtain ⟨rfl, rfl, rfl⟩ := h
    have := hx.of_d
    cases this
    exact ⟨_, _, rfl, Nat.le_refl _, by simp, fun y hy => (by cases hy), fun h => absurd rfl h⟩
  · rename_i e' xs'
    simp only [Option.some.injEq, Prod.mk.injEq] at h
    obtain ⟨rfl, rfl, rfl⟩ := h
    have := hx.of_d
    cases this with
    | slNil => exact ⟨_, _, rfl, Nat.le_refl _, by simp, fun y hy => (by cases hy), fun h => absurd rfl h⟩
    | sl _ _ b o cap us he0 hb hn hm he hl hc hrr =>
      refine ⟨some ⟨b, o, none⟩, cap, by simp, by simpa using hn, by simpa using hm, fun y hy => ?_, fun _ => ⟨b, o, rfl, fun i y e => ?_⟩⟩
      · obtain ⟨z, hz, rfl⟩ := List.mem_map.1 hy
        exact ⟨hl z hz, by simp [AV.cells, he z hz]⟩
      · simp only [List.getElem?_map, Option.map_eq_some_iff] at e
        obtain ⟨z, hz, rfl⟩ := e
        refine ⟨rfl, fun c hc' => alies_leaf (x := .d z) (hl z (List.mem_of_getElem? hz)) c hc', fun j c e2 => ?_⟩
        have hlen : (AV.cells (.d z)).length = e' := by simp [AV.cells, he z (List.mem_of_getElem? hz)]
        simp only [AV.cells, List.getElem?_map, Option.map_eq_some_iff] at e2
        obtain ⟨y2, hy2, rfl⟩ := e2
        refine ⟨_, ?_, .d _ _ (hrr i j z y2 hz hy2)⟩
        have := hc i j z y2 hz hy2
        simpa [hlen] using this
  · rename_i id ver
    split at h
    · rename_i o ho
      split at h
      · rename_i hv
        simp only [Option.some.injEq, Prod.mk.injEq] at h
        obtain ⟨rfl, rfl, rfl⟩ := h
        subst hv
        cases hx with
        | row _ _ hd hh =>
          have ok := hr.at_ ho hh
          unfold Hdr.val
          split
          · rename_i hn
            have := ok.nil hn
            rw [this]
            exact ⟨_, _, rfl, Nat.le_refl _, by simp, fun y hy => (by cases hy), fun h => absurd rfl h⟩
          · rename_i hn
            have hn' : hd.isNil = false := by simpa using hn
            refine ⟨some ⟨hd.blk, 0, none⟩, hd.cap, by rw [ok.len], by rw [← ok.len]; exact ok.cap, by rw [← ok.len]; exact ok.big, fun y hy => ⟨ok.lies y hy, by rw [ok.size y hy]⟩, fun _ => ⟨hd.blk, 0, rfl, fun i y e => ?_⟩⟩
            have := obj_at hr ho hh hn' e
            have hs : y.cells.length = hd.esz := by rw [ok.size y (List.mem_of_getElem? e), ok.esz]
            simpa [hs] using this
      · cases h
    · cases h
  · cases h

/-- The address of an element. -/
def aIndexAddr (P : Program) (H : Hf) (t : TypeId) (x : AV) (ix : AV) : Option (AV × Fx) := match ix with
  | .d (.int _ i) => match P.underlying t with
    | some (.slice e) => match szT P e with
      | some n => match x with
        | .d (.sl n' xs) => if n' = n then if 0 ≤ i then match xs[i.toNat]? with
            | some y => some (.d (.ref y), {})
            | none => none
          else none else none
        | .row id ver => match H id with
          | some o => if o.ver = ver then if o.esz = n then if 0 ≤ i then if i.toNat < o.elems.length then some (.ptr id ver i.toNat 0, { rd := [id] }) else none else none else none else none
          | none => none
        | _ => none
      | none => none
    | some (.array len e) => match szT P e with
      | some n => if 0 ≤ i then if i.toNat < len then if 0 < n then match x with
          | .ptr id ver j off => some (.ptr id ver j (off + i.toNat * n), {})
          | .d (.ref v) => match subDV P e (i.toNat * n) v.cells with
            | some y => some (.d (.ref y), {})
            | none => none
          | _ => none
        else none else none else none
      | none => none
    | _ => none
  | _ => none

theorem aIndexAddr_snd (hr : RelH w G H) {t : TypeId} {x ix : AV} {u ui : Value} (hx : Ra w G x u) (hi : Ra w G ix ui) {v : AV} {fx : Fx} (h : aIndexAddr P H t x ix = some (v, fx)) : SndV P w G (Instr.indexAt t u ui) v ∧ fx.wr = [] := by
  unfold aIndexAddr at h
  split at h
  · rename_i k i
    obtain rfl := hi.int_inv
    split at h
    · rename_i e hu
      split at h
      · rename_i n hn
        split at h
        · rename_i n' xs
          split at h
          · rename_i hnn
            subst hnn
            split at h
            · rename_i h0
              split at h
              · rename_i y hy
                simp only [Option.some.injEq, Prod.mk.injEq] at h
                obtain ⟨rfl, rfl⟩ := h
                refine ⟨?_, rfl⟩
                have hd := hx.of_d
                cases hd with
                | slNil => simp at hy
                | sl _ _ b o cap us he0 hb hn2 hm he hl hc hrr =>
                  have hlt := (List.getElem?_eq_some_iff.1 hy).1
                  refine ⟨.pointer (some ((⟨b, o, none⟩ : Addr).add (i.toNat * n'))), ?_, ?_⟩
                  · have h2 : (0 ≤ i ∧ i < (xs.length : Int)) := ⟨h0, by omega⟩
                    simp [Instr.indexAt, asIntOf, run_underlying hu, h2, run_sizeOf hn]
                  · rw [add_at _ rfl]
                    exact .d _ _ (.ref y b (o + i.toNat * n') (fun j => us (i.toNat * n' + j)) (hl y (List.mem_of_getElem? hy)) (hb (by intro e; subst e; simp at hy)) (fun j c e => hc _ _ y c hy e) fun j c e => hrr _ _ y c hy e)
              · cases h
            · cases h
          · cases h
        · rename_i id ver
          split at h
          · rename_i o ho
            split at h
            · rename_i hv
              split at h
              · rename_i hes
                split at h
                · rename_i h0
                  split at h
                  · rename_i hlt
                    simp only [Option.some.injEq, Prod.mk.injEq] at h
                    obtain ⟨rfl, rfl⟩ := h
                    refine ⟨?_, rfl⟩
                    subst hv
                    cases hx with
                    | row _ _ hd hh =>
                      have ok := hr.at_ ho hh
                      have hn' : hd.isNil = false := by
                        cases hq : hd.isNil with
                        | false => rfl
                        | true => have := ok.nil hq; rw [this] at hlt; simp at hlt
                      have hlen := ok.len
                      have hesz := ok.esz
                      refine ⟨.pointer (some ((⟨hd.blk, 0, none⟩ : Addr).add (i.toNat * n))), ?_, ?_⟩
                      · have h2 : (0 ≤ i ∧ i < (hd.len : Int)) := ⟨h0, by omega⟩
                        simp [Instr.indexAt, asIntOf, run_underlying hu, Hdr.val, hn', h2, run_sizeOf hn]
                      · rw [add_at _ rfl]
                        have := Ra.ptr (w := w) id o.ver i.toNat 0 hd hh hn'
                        have e2 : hd.esz = n := by rw [hesz, hes]
                        simpa [e2] using this
                  · cases h
                · cases h
              · cases h
            · cases h
          · cases h
        · cases h
      · cases h
    · rename_i len e hu
      split at h
      · rename_i n hn
        split at h
        · rename_i h0
          split at h
          · rename_i hlt
            split at h
            · rename_i hn0
              have h2 : (0 ≤ i ∧ i < (len : Int)) := ⟨h0, by omega⟩
              split at h
              · rename_i id ver j off
                simp only [Option.some.injEq, Prod.mk.injEq] at h
                obtain ⟨rfl, rfl⟩ := h
                refine ⟨?_, rfl⟩
                cases hx with
                | ptr _ _ _ _ hd hh hnil =>
                  refine ⟨.pointer (some ((⟨hd.blk, j * hd.esz + off, none⟩ : Addr).add (i.toNat * n))), by simp [Instr.indexAt, asIntOf, run_underlying hu, Instr.sureAddr, h2, run_sizeOf hn], ?_⟩
                  rw [add_at _ rfl]
                  have := Ra.ptr (w := w) id ver j (off + i.toNat * n) hd hh hnil
                  simpa [Nat.add_assoc] using this
              · rename_i v'
                split at h
                · rename_i y hy
                  simp only [Option.some.injEq, Prod.mk.injEq] at h
                  obtain ⟨rfl, rfl⟩ := h
                  refine ⟨?_, rfl⟩
                  have hd := hx.of_d
                  cases hd with
                  | ref _ b o us hl hb hc hrr =>
                    exact ⟨.pointer (some ((⟨b, o, none⟩ : Addr).add (i.toNat * n))), by simp [Instr.indexAt, asIntOf, run_underlying hu, Instr.sureAddr, h2, run_sizeOf hn], ref_sub hl hc hrr hb hy⟩
                · cases h
              · cases h
            · cases h
          · cases h
        · cases h
      · cases h
    · cases h
  · cases h

def aIndex (P : Program) (t : TypeId) (x ix : AV) : Option AV := match ix with
  | .d (.int _ i) => match x with
    | .d (.str s) => match P.underlying t with
      | some .string => if 0 ≤ i then match s.data[i.toNat]? with
          | some b => some (.d (.int .u8 b.toNat))
          | none => none
        else none
      | _ => none
    | x => match P.underlying t with
      | some (.array len e) => match szT P e with
        | some n => if 0 ≤ i then if i.toNat < len then aPart P e x (i.toNat * n) else none else none
        | none => none
      | _ => none
  | _ => none

theorem aIndex_snd {t : TypeId} {x ix : AV} {u ui : Value} (hx : Ra w G x u) (hi : Ra w G ix ui) {v : AV} (h : aIndex P t x ix = some v) : SndV P w G (Instr.index t u ui) v := by
  unfold aIndex at h
  split at h
  · rename_i k i
    obtain rfl := hi.int_inv
    split at h
    · rename_i s
      obtain ⟨rfl, _⟩ := hx.str_inv
      split at h
      · rename_i hu
        split at h
        · rename_i h0
          split at h
          · rename_i b hb
            simp only [Option.some.injEq] at h
            subst h
            refine ⟨.int .u8 b.toNat, ?_, .int⟩
            have hb' : s[i.toNat]? = some b := by
              have hlt := (Array.getElem?_eq_some_iff.1 hb).1
              have hv := (Array.getElem?_eq_some_iff.1 hb).2
              have : s[i.toNat]? = some (s[i.toNat]'hlt) := getElem?_pos s i.toNat hlt
              rw [this]; exact congrArg some hv
            simp [Instr.index, asIntOf, run_underlying hu, h0, hb']
          · cases h
        · cases h
      · cases h
    · split at h
      · rename_i len e hu
        split at h
        · rename_i n hn
          split at h
          · rename_i h0
            split at h
            · rename_i hlt
              have ha : x.isAgg = true := by unfold aPart at h; split at h; assumption; cases h
              obtain ⟨_, vs, rfl⟩ := isAgg_lies hx ha
              obtain ⟨y, h1, h2⟩ := run_part hx h
              have h3 : (0 ≤ i ∧ i < (len : Int)) := ⟨h0, by omega⟩
              exact ⟨y, by simp [Instr.index, asIntOf, run_underlying hu, h3, run_sizeOf hn, h1], h2⟩
            · cases h
          · cases h
        · cases h
      · cases h
  · cases h
end
end Go.Sv
