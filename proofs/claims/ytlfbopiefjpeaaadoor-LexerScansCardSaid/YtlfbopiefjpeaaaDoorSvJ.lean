/- How the operations act on abstract values, part 8: literals of structs, arrays and slices; make; min and max. -/
import Derived.Test.YtlfbopiefjpeaaaDoorSvI
set_option linter.unusedSimpArgs false
set_option linter.unusedVariables false
namespace Go.Sv
open Go

theorem foldl_put (off : Nat) : ∀ (l : List Value) (s : Nat) (a : Array Value), off + s + l.length ≤ a.size →
    ((l.zipIdx s).foldl (fun cs (x : Value × Nat) => cs.setIfInBounds (off + x.2) x.1) a).size = a.size ∧
    ∀ k, ((l.zipIdx s).foldl (fun cs (x : Value × Nat) => cs.setIfInBounds (off + x.2) x.1) a).getD k undef = if off + s ≤ k ∧ k < off + s + l.length then l.getD (k - (off + s)) undef else a.getD k undef
  | [], s, a, h => ⟨rfl, fun k => by simp; intro h1 h2; omega⟩
  | v :: l, s, a, h => by
    simp only [List.length_cons] at h
    obtain ⟨h1, h2⟩ := foldl_put off l (s + 1) (a.setIfInBounds (off + s) v) (by simp; omega)
    simp only [List.zipIdx_cons, List.foldl_cons]
    refine ⟨by rw [h1]; simp, fun k => ?_⟩
    rw [h2]
    by_cases hA : off + (s + 1) ≤ k ∧ k < off + (s + 1) + l.length
    · rw [if_pos hA, if_pos (by simp only [List.length_cons]; omega)]
      rw [show k - (off + s) = (k - (off + (s + 1))) + 1 by omega]
      simp [List.getD_eq_getElem?_getD]
    · rw [if_neg hA]
      by_cases hB : k = off + s
      · subst hB
        rw [if_pos (by simp only [List.length_cons]; omega)]
        simp [Array.getD_eq_getD_getElem?, show off + s < a.size by omega]
      · rw [if_neg (by simp only [List.length_cons]; omega)]
        simp only [Array.getD_eq_getD_getElem?]
        rw [Array.getElem?_setIfInBounds_ne (by omega)]

theorem fill_put (off : Nat) (v : Array Value) (a : Array Value) (h : off + v.size ≤ a.size) :
    (v.zipIdx.foldl (fun cs (x : Value × Nat) => cs.setIfInBounds (off + x.2) x.1) a).size = a.size ∧
    ∀ k, (v.zipIdx.foldl (fun cs (x : Value × Nat) => cs.setIfInBounds (off + x.2) x.1) a).getD k undef = if off ≤ k ∧ k < off + v.size then v.getD (k - off) undef else a.getD k undef := by
  have := foldl_put off v.toList 0 a (by simpa using h)
  rw [← Array.foldl_toList, Array.toList_zipIdx]
  refine ⟨this.1, fun k => ?_⟩
  have h2 := this.2 k
  simp only [Nat.add_zero, Array.length_toList] at h2
  rw [h2]
  simp [List.getD_eq_getElem?_getD, Array.getD_eq_getD_getElem?]

section
variable {P : Program} {w : World} {G : Ctx} {H : Hf}

/-- Cells that are related. -/
def Cs (w : World) (G : Ctx) (cs : List AV) (vs : Array Value) : Prop := vs.size = cs.length ∧ (∀ c ∈ cs, c.leaf = true) ∧ ∀ (j : Nat) (c : AV), cs[j]? = some c → Ra w G c (vs.getD j undef)

def aFill (place : Nat → Option (Nat × Nat)) (cells : List AV) : List (Nat × AV) → Option (List AV)
  | [] => some cells
  | (i, v) :: rest => match place i with
    | some (off, size) => if v.lies = true then if v.cells.length = size then if off + size ≤ cells.length then
        aFill place (cells.take off ++ v.cells ++ cells.drop (off + size)) rest else none else none else none
    | none => none

theorem Cs.put {cs : List AV} {vs : Array Value} (h : Cs w G cs vs) {x : AV} {v : Value} (hx : Ra w G x v) (hl : x.lies = true) {off : Nat} (ho : off + x.cells.length ≤ cs.length) :
    Cs w G (cs.take off ++ x.cells ++ cs.drop (off + x.cells.length)) (v.cells.zipIdx.foldl (fun cs (x : Value × Nat) => cs.setIfInBounds (off + x.2) x.1) vs) := by
  obtain ⟨h1, h2⟩ := hx.cells hl
  obtain ⟨f1, f2⟩ := fill_put off v.cells vs (by rw [h1, h.1]; exact ho)
  refine ⟨by rw [f1, h.1]; simp; omega, fun c hc => ?_, fun j c e => ?_⟩
  · simp only [List.mem_append] at hc
    rcases hc with (hc | hc) | hc
    · exact h.2.1 c (List.mem_of_mem_take hc)
    · exact alies_leaf hl c hc
    · exact h.2.1 c (List.mem_of_mem_drop hc)
  · rw [f2]
    have ht : (cs.take off).length = off := by simp; omega
    by_cases hA : j < off
    · rw [if_neg (by omega)]
      rw [List.append_assoc, List.getElem?_append_left (by omega), List.getElem?_take, if_pos hA] at e
      exact h.2.2 j c e
    · by_cases hB : j < off + x.cells.length
      · rw [if_pos (by rw [h1]; omega)]
        rw [List.append_assoc, List.getElem?_append_right (by omega), List.getElem?_append_left (by omega), ht] at e
        exact h2 _ c e
      · rw [if_neg (by rw [h1]; omega)]
        rw [List.getElem?_append_right (by simp; omega), List.getElem?_drop] at e
        have : off + x.cells.length + (j - (cs.take off ++ x.cells).length) = j := by simp; omega
        rw [this] at e
        exact h.2.2 j c e

/-- Two lists of parts. -/
def Ps (w : World) (G : Ctx) (ps : List (Nat × AV)) (qs : List (Nat × Value)) : Prop := All2 (fun p q => p.1 = q.1 ∧ Ra w G p.2 q.2) ps qs

theorem aFill_run {place : Nat → Option (Nat × Nat)} {ps : List (Nat × AV)} {qs : List (Nat × Value)} (hp : Ps w G ps qs) {cs : List AV} {vs : Array Value} (h : Cs w G cs vs) {cs' : List AV} (hf : aFill place cs ps = some cs') :
    ∃ vs', Instr.fill place vs qs = some vs' ∧ Cs w G cs' vs' := by
  induction hp generalizing cs vs with
  | nil => simp only [aFill, Option.some.injEq] at hf; subst hf; exact ⟨vs, rfl, h⟩
  | @cons p q ps qs hpq _ ih =>
    obtain ⟨i, x⟩ := p
    obtain ⟨i', v⟩ := q
    obtain ⟨e1, hx⟩ := hpq
    simp only at e1 hx
    subst e1
    simp only [aFill] at hf
    split at hf
    · rename_i off size hpl
      split at hf
      · rename_i hl
        split at hf
        · rename_i hs
          split at hf
          · rename_i ho
            subst hs
            obtain ⟨vs', g1, g2⟩ := ih (h.put hx hl ho) hf
            refine ⟨vs', ?_, g2⟩
            have h1 := (hx.cells hl).1
            simp only [Instr.fill, hpl]
            rw [if_neg (by simp [h1]; rw [h.1]; omega)]
            exact g1
          · cases hf
        · cases hf
      · cases hf
    · cases hf

def placesOf (P : Program) (fs : List Field) : Option (List (Nat × Nat)) := fs.mapM fun f => (P.info? f.type).map fun i => (f.offset, i.size)

def aBuild (P : Program) (t : TypeId) (parts : List (Nat × AV)) : Option AV := match P.info? t with
  | some it => match it.zero with
    | some z => match ofVal z with
      | some x => match P.underlying t with
        | some (.array _ e) => match P.info? e with
          | some ie => (aFill (fun i => some (i * ie.size, ie.size)) (x.cells.map .d) parts).map mkAgg
          | none => none
        | some (.struct fs) => match placesOf P fs.toList with
          | some places => (aFill (places.toArray[·]?) (x.cells.map .d) parts).map mkAgg
          | none => none
        | _ => none
      | none => none
    | none => none
  | none => none

theorem cs_of_rd {x : DV} {v : Value} (h : Rd w G.im x v) (hl : x.lies = true) : Cs w G (x.cells.map .d) v.cells := by
  obtain ⟨h1, h2⟩ := h.cells hl
  refine ⟨by simp [h1], fun c hc => ?_, fun j c e => ?_⟩
  · obtain ⟨y, hy, rfl⟩ := List.mem_map.1 hc
    exact lies_leaf hl y hy
  · simp only [List.getElem?_map, Option.map_eq_some_iff] at e
    obtain ⟨y, hy, rfl⟩ := e
    exact .d y _ (h2 j y hy)

theorem aBuild_snd {t : TypeId} {parts : List (Nat × AV)} {qs : Array (Nat × Value)} (hp : Ps w G parts qs.toList) {v : AV} (h : aBuild P t parts = some v) : SndV P w G (Instr.build t qs) v := by
  unfold aBuild at h
  split at h
  · rename_i it hit
    split at h
    · rename_i z hz
      split at h
      · rename_i x hx
        obtain ⟨r1, r2⟩ := ofVal_rd (w := w) (im := G.im) hx
        split at h
        · rename_i n e hu
          split at h
          · rename_i ie hie
            obtain ⟨cs, hcs, rfl⟩ := Option.map_eq_some_iff.1 h
            obtain ⟨vs, g1, g2⟩ := aFill_run hp (cs_of_rd r1 r2) hcs
            exact ⟨.agg vs, run_build w t qs vs (by simp only [Program.built, hit, hu, hz, hie]; exact g1), Ra.mkAgg g2.1 g2.2.1 g2.2.2⟩
          · cases h
        · rename_i fs hu
          split at h
          · rename_i places hpl
            obtain ⟨cs, hcs, rfl⟩ := Option.map_eq_some_iff.1 h
            obtain ⟨vs, g1, g2⟩ := aFill_run hp (cs_of_rd r1 r2) hcs
            unfold placesOf at hpl
            exact ⟨.agg vs, run_build w t qs vs (by simp only [Program.built, hit, hu, hz, hpl]; exact g1), Ra.mkAgg g2.1 g2.2.1 g2.2.2⟩
          · cases h
        · cases h
      · cases h
    · cases h
  · cases h

/-- A new row. -/
theorem new_row (hr : RelH w G H) (id : Nat) (hid : H id = none) (e : TypeId) (cap n : Nat) (xs : List AV) (vs : Array Value) (hpos : 0 < n) (hvs : cap * n ≤ vs.size)
    (hfl : ∀ (i j : Nat) (x c : AV), xs[i]? = some x → x.cells[j]? = some c → Ra w G c (vs.getD (i * n + j) undef)) (hsz : ∀ x ∈ xs, x.lies = true ∧ x.cells.length = n) (hlen : xs.length ≤ 281474976710656) (hcap : xs.length ≤ cap) :
    ∃ G', Ra (w.alloc (.cells vs e)) G' (.row id 0) (.slice (some ⟨w.heap.size, 0, none⟩) xs.length cap) ∧
      RelH (w.alloc (.cells vs e)) G' (upd H [(id, ⟨false, 0, n, xs⟩)]) ∧ Went w G H (w.alloc (.cells vs e)) G' (upd H [(id, ⟨false, 0, n, xs⟩)]) := by
  have hb : (w.alloc (.cells vs e)).heap[w.heap.size]? = some (.cells vs e (0, 0)) := heap_alloc_new w _
  have hm := relH_put (w' := w.alloc (.cells vs e)) hr id ⟨false, 0, n, xs⟩ ⟨w.heap.size, n, xs.length, cap, false, none⟩ (.inl ⟨hid, rfl⟩) (fun b hb' _ => heap_alloc_old w _ b hb') (by simp) rfl rfl rfl rfl (fun _ => .inl (Nat.le_refl _))
    ⟨rfl, hpos, rfl, hcap, hlen, fun h => (by cases h), fun _ => ⟨_, e, hb, hvs, hfl⟩, fun x hx => (hsz x hx).2, fun x hx => (hsz x hx).1⟩
  refine ⟨_, ?_, hm.1, hm.2⟩
  have := Ra.row (w := w.alloc (.cells vs e)) (G := G.with id 0 ⟨w.heap.size, n, xs.length, cap, false, none⟩) id 0 ⟨w.heap.size, n, xs.length, cap, false, none⟩ (by simp [Ctx.with])
  simpa [Hdr.val] using this

def aSetAll (n : Nat) (xs : List AV) : List (Nat × AV) → Option (List AV)
  | [] => some xs
  | (i, v) :: rest => if v.lies = true then if v.cells.length = n then if i < xs.length then aSetAll n (xs.set i v) rest else none else none else none

theorem aSetAll_run {n : Nat} {ps : List (Nat × AV)} {qs : List (Nat × Value)} (hp : Ps w G ps qs) {xs : List AV} {vs : Array Value} (h1 : vs.size = xs.length * n) (h2 : ∀ x ∈ xs, x.lies = true ∧ x.cells.length = n)
    (h3 : ∀ (i j : Nat) (x c : AV), xs[i]? = some x → x.cells[j]? = some c → Ra w G c (vs.getD (i * n + j) undef)) {xs' : List AV} (hf : aSetAll n xs ps = some xs') :
    ∃ vs', Instr.fill (fun i => some (i * n, n)) vs qs = some vs' ∧ vs'.size = xs'.length * n ∧ xs'.length = xs.length ∧ (∀ x ∈ xs', x.lies = true ∧ x.cells.length = n) ∧
      ∀ (i j : Nat) (x c : AV), xs'[i]? = some x → x.cells[j]? = some c → Ra w G c (vs'.getD (i * n + j) undef) := by
  induction hp generalizing xs vs with
  | nil => simp only [aSetAll, Option.some.injEq] at hf; subst hf; exact ⟨vs, rfl, h1, rfl, h2, h3⟩
  | @cons p q ps qs hpq _ ih =>
    obtain ⟨i, x⟩ := p
    obtain ⟨i', v⟩ := q
    obtain ⟨e1, hx⟩ := hpq
    simp only at e1 hx
    subst e1
    simp only [aSetAll] at hf
    split at hf
    · rename_i hl
      split at hf
      · rename_i hs
        split at hf
        · rename_i hi
          obtain ⟨c1, c2⟩ := hx.cells hl
          have hroom : i * n + v.cells.size ≤ vs.size := by
            rw [c1, hs, h1]
            have := Nat.mul_le_mul_right n (show i + 1 ≤ xs.length from hi)
            rw [Nat.succ_mul] at this
            exact this
          obtain ⟨f1, f2⟩ := fill_put (i * n) v.cells vs hroom
          obtain ⟨vs', g1, g2, g3, g4, g5⟩ := ih (xs := xs.set i x) (vs := v.cells.zipIdx.foldl (fun cs (x : Value × Nat) => cs.setIfInBounds (i * n + x.2) x.1) vs) (by rw [f1, h1]; simp)
            (fun y hy => by rcases List.mem_or_eq_of_mem_set hy with hy | rfl; exact h2 y hy; exact ⟨hl, hs⟩)
            (fun i2 j y c e1 e2 => by
              rw [f2]
              have hj : j < n := by
                rcases set_getElem? _ _ _ _ _ e1 with ⟨_, rfl⟩ | ⟨_, e1'⟩
                · rw [← hs]; exact (List.getElem?_eq_some_iff.1 e2).1
                · rw [← (h2 y (List.mem_of_getElem? e1')).2]; exact (List.getElem?_eq_some_iff.1 e2).1
              rcases set_getElem? _ _ _ _ _ e1 with ⟨rfl, rfl⟩ | ⟨hne, e1'⟩
              · rw [if_pos (by rw [c1, hs]; omega), Nat.add_sub_cancel_left]
                exact c2 j c e2
              · rw [if_neg ?_]
                · exact h3 i2 j y c e1' e2
                · rw [c1, hs]
                  rcases Nat.lt_or_gt_of_ne hne with hlt | hgt
                  · have := idx_lt hlt hj; omega
                  · have := Nat.mul_le_mul_right n (show i + 1 ≤ i2 from hgt)
                    rw [Nat.succ_mul] at this
                    omega) hf
          refine ⟨vs', ?_, g2, by simpa using g3, g4, g5⟩
          simp only [Instr.fill]
          rw [if_neg (by simp [c1, hs]; rw [← c1] at hs; rw [hs] at hroom; omega)]
          exact g1
        · cases hf
      · cases hf
    · cases hf

theorem getD_made (z : Array Value) (n i j m : Nat) (hz : z.size = n) (hj : j < n) (hi : i * n + j < m) : (madeCells z m).getD (i * n + j) undef = z.getD j undef := by
  have hjz : j < z.size := by omega
  simp only [madeCells, Array.getD_eq_getD_getElem?, Array.getElem?_map]
  rw [Array.getElem?_range, if_pos hi]
  simp only [Option.map_some, Option.getD_some, hz]
  have : (i * n + j) % n = j := by rw [Nat.mul_comm, Nat.mul_add_mod]; exact Nat.mod_eq_of_lt hj
  rw [this]
  simp [hjz]

theorem made_fl {z : DV} {v : Value} (h : Rd w G.im z v) (hl : z.lies = true) {n l m : Nat} (hn : z.cells.length = n) (hm : l * n ≤ m) :
    (∀ x ∈ List.replicate l (AV.d z), x.lies = true ∧ x.cells.length = n) ∧ ∀ (i j : Nat) (x c : AV), (List.replicate l (AV.d z))[i]? = some x → x.cells[j]? = some c → Ra w G c ((madeCells v.cells m).getD (i * n + j) undef) := by
  obtain ⟨h1, h2⟩ := h.cells hl
  refine ⟨fun x hx => ?_, fun i j x c e1 e2 => ?_⟩
  · obtain ⟨_, rfl⟩ := List.mem_replicate.1 hx
    exact ⟨hl, by simp [AV.cells, hn]⟩
  · have hi : i < l := by have := (List.getElem?_eq_some_iff.1 e1).1; simpa using this
    rw [List.getElem?_replicate, if_pos hi] at e1
    simp only [Option.some.injEq] at e1
    subst e1
    simp only [AV.cells, List.getElem?_map, Option.map_eq_some_iff] at e2
    obtain ⟨y, hy, rfl⟩ := e2
    have hj : j < n := by rw [← hn]; exact (List.getElem?_eq_some_iff.1 hy).1
    have := idx_lt hi hj
    rw [getD_made v.cells n i j m (by rw [h1, hn]) hj (by omega)]
    exact .d y _ (h2 j y hy)

def aBuildSlice (P : Program) (nid : Nat) (t : TypeId) (len : Nat) (parts : List (Nat × AV)) : Option (AV × Fx) := match P.underlying t with
  | some (.slice e) => match P.info? e with
    | some i => match i.zero with
      | some z => match ofVal z with
        | some x => if 0 < i.size ∧ x.cells.length = i.size ∧ len * i.size ≤ 16777216 then match aSetAll i.size (List.replicate len (.d x)) parts with
          | some xs => some (.row nid 0, { rd := [nid], wr := [(nid, ⟨false, 0, i.size, xs⟩)] })
          | none => none
          else none
        | none => none
      | none => none
    | none => none
  | _ => none

theorem aBuildSlice_snd (hr : RelH w G H) {nid : Nat} (hid : H nid = none) {t : TypeId} {len : Nat} {parts : List (Nat × AV)} {qs : Array (Nat × Value)} (hp : Ps w G parts qs.toList) {v : AV} {fx : Fx} (h : aBuildSlice P nid t len parts = some (v, fx)) :
    Snd P w G H (Instr.buildSlice t len qs) v fx.wr := by
  unfold aBuildSlice at h
  split at h
  · rename_i e hu
    split at h
    · rename_i i hi
      split at h
      · rename_i z hz
        split at h
        · rename_i x hx
          obtain ⟨r1, r2⟩ := ofVal_rd (w := w) (im := G.im) hx
          split at h
          · rename_i hc
            obtain ⟨hpos, hxl, hlim⟩ := hc
            split at h
            · rename_i xs hxs
              simp only [Option.some.injEq, Prod.mk.injEq] at h
              obtain ⟨rfl, rfl⟩ := h
              obtain ⟨m1, m2⟩ := made_fl (l := len) (m := len * i.size) r1 r2 hxl (Nat.le_refl _)
              obtain ⟨vs, g1, g2, g3, g4, g5⟩ := aSetAll_run hp (xs := List.replicate len (.d x)) (vs := madeCells z.cells (len * i.size)) (by simp [size_madeCells]) m1 m2 hxs
              have hlen : xs.length = len := by rw [g3]; simp
              have hlen' : xs.length ≤ 281474976710656 := by
                have : len ≤ len * i.size := Nat.le_mul_of_pos_right _ hpos
                omega
              obtain ⟨G', k1, k2, k3⟩ := new_row hr nid hid e len i.size xs vs hpos (by rw [g2, hlen]; exact Nat.le_refl _) g5 g4 hlen' (by omega)
              refine ⟨_, _, G', ?_, k1, k2, k3⟩
              have hne : ¬ (len * i.size > 2 ^ 24) := by omega
              have hsame : ∀ (zz : Array Value), (len * i.size = 0 ∧ zz = #[]) ∨ zz = z.cells → (Array.range (len * i.size)).map (fun k => zz[k % zz.size]!) = madeCells z.cells (len * i.size) := by
                rintro zz (⟨h0, rfl⟩ | rfl)
                · simp [madeCells, h0]
                · rfl
              by_cases h0 : len * i.size = 0
              · have e0 := hsame #[] (.inl ⟨h0, rfl⟩)
                simp only [Instr.buildSlice, Sem.run_bind, run_underlying hu, Result.andThen_ok, sizeOf, typeInfo, run_program, hi, Sem.run_pure, if_neg hne, if_pos h0, e0, g1, hlen, newRow, run_newObj]
                rfl
              · have e0 := hsame z.cells (.inr rfl)
                simp only [Instr.buildSlice, Sem.run_bind, run_underlying hu, Result.andThen_ok, sizeOf, typeInfo, zeroValue, run_program, hi, hz, Sem.run_pure, if_neg hne, if_neg h0, e0, g1, hlen, newRow, run_newObj]
                rfl
            · cases h
          · cases h
        · cases h
      · cases h
    · cases h
  · cases h

def aMake (P : Program) (nid : Nat) (t : TypeId) (l c : AV) : Option (AV × Fx) := match l, c with
  | .d (.int _ l), .d (.int _ c) => match P.underlying t with
    | some (.slice e) => match P.info? e with
      | some i => match i.zero with
        | some z => match ofVal z with
          | some x => if 0 < i.size ∧ x.cells.length = i.size ∧ 0 < i.bytes ∧ 0 ≤ l ∧ l ≤ c ∧ (i.bytes : Int) * c ≤ 281474976710656 then
              some (.row nid 0, { rd := [nid], wr := [(nid, ⟨false, 0, i.size, List.replicate l.toNat (.d x)⟩)] }) else none
          | none => none
        | none => none
      | none => none
    | _ => none
  | _, _ => none

theorem aMake_snd (hr : RelH w G H) {nid : Nat} (hid : H nid = none) {t : TypeId} {l c : AV} {ul uc : Value} (hl : Ra w G l ul) (hc : Ra w G c uc) {v : AV} {fx : Fx} (h : aMake P nid t l c = some (v, fx)) :
    Snd P w G H (Instr.makeSlice t ul uc) v fx.wr := by
  unfold aMake at h
  split at h
  · rename_i k1 l k2 c
    obtain rfl := hl.int_inv
    obtain rfl := hc.int_inv
    split at h
    · rename_i e hu
      split at h
      · rename_i i hi
        split at h
        · rename_i z hz
          split at h
          · rename_i x hx
            obtain ⟨r1, r2⟩ := ofVal_rd (w := w) (im := G.im) hx
            split at h
            · rename_i hcond
              obtain ⟨hpos, hxl, hb0, h0, hlc, hlim⟩ := hcond
              simp only [Option.some.injEq, Prod.mk.injEq] at h
              obtain ⟨rfl, rfl⟩ := h
              have hc48 : c ≤ 281474976710656 := by
                have h1 : (1 : Int) ≤ i.bytes := by omega
                have h2 : 1 * c ≤ (i.bytes : Int) * c := Int.mul_le_mul_of_nonneg_right h1 (by omega)
                omega
              have hrun := run_make (P := P) w t e i z hu hi hz k1 k2 l c h0 hlc hlim (by omega)
              have hll : l.toNat * i.size ≤ c.toNat * i.size := Nat.mul_le_mul_right _ (by omega)
              obtain ⟨m1, m2⟩ := made_fl (l := l.toNat) (m := c.toNat * i.size) r1 r2 hxl hll
              obtain ⟨G', q1, q2, q3⟩ := new_row hr nid hid e c.toNat i.size (List.replicate l.toNat (.d x)) (madeCells z.cells (c.toNat * i.size)) hpos (by rw [size_madeCells]; exact Nat.le_refl _) m2 m1 (by simp; omega) (by simp; omega)
              exact ⟨_, _, G', hrun, by simpa using q1, q2, q3⟩
            · cases h
          · cases h
        · cases h
      · cases h
    · cases h
  · cases h

/-- 'min' and 'max' of whole numbers. -/
def aMM (mx : Bool) : List AV → Option AV
  | [.d (.int k x)] => some (.d (.int k x))
  | .d (.int k x) :: .d (.int _ y) :: rest => aMM mx (.d (.int k (if mx then (if y > x then y else x) else (if y < x then y else x))) :: rest)
  | _ => none
  termination_by l => l.length

theorem aMM_max {xs : List AV} {us : List Value} (hx : All2 (Ra w G) xs us) {v : AV} (h : aMM true xs = some v) : ∃ u, (match us with | [] => stuck "max: at least one argument expected" | x :: rest => rest.foldlM Builtin.max2 x).run P w = .ok u w ∧ Ra w G v u := by
  induction hn : xs.length generalizing xs us with
  | zero => have : xs = [] := List.eq_nil_of_length_eq_zero hn; subst this; simp [aMM] at h
  | succ n ih =>
    unfold aMM at h
    split at h
    · cases hx with
      | cons h1 h2 => cases h2; cases h; exact ⟨_, rfl, h1⟩
    · rename_i k x k' y rest
      cases hx with
      | cons h1 h2 => cases h2 with
        | cons h3 h4 =>
          obtain rfl := h1.int_inv
          obtain rfl := h3.int_inv
          obtain ⟨u, g1, g2⟩ := ih (us := .int k (if y > x then y else x) :: _) (.cons (by simp only [if_true]; exact .int) h4) h (by simp at hn ⊢; omega)
          exact ⟨u, by simpa [Builtin.max2] using g1, g2⟩
    · cases h
theorem aMM_min {xs : List AV} {us : List Value} (hx : All2 (Ra w G) xs us) {v : AV} (h : aMM false xs = some v) : ∃ u, (match us with | [] => stuck "min: at least one argument expected" | x :: rest => rest.foldlM Builtin.min2 x).run P w = .ok u w ∧ Ra w G v u := by
  induction hn : xs.length generalizing xs us with
  | zero => have : xs = [] := List.eq_nil_of_length_eq_zero hn; subst this; simp [aMM] at h
  | succ n ih =>
    unfold aMM at h
    split at h
    · cases hx with
      | cons h1 h2 => cases h2; cases h; exact ⟨_, rfl, h1⟩
    · rename_i k x k' y rest
      cases hx with
      | cons h1 h2 => cases h2 with
        | cons h3 h4 =>
          obtain rfl := h1.int_inv
          obtain rfl := h3.int_inv
          obtain ⟨u, g1, g2⟩ := ih (us := .int k (if y < x then y else x) :: _) (.cons (by simp only [Bool.false_eq_true, if_false]; exact .int) h4) h (by simp at hn ⊢; omega)
          exact ⟨u, by simpa [Builtin.min2] using g1, g2⟩
    · cases h
end
end Go.Sv
