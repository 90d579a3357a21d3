/- How the operations act on abstract values, part 7: rows that are made and that grow. -/
import Derived.Test.YtlfbopiefjpeaaaDoorSvH
import Derived.Deep.Upon
import Derived.Laws.MakeOwn
set_option linter.unusedSimpArgs false
set_option linter.unusedVariables false
namespace Go.Sv
open Go

section
variable {P : Program} {w : World} {G : Ctx} {H : Hf}

/-- A list of elements as a list of cells. -/
def Fl (w : World) (G : Ctx) (n : Nat) (xs : List AV) (vs : List Value) : Prop :=
  vs.length = xs.length * n ∧ (∀ x ∈ xs, x.lies = true ∧ x.cells.length = n) ∧ ∀ (i j : Nat) (x c : AV), xs[i]? = some x → x.cells[j]? = some c → Ra w G c (vs.getD (i * n + j) undef)

theorem idx_lt {i j n m : Nat} (hi : i < m) (hj : j < n) : i * n + j < m * n := by
  have h1 : (i + 1) * n ≤ m * n := Nat.mul_le_mul_right _ hi
  have h2 : (i + 1) * n = i * n + n := Nat.succ_mul ..
  omega

theorem Fl.nil {n : Nat} : Fl w G n [] [] := ⟨by simp, fun x hx => (by cases hx), fun i j x c e => (by simp at e)⟩
theorem Fl.append {n : Nat} {xs ys : List AV} {us vs : List Value} (h1 : Fl w G n xs us) (h2 : Fl w G n ys vs) : Fl w G n (xs ++ ys) (us ++ vs) := by
  refine ⟨by simp [h1.1, h2.1, Nat.add_mul], fun x hx => ?_, fun i j x c e1 e2 => ?_⟩
  · rcases List.mem_append.1 hx with h | h
    · exact h1.2.1 x h
    · exact h2.2.1 x h
  · by_cases hi : i < xs.length
    · rw [List.getElem?_append_left hi] at e1
      have hj : j < n := by rw [← (h1.2.1 x (List.mem_of_getElem? e1)).2]; exact (List.getElem?_eq_some_iff.1 e2).1
      have := h1.2.2 i j x c e1 e2
      rw [List.getD_eq_getElem?_getD, List.getElem?_append_left (by rw [h1.1]; exact idx_lt hi hj), ← List.getD_eq_getElem?_getD]
      exact this
    · rw [List.getElem?_append_right (by omega)] at e1
      have := h2.2.2 (i - xs.length) j x c e1 e2
      have hle : us.length ≤ i * n + j := by rw [h1.1]; have := Nat.mul_le_mul_right n (show xs.length ≤ i by omega); omega
      rw [List.getD_eq_getElem?_getD, List.getElem?_append_right hle, ← List.getD_eq_getElem?_getD]
      have e3 : i * n + j - us.length = (i - xs.length) * n + j := by
        rw [h1.1, Nat.sub_mul]
        have := Nat.mul_le_mul_right n (show xs.length ≤ i by omega)
        omega
      rw [e3]; exact this
theorem Fl.mono {w' : World} {G' : Ctx} {n : Nat} {xs : List AV} {vs : List Value} (h : Fl w G n xs vs) (hw : ∀ b, G.im b → w'.heap[b]? = w.heap[b]?) (hi : G.le G') : Fl w' G' n xs vs :=
  ⟨h.1, h.2.1, fun i j x c e1 e2 => (h.2.2 i j x c e1 e2).mono hw hi⟩
/-- Cells behind the list don't matter. -/
theorem Fl.pad {n : Nat} {xs : List AV} {vs : List Value} (h : Fl w G n xs vs) (zs : Array Value) {i j : Nat} {x c : AV} (e1 : xs[i]? = some x) (e2 : x.cells[j]? = some c) : Ra w G c ((vs.toArray ++ zs).getD (i * n + j) undef) := by
  have hi := (List.getElem?_eq_some_iff.1 e1).1
  have hj : j < n := by rw [← (h.2.1 x (List.mem_of_getElem? e1)).2]; exact (List.getElem?_eq_some_iff.1 e2).1
  have := h.2.2 i j x c e1 e2
  have hlt : i * n + j < vs.length := by rw [h.1]; exact idx_lt hi hj
  rw [List.getD_eq_getElem?_getD] at this
  rw [Array.getD_eq_getD_getElem?, Array.getElem?_append_left (by simpa using hlt)]
  simpa using this

/-- What is appended: the elements of a slice, or the bytes of a string. -/
def srcElems (P : Program) (H : Hf) (tx : TypeId) (y : AV) : Option (List AV × Option Nat × List Nat) := match P.underlying tx with
  | some (.slice _) => elems H y
  | some .string => match y with
    | .d (.str s) => if s.size ≤ 281474976710656 then some (s.data.toList.map fun b => .d (.int .u8 b.toNat), some 1, []) else none
    | _ => none
  | _ => none

theorem src_of (hr : RelH w G H) {tx : TypeId} {y : AV} {v : Value} (hy : Ra w G y v) {ys : List AV} {e : Option Nat} {rd : List Nat} (h : srcElems P H tx y = some (ys, e, rd)) {n : Nat} (hn : ys = [] ∨ e = some n) :
    ∃ news, Src P n tx v ys.length news w ∧ Fl w G n ys news ∧ ys.length ≤ 281474976710656 := by
  unfold srcElems at h
  split at h
  · rename_i e' hu
    obtain ⟨a, c, rfl, h1, h2, h3, h4⟩ := elems_len hr hy h
    by_cases hnil : ys = []
    · subst hnil
      refine ⟨[], ?_, Fl.nil, by simp⟩
      cases a with
      | none => exact Src.ofNil w hu c
      | some a => exact Src.ofSlice w hu a 0 c [] (by simp) (fun j u e => by simp at e) (fun u hu => by cases hu)
    · obtain rfl : e = some n := hn.resolve_left hnil
      obtain ⟨b, o, rfl, h5⟩ := h4 hnil
      have hcell : ∀ k, k < ys.length * n → ∃ c, (∃ x i j, ys[i]? = some x ∧ x.cells[j]? = some c ∧ k = i * n + j) ∧ ∃ u, w.cell? ⟨b, o + k, none⟩ = some u ∧ Ra w G c u := by
        intro k hk
        have hn0 : 0 < n := by rcases Nat.eq_zero_or_pos n with h0 | h0; · rw [h0] at hk; simp at hk
                               · exact h0
        have hi : k / n < ys.length := Nat.div_lt_of_lt_mul (by rw [Nat.mul_comm]; exact hk)
        have hx := List.getElem?_eq_getElem hi
        have hlen : ys[k / n].cells.length = n := by have := (h3 _ (List.getElem_mem hi)).2; simpa using this
        have hj : k % n < ys[k / n].cells.length := by rw [hlen]; exact Nat.mod_lt _ hn0
        have hc := List.getElem?_eq_getElem hj
        have hkk : k = k / n * n + k % n := by rw [Nat.mul_comm]; exact (Nat.div_add_mod k n).symm
        obtain ⟨u, hu1, hu2⟩ := (h5 _ _ hx).2.2 _ _ hc
        refine ⟨_, ⟨_, _, _, hx, hc, hkk⟩, u, ?_, hu2⟩
        simp only [hlen] at hu1
        rw [show o + k = o + k / n * n + k % n by omega]
        exact hu1
      let f : Nat → Value := fun k => (w.cell? ⟨b, o + k, none⟩).getD undef
      have hf : ∀ k, k < ys.length * n → w.cell? ⟨b, o + k, none⟩ = some (f k) := by
        intro k hk
        obtain ⟨c, _, u, hu1, _⟩ := hcell k hk
        simp [f, hu1]
      refine ⟨(List.range (ys.length * n)).map f, Src.ofSlice w hu _ _ c _ (by simp) (fun j u hj => ?_) (fun u hu' => ?_), ⟨by simp, fun x hx => ⟨(h3 x hx).1, by have := (h3 x hx).2; simpa using this⟩, fun i j x c' e1 e2 => ?_⟩, h2⟩
      · rw [add_at _ rfl]
        simp only [List.getElem?_map, Option.map_eq_some_iff] at hj
        obtain ⟨k, hk, rfl⟩ := hj
        rw [List.getElem?_eq_some_iff] at hk
        obtain ⟨hk1, hk2⟩ := hk
        simp at hk1 hk2
        subst hk2
        exact hf j hk1
      · obtain ⟨k, hk, rfl⟩ := List.mem_map.1 hu'
        obtain ⟨c', ⟨x, i, j, e1, e2, e3⟩, u, hu1, hu2⟩ := hcell k (List.mem_range.1 hk)
        have : f k = u := by simp [f, hu1]
        rw [this]
        exact (hu2.one (alies_leaf (h3 x (List.mem_of_getElem? e1)).1 c' (List.mem_of_getElem? e2))).1
      · have hj : j < n := by have h6 := (h3 x (List.mem_of_getElem? e1)).2; simp at h6; rw [← h6]; exact (List.getElem?_eq_some_iff.1 e2).1
        have hlt := idx_lt (List.getElem?_eq_some_iff.1 e1).1 hj
        have hlen : x.cells.length = n := by have := (h3 x (List.mem_of_getElem? e1)).2; simpa using this
        obtain ⟨u, hu1, hu2⟩ := (h5 _ _ e1).2.2 _ _ e2
        simp only [hlen] at hu1
        have : ((List.range (ys.length * n)).map f).getD (i * n + j) undef = u := by
          rw [List.getD_eq_getElem?_getD, List.getElem?_map, List.getElem?_range hlt]
          simp only [Option.map_some, Option.getD_some, f]
          rw [← Nat.add_assoc, hu1]; rfl
        rw [this]; exact hu2
  · rename_i hu
    split at h
    · rename_i s
      split at h
      · rename_i hs
        simp only [Option.some.injEq, Prod.mk.injEq] at h
        obtain ⟨rfl, rfl, rfl⟩ := h
        obtain ⟨rfl, _⟩ := hy.str_inv
        have hl : (s.data.toList.map fun b => AV.d (.int .u8 b.toNat)).length = s.size := by simp
        have hfl : ∀ n, n = 1 → Fl w G n (s.data.toList.map fun b => AV.d (.int .u8 b.toNat)) (byteCells s) := by
          rintro n rfl
          refine ⟨by rw [byteCells_length, hl, Nat.mul_one], fun x hx => ?_, fun i j x c e1 e2 => ?_⟩
          · obtain ⟨b, _, rfl⟩ := List.mem_map.1 hx
            exact ⟨rfl, rfl⟩
          · simp only [List.getElem?_map, Option.map_eq_some_iff] at e1
            obtain ⟨b, hb, rfl⟩ := e1
            match j, e2 with
            | 0, e2 =>
              simp only [AV.cells, DV.cells, List.map_cons, List.map_nil, List.getElem?_cons_zero, Option.some.injEq] at e2
              subst e2
              have : (byteCells s).getD (i * 1 + 0) undef = .int .u8 b.toNat := by
                simp only [Nat.mul_one, Nat.add_zero, byteCells, List.getD_eq_getElem?_getD, List.getElem?_map, hb]; rfl
              rw [this]; exact .int
            | j + 1, e2 => simp [AV.cells, DV.cells] at e2
        by_cases hnil : (s.data.toList.map fun b => AV.d (.int .u8 b.toNat)) = []
        · rw [hnil]
          have hs0 : s.size = 0 := by rw [← hl, hnil]; rfl
          refine ⟨[], ?_, Fl.nil, by simp⟩
          have h1 := Src.ofString (P := P) w hu s
          have hb : byteCells s = [] := List.eq_nil_of_length_eq_zero (by rw [byteCells_length, hs0])
          rw [hb, hs0] at h1
          exact ⟨h1.kind, fun w' => by simpa [hs0] using h1.len w', by simp [Builtin.firstCells], by simp [Builtin.firstCells], by simp, fun u hu => by cases hu⟩
        · obtain rfl : 1 = n := by simpa using hn.resolve_left hnil
          exact ⟨byteCells s, by rw [hl]; exact Src.ofString w hu s, hfl 1 rfl, by rw [hl]; exact hs⟩
      · cases h
    · cases h
  · cases h

/-- There is room: the row's own cells are written. -/
theorem run_append_room_row (t tx ty e : TypeId) (i : TypeInfo) (ht : P.underlying t = some (.slice e)) (hi : P.info? e = some i) (g sLen sCap : Nat) (cur : Array Value) (te : TypeId) (hg : w.heap[g]? = some (.cells cur te (0, 0))) (x : Value) (n : Nat) (news : List Value) (hs : Src P i.size tx x n news w)
    (hroom : sLen + n ≤ sCap) (hfit : sLen * i.size + news.length ≤ cur.size) :
    (Builtin.append_ #[t, tx] ty #[.slice (some ⟨g, 0, none⟩) sLen sCap, x]).run P w = .ok (.slice (some ⟨g, 0, none⟩) (sLen + n) sCap) (w.setRow g (cur.toList.take (sLen * i.size) ++ news ++ cur.toList.drop (sLen * i.size + news.length)).toArray) := by
  have hst := run_storeCells_at P g (sLen * i.size) te news 0 cur w hg (by simpa using hfit) hs.one
  simp only [Nat.add_zero] at hst
  rcases hs.kind with ⟨e', hk⟩ | hk <;> simp [Builtin.append_, run_underlying ht, run_underlying hk, sizeOf, typeInfo, hi, hs.len, hroom, hs.cells, Addr.add_lit, hst]

def limB : Nat := 140737488355328

def aAppend (P : Program) (H : Hf) (nid : Nat) (t tx : TypeId) (x y : AV) : Option (AV × Fx) := match P.underlying t with
  | some (.slice e) => match P.info? e with
    | some i => match i.zero with
      | some z => if 0 < i.size ∧ 0 < i.bytes ∧ z.cells.size = i.size then match srcElems P H tx y with
        | some (ys, ey, rd) => if ys = [] ∨ ey = some i.size then match x with
          | .d .nilSl | .d .nul => if ys.length * i.bytes ≤ limB then some (.row nid 0, { rd := nid :: rd, wr := [(nid, ⟨false, 0, i.size, ys⟩)] }) else none
          | .row id ver => match H id with
            | some o => if o.ver = ver then if o.frozen = false then if o.esz = i.size then if (o.elems.length + ys.length) * i.bytes ≤ limB then
                some (.row id (ver + 1), { rd := id :: rd, wr := [(id, { o with ver := ver + 1, elems := o.elems ++ ys })] }) else none else none else none else none
            | none => none
          | _ => none
        else none
        | none => none
      else none
      | none => none
    | none => none
  | _ => none

theorem heap_drew_alloc_old (w : World) (o : Go.Obj) (b : Nat) (h : b < w.heap.size) : (w.drew.alloc o).heap[b]? = w.heap[b]? := heap_alloc_old w.drew o b h

/-- A new row behind whatever stood there. -/
theorem grown_row (hr : RelH w G H) (id : Nat) (o' : Obj) (e : TypeId) (cap : Nat) (vs : List Value) (zs : Array Value) (hcur : (H id = none ∧ o'.ver = 0) ∨ ∃ o, H id = some o ∧ o.frozen = false ∧ o'.ver = o.ver + 1)
    (hfr : o'.frozen = false) (hpos : 0 < o'.esz) (hfl : Fl w G o'.esz o'.elems vs) (hlen : o'.elems.length ≤ 281474976710656) (hcap : o'.elems.length ≤ cap) (hz : zs.size = (cap - o'.elems.length) * o'.esz) :
    ∃ G', Ra (w.drew.alloc (.cells (vs.toArray ++ zs) e)) G' (.row id o'.ver) (.slice (some ⟨w.heap.size, 0, none⟩) o'.elems.length cap) ∧
      RelH (w.drew.alloc (.cells (vs.toArray ++ zs) e)) G' (upd H [(id, o')]) ∧ Went w G H (w.drew.alloc (.cells (vs.toArray ++ zs) e)) G' (upd H [(id, o')]) := by
  have hb : (w.drew.alloc (.cells (vs.toArray ++ zs) e)).heap[w.heap.size]? = some (.cells (vs.toArray ++ zs) e (0, 0)) := heap_alloc_new w.drew _
  have hm := relH_put (w' := w.drew.alloc (.cells (vs.toArray ++ zs) e)) hr id o' ⟨w.heap.size, o'.esz, o'.elems.length, cap, false, none⟩ hcur (fun b hb' _ => heap_drew_alloc_old w _ b hb') (by simp) rfl rfl rfl hfr (fun _ => .inl (Nat.le_refl _))
    ⟨rfl, hpos, rfl, hcap, hlen, fun h => (by cases h), fun _ => ⟨_, e, hb, ?_, fun i j x c e1 e2 => hfl.pad zs e1 e2⟩, fun x hx => (hfl.2.1 x hx).2, fun x hx => (hfl.2.1 x hx).1⟩
  · refine ⟨_, ?_, hm.1, hm.2⟩
    have := Ra.row (w := w.drew.alloc (.cells (vs.toArray ++ zs) e)) (G := G.with id o'.ver ⟨w.heap.size, o'.esz, o'.elems.length, cap, false, none⟩) id o'.ver ⟨w.heap.size, o'.esz, o'.elems.length, cap, false, none⟩ (by simp [Ctx.with])
    simpa [Hdr.val] using this
  · have h1 : vs.length = o'.elems.length * o'.esz := hfl.1
    have h2 : (o'.elems.length + (cap - o'.elems.length)) * o'.esz = o'.elems.length * o'.esz + (cap - o'.elems.length) * o'.esz := Nat.add_mul ..
    have h3 : o'.elems.length + (cap - o'.elems.length) = cap := by omega
    rw [h3] at h2
    simp [h1, hz, h2]

theorem aAppend_snd (hr : RelH w G H) {nid : Nat} {t tx ty : TypeId} {x y : AV} (hid : (∀ id ver, x ≠ .row id ver) → H nid = none) {ux uy : Value} (hx : Ra w G x ux) (hy : Ra w G y uy) {v : AV} {fx : Fx} (h : aAppend P H nid t tx x y = some (v, fx)) :
    Snd P w G H (Builtin.append_ #[t, tx] ty #[ux, uy]) v fx.wr := by
  unfold aAppend at h
  split at h
  · rename_i e ht
    split at h
    · rename_i i hi
      split at h
      · rename_i z hz
        split at h
        · rename_i hpos
          obtain ⟨hp1, hp2, hp3⟩ := hpos
          split at h
          · rename_i ys ey rd hys
            split at h
            · rename_i hey
              obtain ⟨news, hsrc, hfl, hyl⟩ := src_of hr hy hys hey
              have nilcase : H nid = none → ∀ (a : Option Addr), ux = .slice a 0 0 → (if ys.length * i.bytes ≤ limB then some (AV.row nid 0, ({ rd := nid :: rd, wr := [(nid, ⟨false, 0, i.size, ys⟩)] } : Fx)) else none) = some (v, fx) → Snd P w G H (Builtin.append_ #[t, tx] ty #[ux, uy]) v fx.wr := by
                intro hid a hux h
                subst hux
                split at h
                · rename_i hlim
                  simp only [Option.some.injEq, Prod.mk.injEq] at h
                  obtain ⟨rfl, rfl⟩ := h
                  by_cases hnil : ys = []
                  · subst hnil
                    have hn0 : news = [] := List.eq_nil_of_length_eq_zero (by rw [hfl.1]; simp)
                    subst hn0
                    have hrun := run_append_nothing (P := P) w t tx ty e i ht hi a 0 0 (Nat.le_refl _) uy hsrc
                    have hm := relH_put (w' := w) hr nid ⟨false, 0, i.size, []⟩ ⟨0, i.size, 0, 0, true, a⟩ (.inl ⟨hid, rfl⟩) (fun _ _ _ => rfl) (Nat.le_refl _) rfl rfl rfl rfl (fun h => by cases h)
                      ⟨rfl, hp1, rfl, Nat.le_refl _, by simp, fun _ => rfl, fun h => (by cases h), fun x hx => (by cases hx), fun x hx => (by cases hx)⟩
                    refine ⟨_, w, _, hrun, ?_, hm.1, hm.2⟩
                    have := Ra.row (w := w) (G := G.with nid 0 ⟨0, i.size, 0, 0, true, a⟩) nid 0 ⟨0, i.size, 0, 0, true, a⟩ (by simp [Ctx.with])
                    simpa [Hdr.val] using this
                  · have hl0 : 0 < ys.length := List.length_pos_iff.2 hnil
                    have hle : ys.length ≤ limB := Nat.le_trans (Nat.le_mul_of_pos_right _ hp2) hlim
                    have hrun := run_append_grow_src (P := P) w t tx ty e i z ht hi hz a 0 0 [] (by cases a <;> simp [Builtin.firstCells, loadCells, loadCellsFrom]) uy ys.length news hsrc (by omega) (by unfold limB at hle; omega) (growslice_fits (by omega) (by simpa [limB] using hlim))
                    obtain ⟨G', g1, g2, g3⟩ := grown_row hr nid ⟨false, 0, i.size, ys⟩ e (grownCap w (0 + ys.length) 0 e) news (Builtin.zeroCells z.cells (grownCap w (0 + ys.length) 0 e - (0 + ys.length))) (.inl ⟨hid, rfl⟩) rfl hp1 hfl hyl
                      (by have := grownCap_ge w (0 + ys.length) 0 e; simpa using this) (by rw [size_zeroCells, hp3]; simp)
                    refine ⟨_, _, G', hrun, ?_, ?_, ?_⟩
                    · simpa using g1
                    · simpa using g2
                    · simpa using g3
                · cases h
              split at h
              · have hd := hx.of_d
                cases hd
                exact nilcase (hid fun _ _ e => by cases e) none rfl h
              · have hd := hx.of_d
                cases hd
                exact nilcase (hid fun _ _ e => by cases e) _ rfl h
              · rename_i id ver
                split at h
                · rename_i o ho
                  split at h
                  · rename_i hv
                    split at h
                    · rename_i hfz
                      split at h
                      · rename_i hes
                        split at h
                        · rename_i hlim
                          simp only [Option.some.injEq, Prod.mk.injEq] at h
                          obtain ⟨rfl, rfl⟩ := h
                          subst hv
                          have hele : elems H (.row id o.ver) = some (o.elems, some o.esz, [id]) := by simp [elems, ho]
                          have hu' : srcElems P H t (.row id o.ver) = some (o.elems, some o.esz, [id]) := by simp [srcElems, ht, hele]
                          obtain ⟨olds, osrc, ofl, oll⟩ := src_of (P := P) hr hx hu' (n := i.size) (.inr (by rw [hes]))
                          have hfl2 : Fl w G i.size (o.elems ++ ys) (olds ++ news) := ofl.append hfl
                          have hle : o.elems.length + ys.length ≤ limB := Nat.le_trans (Nat.le_mul_of_pos_right _ hp2) hlim
                          cases hx with
                          | row _ _ hd hh =>
                          have ok := hr.at_ ho hh
                          have hlen := ok.len
                          by_cases hnil : ys = []
                          · subst hnil
                            have hn0 : news = [] := List.eq_nil_of_length_eq_zero (by rw [hfl.1]; simp)
                            subst hn0
                            have hval : ∃ a, hd.val = .slice a hd.len hd.cap ∨ (hd.val = .slice a 0 0) := by
                              unfold Hdr.val; split
                              · exact ⟨_, .inr rfl⟩
                              · exact ⟨_, .inl rfl⟩
                            have hrun : (Builtin.append_ #[t, tx] ty #[hd.val, uy]).run P w = .ok hd.val w := by
                              obtain ⟨a, e1 | e1⟩ := hval
                              · rw [e1]; exact run_append_nothing (P := P) w t tx ty e i ht hi a _ _ ok.cap uy hsrc
                              · rw [e1]; exact run_append_nothing (P := P) w t tx ty e i ht hi a _ _ (Nat.le_refl _) uy hsrc
                            have hm := relH_put (w' := w) hr id { o with ver := o.ver + 1, elems := o.elems ++ [] } hd (.inr ⟨o, ho, hfz, rfl⟩) (fun _ _ _ => rfl) (Nat.le_refl _) rfl rfl rfl hfz (fun hn => .inr ⟨o, hd, ho, hh, hn, rfl⟩)
                              ⟨ok.esz, ok.pos, by simp [ok.len], ok.cap, ok.big, fun hn => (by simp [ok.nil hn]), fun hn => (by simpa using ok.cells hn), fun x hx => ok.size x (by simpa using hx), fun x hx => ok.lies x (by simpa using hx)⟩
                            exact ⟨_, w, _, hrun, Ra.row id (o.ver + 1) hd (by simp [Ctx.with]), hm.1, hm.2⟩
                          · have hl0 : 0 < ys.length := List.length_pos_iff.2 hnil
                            by_cases hroom : hd.isNil = false ∧ hd.len + ys.length ≤ hd.cap
                            · obtain ⟨hnl, hroom⟩ := hroom
                              obtain ⟨vs, te, hb, hsz, hcells⟩ := ok.cells hnl
                              have hes2 : hd.esz = i.size := by rw [ok.esz, hes]
                              have hnl' : news.length = ys.length * i.size := hfl.1
                              have hfit : hd.len * i.size + news.length ≤ vs.size := by
                                have h1 : (hd.len + ys.length) * i.size ≤ hd.cap * i.size := Nat.mul_le_mul_right _ hroom
                                rw [Nat.add_mul] at h1
                                rw [hes2] at hsz
                                omega
                              have hrun := run_append_room_row (P := P) t tx ty e i ht hi hd.blk hd.len hd.cap vs te hb uy ys.length news hsrc hroom hfit
                              have hbw := setRow_heap w hd.blk vs (vs.toList.take (hd.len * i.size) ++ news ++ vs.toList.drop (hd.len * i.size + news.length)).toArray te (0, 0) hb
                              have hm := relH_put (w' := w.setRow hd.blk (vs.toList.take (hd.len * i.size) ++ news ++ vs.toList.drop (hd.len * i.size + news.length)).toArray) hr id { o with ver := o.ver + 1, elems := o.elems ++ ys } ⟨hd.blk, hd.esz, hd.len + ys.length, hd.cap, false, hd.at0⟩ (.inr ⟨o, ho, hfz, rfl⟩)
                                (fun b _ hne => setRow_other w hd.blk b _ (hne o hd ho hh hnl)) (by simp) rfl rfl rfl hfz (fun _ => .inr ⟨o, hd, ho, hh, hnl, rfl⟩)
                                ⟨ok.esz, ok.pos, by simp [hlen], hroom, by simp only [hlen]; unfold limB at hle; omega, fun hn => (by cases hn), fun _ => ⟨_, te, hbw, ?_, fun i' j x c e1 e2 => ?_⟩, fun x hx => ?_, fun x hx => ?_⟩
                              · have hval : hd.val = .slice (some ⟨hd.blk, 0, none⟩) hd.len hd.cap := by unfold Hdr.val; rw [hnl]; rfl
                                refine ⟨_, _, _, by rw [hval]; exact hrun, ?_, hm.1, hm.2⟩
                                have := Ra.row (w := w.setRow hd.blk (vs.toList.take (hd.len * i.size) ++ news ++ vs.toList.drop (hd.len * i.size + news.length)).toArray) (G := G.with id (o.ver + 1) ⟨hd.blk, hd.esz, hd.len + ys.length, hd.cap, false, hd.at0⟩) id (o.ver + 1) ⟨hd.blk, hd.esz, hd.len + ys.length, hd.cap, false, hd.at0⟩ (by simp [Ctx.with])
                                simpa [Hdr.val] using this
                              · simp only [List.size_toArray, List.length_append, List.length_take, List.length_drop, Array.length_toList]
                                rw [hes2] at hsz ⊢
                                omega
                              · rw [getD_append3]
                                have hta : (vs.toList.take (hd.len * i.size)).length = hd.len * i.size := by simp; omega
                                rw [hta, hes2]
                                have hj : j < i.size := by
                                  have hx := List.mem_of_getElem? e1
                                  rw [← (hfl2.2.1 x hx).2]
                                  exact (List.getElem?_eq_some_iff.1 e2).1
                                by_cases hi' : i' < o.elems.length
                                · rw [List.getElem?_append_left hi'] at e1
                                  have hlt : i' * i.size + j < hd.len * i.size := by rw [hlen]; exact idx_lt hi' hj
                                  rw [if_pos hlt]
                                  have := hcells i' j x c e1 e2
                                  rw [hes2] at this
                                  have hk : (vs.toList.take (hd.len * i.size)).getD (i' * i.size + j) undef = vs.getD (i' * i.size + j) undef := by
                                    simp only [List.getD_eq_getElem?_getD, List.getElem?_take, Array.getD_eq_getD_getElem?]
                                    rw [if_pos hlt, Array.getElem?_toList]
                                  rw [hk]; exact this
                                · rw [List.getElem?_append_right (by omega)] at e1
                                  have hge : hd.len * i.size ≤ i' * i.size := Nat.mul_le_mul_right _ (by omega)
                                  have hlt : i' - o.elems.length < ys.length := (List.getElem?_eq_some_iff.1 e1).1
                                  have hlt2 := idx_lt hlt hj
                                  have e3 : i' * i.size + j - hd.len * i.size = (i' - o.elems.length) * i.size + j := by
                                    rw [Nat.sub_mul, ← hlen]; omega
                                  rw [if_neg (by omega), if_pos (by rw [hnl']; omega), e3]
                                  exact hfl.2.2 _ j x c e1 e2
                              · rw [hes]; exact (hfl2.2.1 x hx).2
                              · exact (hfl2.2.1 x hx).1
                            · have hval : ∃ a c, hd.val = .slice a o.elems.length c ∧ c < o.elems.length + ys.length := by
                                by_cases hnl : hd.isNil = true
                                · refine ⟨hd.at0, 0, ?_, ?_⟩
                                  · unfold Hdr.val; rw [if_pos hnl, ok.nil hnl]; rfl
                                  · omega
                                · have hnl' : hd.isNil = false := by simpa using hnl
                                  refine ⟨some ⟨hd.blk, 0, none⟩, hd.cap, by unfold Hdr.val; rw [hnl', hlen]; rfl, ?_⟩
                                  have : ¬ (hd.len + ys.length ≤ hd.cap) := fun hq => hroom ⟨hnl', hq⟩
                                  omega
                              obtain ⟨a, c, hval, hc⟩ := hval
                              rw [hval] at osrc ⊢
                              have hrun := run_append_grow_src (P := P) w t tx ty e i z ht hi hz a o.elems.length c olds osrc.cellsD uy ys.length news hsrc hc (by unfold limB at hle; omega) (growslice_fits hc (by simpa [limB] using hlim))
                              obtain ⟨G', g1, g2, g3⟩ := grown_row hr id { o with ver := o.ver + 1, elems := o.elems ++ ys } e (grownCap w (o.elems.length + ys.length) c e) (olds ++ news) (Builtin.zeroCells z.cells (grownCap w (o.elems.length + ys.length) c e - (o.elems.length + ys.length)))
                                (.inr ⟨o, ho, hfz, rfl⟩) hfz (by rw [hes]; exact hp1) (by rw [hes]; exact hfl2) (by simp; unfold limB at hle; omega) (by have := grownCap_ge w (o.elems.length + ys.length) c e; simpa using this) (by rw [size_zeroCells, hp3, hes]; simp)
                              refine ⟨_, _, G', hrun, ?_, g2, g3⟩
                              simpa using g1
                        · cases h
                      · cases h
                    · cases h
                  · cases h
                · cases h
              · cases h
            · cases h
          · cases h
        · cases h
      · cases h
    · cases h
  · cases h
end
end Go.Sv
