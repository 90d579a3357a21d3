/- How the operations act on abstract values, part 3: stores, new variables, literals. -/
import Derived.Test.YtlfbopiefjpeaaaDoorSvD
import Derived.Laws.Rows
import Derived.Laws.AppendOwn
set_option linter.unusedSimpArgs false
set_option linter.unusedVariables false
namespace Go.Sv
open Go

/-- A constant. -/
def ofLeaf : Value → Option DV
  | .bool b => some (.bool b)
  | .int k n => some (.int k n)
  | .string s => if s.size ≤ 1000000 then some (.str s) else none
  | .nilIface => some .nilFace
  | .pointer none => some .nilPtr
  | .slice none 0 0 => some .nilSl
  | .nilFunc => some .nilFn
  | .iface t (.int k n) => some (.face t (.int k n))
  | _ => none
def ofLeaves : List Value → Option (List DV)
  | [] => some []
  | v :: vs => match ofLeaf v, ofLeaves vs with
    | some x, some xs => some (x :: xs)
    | _, _ => none
def ofVal : Value → Option DV
  | .agg cs => match ofLeaves cs.toList with
    | some xs => some (.agg xs)
    | none => none
  | v => ofLeaf v

theorem ofLeaf_rd {w : World} {im : Nat → Prop} {v : Value} {x : DV} (h : ofLeaf v = some x) : Rd w im x v ∧ x.leaf = true := by
  unfold ofLeaf at h
  split at h
  all_goals (try (split at h)) <;> (try cases h)
  all_goals first
    | exact ⟨.bool _, rfl⟩ | exact ⟨.int _ _, rfl⟩ | exact ⟨.nilFace, rfl⟩ | exact ⟨.nilPtr, rfl⟩ | exact ⟨.nilSl, rfl⟩ | exact ⟨.nilFn, rfl⟩ | exact ⟨.face _ _ _ (.int _ _), rfl⟩
    | exact ⟨.str _ (by unfold maxLen; omega), rfl⟩
theorem ofLeaves_rd {w : World} {im : Nat → Prop} {vs : List Value} {xs : List DV} (h : ofLeaves vs = some xs) :
    vs.length = xs.length ∧ (∀ c ∈ xs, c.leaf = true) ∧ ∀ (j : Nat) (c : DV), xs[j]? = some c → ∃ u, vs[j]? = some u ∧ Rd w im c u := by
  induction vs generalizing xs with
  | nil => simp [ofLeaves] at h; subst h; exact ⟨rfl, fun c hc => (by cases hc), fun j c e => (by simp at e)⟩
  | cons v vs ih =>
    simp only [ofLeaves] at h
    split at h
    · rename_i x xs' h1 h2
      simp only [Option.some.injEq] at h
      subst h
      obtain ⟨a, b, c⟩ := ih h2
      refine ⟨by simp [a], fun c' hc => ?_, fun j c' e => ?_⟩
      · rcases List.mem_cons.1 hc with rfl | hc
        · exact (ofLeaf_rd (w := w) (im := im) h1).2
        · exact b c' hc
      · cases j with
        | zero => simp only [List.getElem?_cons_zero, Option.some.injEq] at e; subst e; exact ⟨v, rfl, (ofLeaf_rd h1).1⟩
        | succ n => simp only [List.getElem?_cons_succ] at e ⊢; exact c n c' e
    · cases h
theorem ofVal_rd {w : World} {im : Nat → Prop} {v : Value} {x : DV} (h : ofVal v = some x) : Rd w im x v ∧ x.lies = true := by
  unfold ofVal at h
  split at h
  · rename_i cs
    split at h
    · rename_i xs h1
      simp only [Option.some.injEq] at h
      subst h
      obtain ⟨a, b, c⟩ := ofLeaves_rd (w := w) (im := im) h1
      refine ⟨.agg xs cs (by simpa using a) b fun j d e => ?_, List.all_eq_true.2 b⟩
      obtain ⟨u, hu, hr⟩ := c j d e
      have : cs.getD j undef = u := by
        simp only [Array.getElem?_toList] at hu
        simp [Array.getD_eq_getD_getElem?, hu]
      rw [this]; exact hr
    · cases h
  · obtain ⟨h1, h2⟩ := ofLeaf_rd (w := w) (im := im) h
    refine ⟨h1, ?_⟩
    cases x <;> simp_all [DV.leaf, DV.lies]

section
variable {P : Program} {w : World} {G : Ctx} {H : Hf}

/-- A new variable in memory that holds a value. -/
theorem new_var (hr : RelH w G H) {id : Nat} (hid : H id = none) (t : TypeId) {x : AV} {v : Value} (hx : Ra w G x v) (hl : x.lies = true) (hpos : 0 < x.cells.length) :
    ∃ G', Ra (w.alloc (.cells v.cells t)) G' (.ptr id 0 0 0) (.pointer (some ⟨w.heap.size, 0, none⟩)) ∧ RelH (w.alloc (.cells v.cells t)) G' (upd H [(id, ⟨false, 0, x.cells.length, [x]⟩)]) ∧
      Went w G H (w.alloc (.cells v.cells t)) G' (upd H [(id, ⟨false, 0, x.cells.length, [x]⟩)]) := by
  obtain ⟨h1, h2⟩ := hx.cells hl
  have hb : (w.alloc (.cells v.cells t)).heap[w.heap.size]? = some (.cells v.cells t (0, 0)) := heap_alloc_new w _
  have := relH_put (w' := w.alloc (.cells v.cells t)) hr id ⟨false, 0, x.cells.length, [x]⟩ ⟨w.heap.size, x.cells.length, 1, 1, false, none⟩ (.inl ⟨hid, rfl⟩)
    (fun b hb _ => heap_alloc_old w _ b hb) (by simp) rfl rfl rfl rfl (fun _ => .inl (Nat.le_refl _))
    ⟨rfl, hpos, rfl, Nat.le_refl _, by simp, fun h => (by cases h), fun _ => ⟨v.cells, t, hb, by simp [h1], fun i j y c e1 e2 => ?_⟩, fun y hy => ?_, fun y hy => ?_⟩
  · exact ⟨_, by have := Ra.ptr (w := w.alloc (.cells v.cells t)) (G := G.with id 0 ⟨w.heap.size, x.cells.length, 1, 1, false, none⟩) id 0 0 0 ⟨w.heap.size, x.cells.length, 1, 1, false, none⟩ (by simp [Ctx.with]) rfl; simpa using this, this.1, this.2⟩
  · cases i with
    | zero =>
      simp only [List.getElem?_cons_zero, Option.some.injEq] at e1
      subst e1
      simpa using h2 j c e2
    | succ n => simp at e1
  · simp only [List.mem_singleton] at hy; subst hy; rfl
  · simp only [List.mem_singleton] at hy; subst hy; exact hl

def aBox (nid : Nat) (x : AV) : Option (AV × Fx) :=
  if x.lies then if 0 < x.cells.length then some (.ptr nid 0 0 0, { rd := [nid], wr := [(nid, ⟨false, 0, x.cells.length, [x]⟩)] }) else none else none
theorem aBox_snd (hr : RelH w G H) {nid : Nat} (hid : H nid = none) (t : TypeId) {x : AV} {u : Value} (hu : Ra w G x u) {v : AV} {fx : Fx} (h : aBox nid x = some (v, fx)) : Snd P w G H (Instr.box t u) v fx.wr := by
  unfold aBox at h
  split at h
  · rename_i hl
    split at h
    · rename_i hp
      simp only [Option.some.injEq, Prod.mk.injEq] at h
      obtain ⟨rfl, rfl⟩ := h
      obtain ⟨G', h1, h2, h3⟩ := new_var hr hid t hu hl hp
      exact ⟨_, _, G', by simp [Instr.box, newVar, newRow], h1, h2, h3⟩
    · cases h
  · cases h

def aAlloc (P : Program) (t : TypeId) (nid : Nat) : Option (AV × Fx) := match P.info? t with
  | some i => match i.zero with
    | some z => match ofVal z with
      | some x => aBox nid (.d x)
      | none => none
    | none => none
  | none => none
theorem aAlloc_snd (hr : RelH w G H) {nid : Nat} (hid : H nid = none) {t : TypeId} {v : AV} {fx : Fx} (h : aAlloc P t nid = some (v, fx)) : Snd P w G H (Instr.alloc t true (.tuple #[])) v fx.wr := by
  unfold aAlloc at h
  split at h
  · rename_i i hi
    split at h
    · rename_i z hz
      split at h
      · rename_i x hx
        obtain ⟨u, w', G', h1, h2⟩ := aBox_snd (P := P) hr hid t (.d x z (ofVal_rd (im := G.im) hx).1) h
        refine ⟨u, w', G', ?_, h2⟩
        simpa [Instr.box, Instr.alloc, zeroValue, typeInfo, hi, hz, newVar, newRow] using h1
      · cases h
    · cases h
  · cases h

def AV.isAgg : AV → Bool
  | .d (.agg _) | .agg _ => true
  | _ => false
/-- A value's cells are others now. -/
def AV.withCells (x : AV) (cs : List AV) : AV := if x.isAgg then mkAgg cs else cs.headD x

theorem toDs_length {xs : List AV} {ys : List DV} (h : toDs xs = some ys) : ys.length = xs.length := by
  rw [toDs_some h]; simp
theorem mkAgg_cells {cs : List AV} : (mkAgg cs).cells = cs := by
  unfold mkAgg
  split
  · rename_i ds h
    rw [toDs_some h]; rfl
  · rfl
theorem mkAgg_lies {cs : List AV} (h : ∀ c ∈ cs, c.leaf = true) : (mkAgg cs).lies = true := by
  unfold mkAgg
  split
  · rename_i ds hd
    rw [toDs_some hd] at h
    exact List.all_eq_true.2 fun c hc => h (.d c) (List.mem_map.2 ⟨c, hc, rfl⟩)
  · exact List.all_eq_true.2 h
theorem withCells_cells {x : AV} {cs : List AV} (hx : x.lies = true) (hl : ∀ c ∈ cs, c.leaf = true) (hlen : cs.length = x.cells.length) : (x.withCells cs).cells = cs ∧ (x.withCells cs).lies = true := by
  unfold AV.withCells
  split
  · exact ⟨mkAgg_cells, mkAgg_lies hl⟩
  · rename_i ha
    have h1 : x.cells.length = 1 := by
      cases x with
      | d v => cases v <;> simp_all [AV.isAgg, AV.cells, DV.cells, AV.lies, DV.lies]
      | _ => simp_all [AV.isAgg, AV.cells, AV.lies]
    match cs, hlen with
    | [c], _ =>
      have hc := hl c (List.mem_singleton.2 rfl)
      simp only [List.headD_cons]
      cases c with
      | d v => cases v <;> simp_all [AV.leaf, DV.leaf, AV.cells, DV.cells, AV.lies, DV.lies]
      | _ => simp_all [AV.leaf, AV.cells, AV.lies]
    | [], hlen => simp [h1] at hlen
    | _ :: _ :: _, hlen => simp [h1] at hlen

def aStore (P : Program) (H : Hf) (t : TypeId) (addr x : AV) : Option (AV × Fx) := match addr with
  | .ptr id ver i off => match H id with
    | some o => if o.ver = ver then if o.frozen = false then match o.elems[i]? with
        | some old => match szT P t with
          | some n => if x.lies = true ∧ x.cells.length = n ∧ off + n ≤ o.esz then
              some (.un, { rd := [id], wr := [(id, { o with elems := o.elems.set i (old.withCells (old.cells.take off ++ x.cells ++ old.cells.drop (off + n))) })] }) else none
          | none => none
        | none => none
      else none else none
    | none => none
  | _ => none

theorem set_getElem? {α : Type} (l : List α) (i k : Nat) (a x : α) (h : (l.set i a)[k]? = some x) : (k = i ∧ x = a) ∨ (k ≠ i ∧ l[k]? = some x) := by
  rw [List.getElem?_set] at h
  by_cases e : i = k
  · rw [if_pos e] at h
    split at h
    · simp only [Option.some.injEq] at h; exact .inl ⟨e.symm, h.symm⟩
    · cases h
  · rw [if_neg e] at h; exact .inr ⟨fun e' => e e'.symm, h⟩

/-- The world in which a row of cells stands otherwise. -/
theorem setRow_frame (w : World) (g : Nat) (cs : Array Value) : (∀ b, b ≠ g → (w.setRow g cs).heap[b]? = w.heap[b]?) := fun b h => setRow_other w g b cs h

theorem getD_append3 (a b c : List Value) (k : Nat) : (a ++ b ++ c).toArray.getD k undef = if k < a.length then a.getD k undef else if k < a.length + b.length then b.getD (k - a.length) undef else c.getD (k - (a.length + b.length)) undef := by
  simp only [Array.getD_eq_getD_getElem?, List.getElem?_toArray, List.getD_eq_getElem?_getD]
  by_cases h1 : k < a.length
  · rw [if_pos h1, List.getElem?_append_left (by simp; omega), List.getElem?_append_left h1]
  · rw [if_neg h1]
    by_cases h2 : k < a.length + b.length
    · rw [if_pos h2, List.getElem?_append_left (by simp; omega), List.getElem?_append_right (by omega)]
    · rw [if_neg h2, List.getElem?_append_right (by simp; omega)]; simp

theorem aStore_snd (hr : RelH w G H) {t : TypeId} {addr x : AV} {ua ux : Value} (ha : Ra w G addr ua) (hx : Ra w G x ux) {v : AV} {fx : Fx} (h : aStore P H t addr x = some (v, fx)) :
    ∃ w', (Instr.storeAt t ua ux).run P w = .ok () w' ∧ RelH w' G (upd H fx.wr) ∧ Went w G H w' G (upd H fx.wr) ∧ v = .un := by
  unfold aStore at h
  split at h
  · rename_i id ver i off
    split at h
    · rename_i o ho
      split at h
      · rename_i hv
        split at h
        · rename_i hf
          split at h
          · rename_i old hold
            split at h
            · rename_i n hn
              split at h
              · rename_i hc
                obtain ⟨hl, hlen, hoff⟩ := hc
                simp only [Option.some.injEq, Prod.mk.injEq] at h
                obtain ⟨rfl, rfl⟩ := h
                subst hv
                cases ha with
                | ptr _ _ _ _ hd hh hnil =>
                  have ok := hr.at_ ho hh
                  obtain ⟨vs, ty, hb, hsz, hcells⟩ := ok.cells hnil
                  obtain ⟨c1, c2⟩ := hx.cells hl
                  have hi : i < o.elems.length := (List.getElem?_eq_some_iff.1 hold).1
                  have holdsz : old.cells.length = o.esz := ok.size old (List.mem_of_getElem? hold)
                  have holdl : old.lies = true := ok.lies old (List.mem_of_getElem? hold)
                  have hroom : i * hd.esz + hd.esz ≤ vs.size := by
                    have h1 : i + 1 ≤ hd.cap := by have := ok.len; have := ok.cap; omega
                    have h2 : (i + 1) * hd.esz ≤ hd.cap * hd.esz := Nat.mul_le_mul_right _ h1
                    have h3 : (i + 1) * hd.esz = i * hd.esz + hd.esz := Nat.succ_mul ..
                    omega
                  have hesz := ok.esz
                  have huxlen : ux.cells.toList.length = n := by simp [c1, hlen]
                  have hone : ∀ u ∈ ux.cells.toList, u.oneCell' = true := by
                    intro u hu
                    obtain ⟨j, hj, e⟩ := List.getElem_of_mem hu
                    have hj' : j < x.cells.length := by simp [c1] at hj; exact hj
                    have := c2 j _ (List.getElem?_eq_getElem hj')
                    have hq : ux.cells.getD j undef = u := by
                      simp only [Array.getElem_toList] at e
                      have hj'' : j < ux.cells.size := by omega
                      simp [Array.getD, hj'', e]
                    rw [hq] at this
                    exact (this.one (alies_leaf hl _ (List.getElem_mem hj'))).1
                  have hst := run_storeCells_at P hd.blk (i * hd.esz + off) ty ux.cells.toList 0 vs w hb (by rw [huxlen]; omega) hone
                  simp only [Nat.add_zero] at hst
                  have hnewcells : ∀ c ∈ old.cells.take off ++ x.cells ++ old.cells.drop (off + n), c.leaf = true := by
                    intro c hc
                    simp only [List.mem_append] at hc
                    rcases hc with (hc | hc) | hc
                    · exact alies_leaf holdl c (List.mem_of_mem_take hc)
                    · exact alies_leaf hl c hc
                    · exact alies_leaf holdl c (List.mem_of_mem_drop hc)
                  have hnewlen : (old.cells.take off ++ x.cells ++ old.cells.drop (off + n)).length = old.cells.length := by simp; omega
                  obtain ⟨hw1, hw2⟩ := withCells_cells holdl hnewcells hnewlen
                  have hbw : (w.setRow hd.blk (vs.toList.take (i * hd.esz + off) ++ ux.cells.toList ++ vs.toList.drop (i * hd.esz + off + ux.cells.toList.length)).toArray).heap[hd.blk]? = some (.cells (vs.toList.take (i * hd.esz + off) ++ ux.cells.toList ++ vs.toList.drop (i * hd.esz + off + ux.cells.toList.length)).toArray ty (0, 0)) := setRow_heap w hd.blk vs _ ty (0, 0) hb
                  have hmain := relH_write (w' := w.setRow hd.blk (vs.toList.take (i * hd.esz + off) ++ ux.cells.toList ++ vs.toList.drop (i * hd.esz + off + ux.cells.toList.length)).toArray) hr ho hf hh hnil
                    (o.elems.set i (old.withCells (old.cells.take off ++ x.cells ++ old.cells.drop (off + n)))) (setRow_frame _ _ _) (by simp) rfl rfl rfl
                    ⟨ok.esz, ok.pos, by simp [ok.len], ok.cap, ok.big, fun hn' => (by rw [hnil] at hn'; cases hn'), fun _ => ⟨_, ty, hbw, ?_, ?_⟩, ?_, ?_⟩
                  · refine ⟨_, ?_, hmain.1, hmain.2, rfl⟩
                    simp only [Instr.storeAt, Instr.sureAddr, Sem.run_bind, Sem.run_pure, Result.andThen_ok, storeVar, run_sizeOf hn]
                    rw [if_neg (by simp [c1, hlen])]
                    exact hst
                  · simp only [List.size_toArray, List.length_append, List.length_take, List.length_drop, Array.length_toList, huxlen]
                    have : ux.cells.size = n := by rw [c1, hlen]
                    omega
                  · intro i' j y c e1 e2
                    rw [getD_append3]
                    have hjl : j < y.cells.length := (List.getElem?_eq_some_iff.1 e2).1
                    have hta : (vs.toList.take (i * hd.esz + off)).length = i * hd.esz + off := by simp; omega
                    rw [hta, huxlen]
                    rcases set_getElem? _ _ _ _ _ e1 with ⟨rfl, rfl⟩ | ⟨hne, e1'⟩
                    · rw [hw1] at e2
                      have hj2 : j < o.esz := by
                        have := (List.getElem?_eq_some_iff.1 e2).1
                        rw [hnewlen, holdsz] at this; exact this
                      by_cases hA : j < off
                      · rw [if_pos (by omega)]
                        rw [List.append_assoc, List.getElem?_append_left (by simp; omega), List.getElem?_take, if_pos hA] at e2
                        have := hcells i' j old c hold e2
                        have hk : (vs.toList.take (i' * hd.esz + off)).getD (i' * hd.esz + j) undef = vs.getD (i' * hd.esz + j) undef := by
                          simp only [List.getD_eq_getElem?_getD, List.getElem?_take, Array.getD_eq_getD_getElem?]
                          rw [if_pos (by omega), Array.getElem?_toList]
                        rw [hk]; exact this
                      · rw [if_neg (by omega)]
                        by_cases hB : j < off + n
                        · rw [if_pos (by omega)]
                          rw [List.append_assoc, List.getElem?_append_right (by simp; omega), List.getElem?_append_left (by simp; omega)] at e2
                          have hto : (old.cells.take off).length = off := by simp; omega
                          rw [hto] at e2
                          have := c2 _ c e2
                          have hk : ux.cells.toList.getD (i' * hd.esz + j - (i' * hd.esz + off)) undef = ux.cells.getD (j - off) undef := by
                            rw [show i' * hd.esz + j - (i' * hd.esz + off) = j - off from by omega]
                            simp [List.getD_eq_getElem?_getD, Array.getD_eq_getD_getElem?]
                          rw [hk]; exact this
                        · rw [if_neg (by omega)]
                          rw [List.getElem?_append_right (by simp; omega)] at e2
                          have hto : (old.cells.take off ++ x.cells).length = off + n := by simp; omega
                          rw [hto, List.getElem?_drop] at e2
                          have := hcells i' _ old c hold e2
                          have hk : (vs.toList.drop (i' * hd.esz + off + n)).getD (i' * hd.esz + j - (i' * hd.esz + off + n)) undef = vs.getD (i' * hd.esz + (off + n + (j - (off + n)))) undef := by
                            simp only [List.getD_eq_getElem?_getD, List.getElem?_drop, Array.getD_eq_getD_getElem?, Array.getElem?_toList]
                            congr 2; omega
                          rw [hk]; exact this
                    · have hysz : y.cells.length = o.esz := ok.size y (List.mem_of_getElem? e1')
                      have hthis := hcells i' j y c e1' e2
                      by_cases hlt : i' < i
                      · have hle : i' * hd.esz + hd.esz ≤ i * hd.esz := by
                          have h2 : (i' + 1) * hd.esz ≤ i * hd.esz := Nat.mul_le_mul_right _ (by omega)
                          have h3 : (i' + 1) * hd.esz = i' * hd.esz + hd.esz := Nat.succ_mul ..
                          omega
                        rw [if_pos (by omega)]
                        have hk : (vs.toList.take (i * hd.esz + off)).getD (i' * hd.esz + j) undef = vs.getD (i' * hd.esz + j) undef := by
                          simp only [List.getD_eq_getElem?_getD, List.getElem?_take, Array.getD_eq_getD_getElem?]
                          rw [if_pos (by omega), Array.getElem?_toList]
                        rw [hk]; exact hthis
                      · have hle : i * hd.esz + hd.esz ≤ i' * hd.esz := by
                          have h2 : (i + 1) * hd.esz ≤ i' * hd.esz := Nat.mul_le_mul_right _ (by omega)
                          have h3 : (i + 1) * hd.esz = i * hd.esz + hd.esz := Nat.succ_mul ..
                          omega
                        rw [if_neg (by omega), if_neg (by omega)]
                        have hk : (vs.toList.drop (i * hd.esz + off + n)).getD (i' * hd.esz + j - (i * hd.esz + off + n)) undef = vs.getD (i' * hd.esz + j) undef := by
                          simp only [List.getD_eq_getElem?_getD, List.getElem?_drop, Array.getD_eq_getD_getElem?, Array.getElem?_toList]
                          congr 2; omega
                        rw [hk]; exact hthis
                  · intro y hy
                    rcases List.mem_or_eq_of_mem_set hy with hy | rfl
                    · exact ok.size y hy
                    · rw [hw1, hnewlen, holdsz]
                  · intro y hy
                    rcases List.mem_or_eq_of_mem_set hy with hy | rfl
                    · exact ok.lies y hy
                    · exact hw2
              · cases h
            · cases h
          · cases h
        · cases h
      · cases h
    · cases h
  · cases h
end
end Go.Sv
