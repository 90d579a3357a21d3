/- How the objects' ghost goes on: an object is written, laid anew, grows, is given up for writing. -/
import Derived.Test.YtlfbopiefjpeaaaDoorSvC
set_option linter.unusedSimpArgs false
set_option linter.unusedVariables false
namespace Go.Sv
open Go

section
variable {w w' : World} {G : Ctx} {H : Hf}

/-- The parts of ObjOk that speak of the elements, in the new world, by the old ghost. -/
structure Lays (w' : World) (w : World) (G : Ctx) (o : Obj) (h : Hdr) : Prop where
  esz : h.esz = o.esz
  pos : 0 < o.esz
  len : h.len = o.elems.length
  cap : h.len ≤ h.cap
  big : h.len ≤ 281474976710656
  nil : h.isNil = true → o.elems = []
  cells : h.isNil = false → ∃ vs t, w'.heap[h.blk]? = some (.cells vs t (0, 0)) ∧ h.cap * h.esz ≤ vs.size ∧
    ∀ (i j : Nat) (x c : AV), o.elems[i]? = some x → x.cells[j]? = some c → Ra w G c (vs.getD (i * h.esz + j) undef)
  size : ∀ x ∈ o.elems, x.cells.length = o.esz
  lies : ∀ x ∈ o.elems, x.lies = true

def Ctx.with (G : Ctx) (id ver : Nat) (h : Hdr) : Ctx := ⟨G.im, fun i n => if i = id ∧ n = ver then some h else G.hd i n⟩

theorem ObjOk.went {G' : Ctx} {id : Nat} {o : Obj} {h : Hdr} (ok : ObjOk w G id o h) (hle : G.le G') (hw : ∀ b, G.im b → w'.heap[b]? = w.heap[b]?)
    (hb : h.isNil = false → w'.heap[h.blk]? = w.heap[h.blk]?) (hown : h.isNil = false → o.frozen = false → ¬ G'.im h.blk) (hlast : ∀ n, o.ver < n → G'.hd id n = none) : ObjOk w' G' id o h :=
  ⟨hle.2 _ _ _ ok.hd, ok.esz, ok.pos, ok.len, ok.cap, ok.big, ok.nil, fun hn => by
    obtain ⟨vs, t, h1, h2, h3⟩ := ok.cells hn
    exact ⟨vs, t, (hb hn).trans h1, h2, fun i j x c e1 e2 => (h3 i j x c e1 e2).mono hw hle⟩, ok.size, ok.lies, hown, fun hn hf => hle.1 _ (ok.frz hn hf), hlast⟩

/-- An object's elements are written. -/
theorem relH_write (hr : RelH w G H) {id : Nat} {o : Obj} {h : Hdr} (ho : H id = some o) (hf : o.frozen = false) (hh : G.hd id o.ver = some h) (hn : h.isNil = false) (elems : List AV)
    (hot : ∀ b, b ≠ h.blk → w'.heap[b]? = w.heap[b]?) (hs : w'.heap.size = w.heap.size) (hos : w'.os = w.os) (htape : w'.tape = w.tape) (hout : w'.output = w.output)
    (hl : Lays w' w G { o with elems := elems } h) : RelH w' G (upd H [(id, { o with elems := elems })]) ∧ Went w G H w' G (upd H [(id, { o with elems := elems })]) := by
  have ok0 := hr.at_ ho hh
  have him : ∀ b, G.im b → w'.heap[b]? = w.heap[b]? := fun b hb => hot b (fun e => ok0.own hn hf (e ▸ hb))
  have hG : G.le G := Ctx.le_refl G
  have hH : ∀ j, upd H [(id, { o with elems := elems })] j = if j = id then some { o with elems := elems } else H j := fun j => rfl
  have hown : ∀ b, Own G (upd H [(id, { o with elems := elems })]) b → Own G H b := by
    rintro b ⟨i, oi, hi, h1, h2, h3, h4, rfl⟩
    rw [hH] at h1
    split at h1
    · rename_i e
      subst e
      simp only [Option.some.injEq] at h1
      subst h1
      exact ⟨i, o, hi, ho, hf, h3, h4, rfl⟩
    · exact ⟨i, oi, hi, h1, h2, h3, h4, rfl⟩
  have hob : Own G H h.blk := ⟨id, o, h, ho, hf, hh, hn, rfl⟩
  refine ⟨⟨?_, ?_, ?_, ?_⟩, ⟨hG, by omega, fun b _ hb => hot b (fun e => hb (e ▸ hob)), fun b hb => .inr (hown b hb), fun b _ hb => .inl hb, hos, htape, hout⟩⟩
  · intro j oj hj
    rw [hH] at hj
    split at hj
    · rename_i e
      subst e
      simp only [Option.some.injEq] at hj
      subst hj
      refine ⟨h, hh, hl.esz, hl.pos, hl.len, hl.cap, hl.big, hl.nil, fun hn' => ?_, hl.size, hl.lies, ok0.own, ok0.frz, ok0.last⟩
      obtain ⟨vs, t, h1, h2, h3⟩ := hl.cells hn'
      exact ⟨vs, t, h1, h2, fun i j x c e1 e2 => (h3 i j x c e1 e2).mono him hG⟩
    · rename_i e
      obtain ⟨hd, ok⟩ := hr.ok j oj hj
      refine ⟨hd, ok.went hG him (fun hn' => hot _ fun eb => ?_) ok.own ok.last⟩
      by_cases hfr : oj.frozen = false
      · exact e (hr.apart j id oj o hd h hj ho hfr hf ok.hd hh hn' hn eb)
      · exact ok0.own hn hf (eb ▸ ok.frz hn' (by simpa using hfr))
  · intro i j oi oj hi hj e1 e2 f1 f2 d1 d2 n1 n2 eb
    have key : ∀ k ok', upd H [(id, { o with elems := elems })] k = some ok' → ∃ o2, H k = some o2 ∧ o2.frozen = ok'.frozen ∧ o2.ver = ok'.ver := by
      intro k ok' hk
      rw [hH] at hk
      split at hk
      · rename_i e; subst e; simp only [Option.some.injEq] at hk; subst hk; exact ⟨o, ho, rfl, rfl⟩
      · exact ⟨ok', hk, rfl, rfl⟩
    obtain ⟨a, ha, fa, va⟩ := key i oi e1
    obtain ⟨b, hb, fb, vb⟩ := key j oj e2
    exact hr.apart i j a b hi hj ha hb (fa.trans f1) (fb.trans f2) (by rw [va]; exact d1) (by rw [vb]; exact d2) n1 n2 eb
  · intro i n hi
    rw [hH] at hi
    split at hi
    · cases hi
    · exact hr.none i n hi
  · intro b hb
    rw [hs]
    exact hr.old b hb

/-- An object is laid anew, or its next version is. -/
theorem relH_put (hr : RelH w G H) (id : Nat) (o' : Obj) (h' : Hdr)
    (hcur : (H id = none ∧ o'.ver = 0) ∨ ∃ o, H id = some o ∧ o.frozen = false ∧ o'.ver = o.ver + 1)
    (hkeep : ∀ b, b < w.heap.size → (∀ o h, H id = some o → G.hd id o.ver = some h → h.isNil = false → b ≠ h.blk) → w'.heap[b]? = w.heap[b]?)
    (hs : w.heap.size ≤ w'.heap.size) (hos : w'.os = w.os) (htape : w'.tape = w.tape) (hout : w'.output = w.output) (hfr : o'.frozen = false)
    (hblk : h'.isNil = false → w.heap.size ≤ h'.blk ∨ ∃ o h, H id = some o ∧ G.hd id o.ver = some h ∧ h.isNil = false ∧ h'.blk = h.blk)
    (hl : Lays w' w G o' h') : RelH w' (G.with id o'.ver h') (upd H [(id, o')]) ∧ Went w G H w' (G.with id o'.ver h') (upd H [(id, o')]) := by
  have hH : ∀ j, upd H [(id, o')] j = if j = id then some o' else H j := fun j => rfl
  have hnone : ∀ n, o'.ver ≤ n → G.hd id n = none := by
    intro n hn
    rcases hcur with ⟨h1, _⟩ | ⟨o, h1, _, h3⟩
    · exact hr.none id n h1
    · obtain ⟨hd, ok⟩ := hr.ok id o h1
      exact ok.last n (by omega)
  have hle : G.le (G.with id o'.ver h') := ⟨fun _ h => h, fun i n x hx => by
    simp only [Ctx.with]
    split
    · rename_i e
      obtain ⟨rfl, rfl⟩ := e
      rw [hnone _ (Nat.le_refl _)] at hx
      cases hx
    · exact hx⟩
  have hcurown : ∀ o h, H id = some o → G.hd id o.ver = some h → h.isNil = false → Own G H h.blk := by
    intro o h h1 h2 h3
    rcases hcur with ⟨h4, _⟩ | ⟨o2, h4, h5, _⟩
    · rw [h4] at h1; cases h1
    · rw [h4] at h1; simp only [Option.some.injEq] at h1; subst h1
      exact ⟨id, o2, h, h4, h5, h2, h3, rfl⟩
  have him : ∀ b, G.im b → w'.heap[b]? = w.heap[b]? := fun b hb => hkeep b (hr.old b hb) (fun o h h1 h2 h3 e => hr.own_im (hcurown o h h1 h2 h3) (e ▸ hb))
  have hnew : h'.isNil = false → ¬ G.im h'.blk := by
    intro hn hi
    rcases hblk hn with h1 | ⟨o, h, h1, h2, h3, h4⟩
    · have := hr.old _ hi; omega
    · exact hr.own_im (hcurown o h h1 h2 h3) (h4 ▸ hi)
  have hhd : (G.with id o'.ver h').hd id o'.ver = some h' := by simp [Ctx.with]
  have hother : ∀ j n, j ≠ id → (G.with id o'.ver h').hd j n = G.hd j n := by intro j n hj; simp [Ctx.with, hj]
  have hsep : ∀ j oj hj, j ≠ id → H j = some oj → G.hd j oj.ver = some hj → hj.isNil = false → h'.isNil = false → oj.frozen = false → hj.blk ≠ h'.blk := by
    intro j oj hj hne e1 e2 e3 hn e4 eb
    have ho : Own G H hj.blk := ⟨j, oj, hj, e1, e4, e2, e3, rfl⟩
    rcases hblk hn with h1 | ⟨o, h, h1, h2, h3, h4⟩
    · have := hr.own_lt ho; omega
    · rcases hcur with ⟨h5, _⟩ | ⟨o2, h5, h6, _⟩
      · rw [h5] at h1; cases h1
      · rw [h5] at h1; simp only [Option.some.injEq] at h1; subst h1
        exact hne (hr.apart j id oj o2 hj h e1 h5 e4 h6 e2 h2 e3 h3 (eb.trans h4))
  refine ⟨⟨?_, ?_, ?_, ?_⟩, ⟨hle, hs, ?_, ?_, fun b _ hb => .inl hb, hos, htape, hout⟩⟩
  · intro j oj hj
    rw [hH] at hj
    split at hj
    · rename_i e
      subst e
      simp only [Option.some.injEq] at hj
      subst hj
      refine ⟨h', hhd, hl.esz, hl.pos, hl.len, hl.cap, hl.big, hl.nil, fun hn' => ?_, hl.size, hl.lies, fun hn _ => hnew hn, fun hn hf => (by rw [hfr] at hf; cases hf), fun n hn => ?_⟩
      · obtain ⟨vs, t, h1, h2, h3⟩ := hl.cells hn'
        exact ⟨vs, t, h1, h2, fun i j x c e1 e2 => (h3 i j x c e1 e2).mono him hle⟩
      · have : ¬ n = o'.ver := by omega
        simp [Ctx.with, this, hnone n (by omega)]
    · rename_i e
      obtain ⟨hd, ok⟩ := hr.ok j oj hj
      refine ⟨hd, ok.went hle him (fun hn' => ?_) ok.own (fun n hn => by rw [hother j n e]; exact ok.last n hn)⟩
      by_cases hf : oj.frozen = false
      · have ho : Own G H hd.blk := ⟨j, oj, hd, hj, hf, ok.hd, hn', rfl⟩
        refine hkeep _ (hr.own_lt ho) (fun o h h1 h2 h3 eb => ?_)
        rcases hcur with ⟨h5, _⟩ | ⟨o2, h5, h6, _⟩
        · rw [h5] at h1; cases h1
        · rw [h5] at h1; simp only [Option.some.injEq] at h1; subst h1
          exact e (hr.apart j id oj o2 hd h hj h5 hf h6 ok.hd h2 hn' h3 eb)
      · exact him _ (ok.frz hn' (by simpa using hf))
  · intro i j oi oj hi hj e1 e2 f1 f2 d1 d2 n1 n2 eb
    rw [hH] at e1 e2
    by_cases hi' : i = id
    · by_cases hj' : j = id
      · exact hi'.trans hj'.symm
      · exfalso
        rw [if_neg hj'] at e2
        rw [if_pos hi'] at e1
        simp only [Option.some.injEq] at e1
        subst e1
        subst hi'
        rw [hhd] at d1
        simp only [Option.some.injEq] at d1
        subst d1
        rw [hother j _ hj'] at d2
        exact hsep j oj hj hj' e2 d2 n2 n1 f2 eb.symm
    · rw [if_neg hi'] at e1
      rw [hother i _ hi'] at d1
      by_cases hj' : j = id
      · exfalso
        rw [if_pos hj'] at e2
        simp only [Option.some.injEq] at e2
        subst e2
        subst hj'
        rw [hhd] at d2
        simp only [Option.some.injEq] at d2
        subst d2
        exact hsep i oi hi hi' e1 d1 n1 n2 f1 eb
      · rw [if_neg hj'] at e2
        rw [hother j _ hj'] at d2
        exact hr.apart i j oi oj hi hj e1 e2 f1 f2 d1 d2 n1 n2 eb
  · intro i n hi
    rw [hH] at hi
    split at hi
    · cases hi
    · rename_i e
      rw [hother i n e]
      exact hr.none i n hi
  · intro b hb
    exact Nat.lt_of_lt_of_le (hr.old b hb) hs
  · intro b hb hn
    exact hkeep b hb (fun o h h1 h2 h3 e => hn (e ▸ hcurown o h h1 h2 h3))
  · rintro b ⟨i, oi, hi, h1, h2, h3, h4, rfl⟩
    rw [hH] at h1
    split at h1
    · rename_i e
      subst e
      simp only [Option.some.injEq] at h1
      subst h1
      rw [hhd] at h3
      simp only [Option.some.injEq] at h3
      subst h3
      rcases hblk h4 with h5 | ⟨o, h, h5, h6, h7, h8⟩
      · exact .inl h5
      · exact .inr (h8 ▸ hcurown o h h5 h6 h7)
    · rename_i e
      rw [hother i _ e] at h3
      exact .inr ⟨i, oi, hi, h1, h2, h3, h4, rfl⟩

/-- An object is given up for writing. -/
theorem relH_freeze (hr : RelH w G H) {id : Nat} {o : Obj} {h : Hdr} (ho : H id = some o) (hh : G.hd id o.ver = some h) :
    RelH w ⟨fun b => G.im b ∨ (h.isNil = false ∧ b = h.blk), G.hd⟩ (upd H [(id, { o with frozen := true })]) ∧
    Went w G H w ⟨fun b => G.im b ∨ (h.isNil = false ∧ b = h.blk), G.hd⟩ (upd H [(id, { o with frozen := true })]) := by
  have ok0 := hr.at_ ho hh
  have hH : ∀ j, upd H [(id, { o with frozen := true })] j = if j = id then some { o with frozen := true } else H j := fun j => rfl
  have hle : G.le ⟨fun b => G.im b ∨ (h.isNil = false ∧ b = h.blk), G.hd⟩ := ⟨fun _ h => .inl h, fun _ _ _ h => h⟩
  have hlt : h.isNil = false → h.blk < w.heap.size := fun hn => by
    obtain ⟨vs, t, h1, _⟩ := ok0.cells hn
    exact (Array.getElem?_eq_some_iff.1 h1).1
  refine ⟨⟨?_, ?_, ?_, ?_⟩, ⟨hle, Nat.le_refl _, fun _ _ _ => rfl, ?_, ?_, rfl, rfl, rfl⟩⟩
  · intro j oj hj
    rw [hH] at hj
    split at hj
    · rename_i e
      subst e
      simp only [Option.some.injEq] at hj
      subst hj
      refine ⟨h, hh, ok0.esz, ok0.pos, ok0.len, ok0.cap, ok0.big, ok0.nil, fun hn' => ?_, ok0.size, ok0.lies, fun _ hf => (by cases hf), fun hn _ => .inr ⟨hn, rfl⟩, ok0.last⟩
      obtain ⟨vs, t, h1, h2, h3⟩ := ok0.cells hn'
      exact ⟨vs, t, h1, h2, fun i j x c e1 e2 => (h3 i j x c e1 e2).mono (fun _ _ => rfl) hle⟩
    · rename_i e
      obtain ⟨hd, ok⟩ := hr.ok j oj hj
      refine ⟨hd, ok.went hle (fun _ _ => rfl) (fun _ => rfl) (fun hn' hf hi => ?_) ok.last⟩
      rcases hi with hi | ⟨hn, eb⟩
      · exact ok.own hn' hf hi
      · by_cases hfo : o.frozen = false
        · exact e (hr.apart j id oj o hd h hj ho hf hfo ok.hd hh hn' hn eb)
        · exact ok.own hn' hf (eb ▸ ok0.frz hn (by simpa using hfo))
  · intro i j oi oj hi hj e1 e2 f1 f2 d1 d2 n1 n2 eb
    rw [hH] at e1 e2
    split at e1
    · simp only [Option.some.injEq] at e1; subst e1; cases f1
    · split at e2
      · simp only [Option.some.injEq] at e2; subst e2; cases f2
      · exact hr.apart i j oi oj hi hj e1 e2 f1 f2 d1 d2 n1 n2 eb
  · intro i n hi
    rw [hH] at hi
    split at hi
    · cases hi
    · exact hr.none i n hi
  · rintro b (hb | ⟨hn, rfl⟩)
    · exact hr.old b hb
    · exact hlt hn
  · rintro b ⟨i, oi, hi, h1, h2, h3, h4, rfl⟩
    rw [hH] at h1
    split at h1
    · simp only [Option.some.injEq] at h1; subst h1; cases h2
    · exact .inr ⟨i, oi, hi, h1, h2, h3, h4, rfl⟩
  · rintro b _ (hb | ⟨hn, rfl⟩)
    · exact .inl hb
    · by_cases hfo : o.frozen = false
      · exact .inr ⟨id, o, h, ho, hfo, hh, hn, rfl⟩
      · exact .inl (ok0.frz hn (by simpa using hfo))
end
end Go.Sv
