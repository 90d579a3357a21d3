/- A region whose order is drawn, part 2. -/
import Derived.Test.YtlfbopiefjpeaaaDoorSvP
set_option linter.unusedSimpArgs false
set_option linter.unusedVariables false
namespace Go.Sv
open Go

def wrB (f : Fp) (id : Nat) : Bool := f.all || f.wr.contains id

section
variable {E : Env} {ops : Array Oper} {S : Nat → St} {V : Nat → AV} {F : Nat → Fp} {n : Nat}

def dstOf (ops : Array Oper) (j : Nat) : Option Tmp := (ops[j]?).bind (·.dst)

def heapL (S : Nat → St) (F : Nat → Fp) (L : Nat → Bool) : Nat → Hf
  | 0 => getH (S 0).heap
  | m + 1 => fun id => if L m = true ∧ wrB (F m) id = true then getH (S (m + 1)).heap id else heapL S F L m id
def tmpL (ops : Array Oper) (S : Nat → St) (V : Nat → AV) (L : Nat → Bool) : Nat → Nat → AV
  | 0 => fun t => (S 0).tmps.getD t .un
  | m + 1 => fun t => if L m = true ∧ dstOf ops m = some t then V m else tmpL ops S V L m t

theorem Step.unwritten {o : Oper} {s : St} {v : AV} {H : List Obj} {fp : Fp} (h : Step E o s v H fp) {id : Nat} (hw : wrB fp id = false) : getH H id = getH s.heap id := by
  cases h with
  | aop rd eff ha hH hf =>
    subst hH; subst hf
    rw [getH_app ha]
    cases eff with
    | no => rfl
    | set k ob => simp only [wrB, Eff.ids, Bool.false_or, List.contains_cons, List.contains_nil, Bool.or_false, beq_eq_false_iff_ne] at hw; simp [Eff.upd, hw]
    | push ob => simp only [wrB, Eff.ids, Bool.false_or, List.contains_cons, List.contains_nil, Bool.or_false, beq_eq_false_iff_ne] at hw; simp [Eff.upd, hw]
  | pure f args tys g first caps ds ids r hop hfn hm hp hv hH hf =>
    subst hH; subst hf
    split
    · rfl
    · rename_i hfl
      rw [getH_freeze]
      simp only [wrB, hfl, Bool.false_or, Bool.false_eq_true, if_false] at hw
      have : id ∉ ids := by simpa using hw
      simp [freezeF, this]
  | hc f args tys g first caps hop hfn hc hf => subst hf; simp [wrB] at hw

theorem Tr.unwritten (tr : Tr E ops S V F 0 n) {j : Nat} (hj : j < n) (hn : n = ops.size) {id : Nat} (hw : wrB (F j) id = false) : getH (S (j + 1)).heap id = getH (S j).heap id := by
  have ho : ops[j]? = some ops[j] := Array.getElem?_eq_getElem (by omega)
  by_cases hwant : wants ops (S j).tmps ops[j] = true
  · exact (tr.run j _ (Nat.zero_le _) hj ho hwant).2.unwritten hw
  · rw [(tr.skip j _ (Nat.zero_le _) hj ho (by simpa using hwant)).2.1]

theorem heap_prefix (tr : Tr E ops S V F 0 n) (hn : n = ops.size) (L : Nat → Bool) : ∀ i, i ≤ n → (∀ m, m < i → L m = true) → heapL S F L i = getH (S i).heap
  | 0, _, _ => rfl
  | i + 1, hi, hL => by
    funext id
    simp only [heapL, hL i (by omega), true_and]
    split
    · rfl
    · rename_i hw
      rw [heap_prefix tr hn L i (by omega) (fun m hm => hL m (by omega)), tr.unwritten (by omega) hn (by simpa using hw)]
theorem heap_agree (L L' : Nat → Bool) (id : Nat) : ∀ i, (∀ m, m < i → wrB (F m) id = true → L m = L' m) → heapL S F L i id = heapL S F L' i id
  | 0, _ => rfl
  | i + 1, h => by
    simp only [heapL]
    by_cases hw : wrB (F i) id = true
    · rw [h i (by omega) hw, heap_agree L L' id i fun m hm => h m (by omega)]
    · have hw' : wrB (F i) id = false := by simpa using hw
      simp only [hw', Bool.false_eq_true, and_false, if_false]
      exact heap_agree L L' id i fun m hm => h m (by omega)
theorem heap_beyond (L : Nat → Bool) (id i : Nat) : ∀ k, (∀ m, i ≤ m → m < i + k → wrB (F m) id = true → L m = false) → heapL S F L (i + k) id = heapL S F L i id
  | 0, _ => rfl
  | k + 1, h => by
    rw [show i + (k + 1) = (i + k) + 1 by omega]
    simp only [heapL]
    split
    · rename_i hc
      rw [h (i + k) (by omega) (by omega) hc.2] at hc
      exact absurd hc.1 (by simp)
    · exact heap_beyond L id i k fun m h1 h2 => h m h1 (by omega)

theorem tr_len (tr : Tr E ops S V F 0 n) (hn : n = ops.size) : ∀ i, i ≤ n → (S i).tmps.length = (S 0).tmps.length
  | 0, _ => rfl
  | i + 1, hi => by
    have ho : ops[i]? = some ops[i] := Array.getElem?_eq_getElem (by omega)
    rw [tr.tm i _ (Nat.zero_le _) hi ho, ← tr_len tr hn i (by omega)]
    unfold putT; split <;> simp
theorem tmp_step (tr : Tr E ops S V F 0 n) (hn : n = ops.size) {i : Nat} (hi : i < n) {t : Nat} (ht : t < (S 0).tmps.length) : (S (i + 1)).tmps.getD t .un = if dstOf ops i = some t then V i else (S i).tmps.getD t .un := by
  have ho : ops[i]? = some ops[i] := Array.getElem?_eq_getElem (by omega)
  have hl := tr_len tr hn i (by omega)
  rw [tr.tm i _ (Nat.zero_le _) hi ho]
  simp only [dstOf, ho, Option.bind_some]
  cases hd : ops[i].dst with
  | none => simp [putT]
  | some d =>
    simp only [putT, Option.some.injEq]
    by_cases e : d = t
    · subst e
      rw [if_pos rfl, List.getD_eq_getElem?_getD, List.getElem?_set_self (by omega)]; rfl
    · rw [if_neg e, List.getD_eq_getElem?_getD, List.getElem?_set_ne e, ← List.getD_eq_getElem?_getD]
theorem tmp_prefix (tr : Tr E ops S V F 0 n) (hn : n = ops.size) (L : Nat → Bool) {t : Nat} (ht : t < (S 0).tmps.length) : ∀ i, i ≤ n → (∀ m, m < i → L m = true) → tmpL ops S V L i t = (S i).tmps.getD t .un
  | 0, _, _ => rfl
  | i + 1, hi, hL => by
    simp only [tmpL, hL i (by omega), true_and]
    rw [tmp_step tr hn (by omega) ht, tmp_prefix tr hn L ht i (by omega) fun m hm => hL m (by omega)]
theorem tmp_agree (L L' : Nat → Bool) (t : Nat) : ∀ i, (∀ m, m < i → dstOf ops m = some t → L m = L' m) → tmpL ops S V L i t = tmpL ops S V L' i t
  | 0, _ => rfl
  | i + 1, h => by
    simp only [tmpL]
    by_cases hw : dstOf ops i = some t
    · rw [h i (by omega) hw, tmp_agree L L' t i fun m hm => h m (by omega)]
    · simp only [hw, and_false, if_false]
      exact tmp_agree L L' t i fun m hm => h m (by omega)
theorem tmp_beyond (L : Nat → Bool) (t i : Nat) : ∀ k, (∀ m, i ≤ m → m < i + k → dstOf ops m = some t → L m = false) → tmpL ops S V L (i + k) t = tmpL ops S V L i t
  | 0, _ => rfl
  | k + 1, h => by
    rw [show i + (k + 1) = (i + k) + 1 by omega]
    simp only [tmpL]
    split
    · rename_i hc
      rw [h (i + k) (by omega) (by omega) hc.2] at hc
      exact absurd hc.1 (by simp)
    · exact tmp_beyond L t i k fun m h1 h2 => h m h1 (by omega)

def setL (L : Nat → Bool) (i : Nat) : Nat → Bool := fun m => if m = i then true else L m

/-- One more is done: the objects. -/
theorem heap_more (L : Nat → Bool) (id i : Nat) (hLi : L i = false) : ∀ k, (∀ m, i < m → m < i + 1 + k → wrB (F i) id = true → wrB (F m) id = true → L m = false) →
    heapL S F (setL L i) (i + 1 + k) id = if wrB (F i) id = true then getH (S (i + 1)).heap id else heapL S F L (i + 1 + k) id := by
  intro k hk
  by_cases hw : wrB (F i) id = true
  · rw [if_pos hw]
    rw [heap_beyond (setL L i) id (i + 1) k]
    · simp [heapL, setL, hw]
    · intro m h1 h2 h3
      have := hk m (by omega) h2 hw h3
      simp [setL, show m ≠ i by omega, this]
  · rw [if_neg hw]
    refine heap_agree _ _ id _ fun m _ hm => ?_
    by_cases e : m = i
    · subst e; exact absurd hm hw
    · simp [setL, e]
theorem tmp_more (L : Nat → Bool) (t i : Nat) (hLi : L i = false) : ∀ k, (∀ m, i < m → m < i + 1 + k → dstOf ops i = some t → dstOf ops m = some t → L m = false) →
    tmpL ops S V (setL L i) (i + 1 + k) t = if dstOf ops i = some t then V i else tmpL ops S V L (i + 1 + k) t := by
  intro k hk
  by_cases hw : dstOf ops i = some t
  · rw [if_pos hw]
    rw [tmp_beyond (setL L i) t (i + 1) k]
    · simp [tmpL, setL, hw]
    · intro m h1 h2 h3
      have := hk m (by omega) h2 hw h3
      simp [setL, show m ≠ i by omega, this]
  · rw [if_neg hw]
    refine tmp_agree _ _ t _ fun m _ hm => ?_
    by_cases e : m = i
    · subst e; exact absurd hm hw
    · simp [setL, e]

theorem conf_ord (hp : pairsOk ops ((List.range' 0 n).map fun j => (j, F j)) = true) {i m : Nat} (hi : i < n) (hm : m < n) (hne : i ≠ m) (hc : conf (F i) (F m) = true) : ordered (masks ops.toList []) i m = true := by
  have hne1 : (F i).ne = true ∧ (F m).ne = true := by
    unfold conf at hc
    simp only [Bool.or_eq_true, Bool.and_eq_true, List.any_eq_true] at hc
    rcases hc with ((⟨h1, h2⟩ | ⟨h1, h2⟩) | ⟨x, h1, h2⟩) | ⟨x, h1, h2⟩
    · exact ⟨by simp [Fp.ne, h1], h2⟩
    · exact ⟨h2, by simp [Fp.ne, h1]⟩
    · refine ⟨?_, ?_⟩
      · have : (F i).wr ≠ [] := List.ne_nil_of_mem h1
        simp [Fp.ne, this]
      · rcases h2 with h2 | h2
        · have : (F m).wr ≠ [] := List.ne_nil_of_mem (by simpa using h2)
          simp [Fp.ne, this]
        · have : (F m).rd ≠ [] := List.ne_nil_of_mem (by simpa using h2)
          simp [Fp.ne, this]
    · refine ⟨?_, ?_⟩
      · have : (F i).rd ≠ [] := List.ne_nil_of_mem (by simpa using h2)
        simp [Fp.ne, this]
      · have : (F m).wr ≠ [] := List.ne_nil_of_mem h1
        simp [Fp.ne, this]
  have mem : ∀ j, j < n → (F j).ne = true → (j, F j) ∈ ((List.range' 0 n).map fun j => (j, F j)).filter fun p => p.2.ne := by
    intro j hj hn
    exact List.mem_filter.2 ⟨List.mem_map.2 ⟨j, List.mem_range'_1.2 ⟨by omega, by omega⟩, rfl⟩, hn⟩
  have h1 := List.all_eq_true.1 hp _ (mem i hi hne1.1)
  have h2 := List.all_eq_true.1 h1 _ (mem m hm hne1.2)
  simpa [hne, hc] using h2

theorem name_ord (hs : drawStatic ops = true) {i m : Nat} {o : Oper} (ho : ops[i]? = some o) {t : Tmp} (ht : t ∈ namesOf ops o) (hm : dstOf ops m = some t) (hne : m ≠ i) : ordered (masks ops.toList []) i m = true := by
  have hi : i < ops.size := (Array.getElem?_eq_some_iff.1 ho).1
  have hms : m < ops.size := by
    unfold dstOf at hm
    cases h : ops[m]? with
    | none => simp [h] at hm
    | some x => exact (Array.getElem?_eq_some_iff.1 h).1
  have h1 := List.all_eq_true.1 hs i (List.mem_range.2 hi)
  simp only [ho, Bool.and_eq_true] at h1
  have h2 := List.all_eq_true.1 h1.2 t ht
  have h3 := List.all_eq_true.1 h2 m (List.mem_range.2 hms)
  unfold dstOf at hm
  simp only [hm, bne_self_eq_false, Bool.or_false, Bool.or_eq_true, beq_iff_eq] at h3
  exact h3.resolve_left hne

/-- Whatever has an order with an operation that is ready stands where the text has it. -/
theorem ord_side (hs : drawStatic ops = true) {L : Nat → Bool} (hL : ∀ j o, ops[j]? = some o → L j = true → ∀ e ∈ o.after.toList, Region.binds .any e = true → L e.on = true) {i : Nat} {o : Oper} (ho : ops[i]? = some o)
    (hd : ∀ e ∈ o.after.toList, Region.binds .any e = true → L e.on = true) (hLi : L i = false) {m : Nat} (hm : m < ops.size) (h : ordered (masks ops.toList []) i m = true) : (m < i → L m = true) ∧ (i < m → L m = false) := by
  unfold ordered at h
  simp only [Bool.or_eq_true, Bool.and_eq_true, decide_eq_true_eq] at h
  have hom : ops[m]? = some ops[m] := Array.getElem?_eq_getElem hm
  constructor
  · intro hlt
    rcases h with ⟨h1, _⟩ | ⟨_, h2⟩
    · omega
    · exact mask_done hs hL i o m ho hd h2
  · intro hlt
    rcases h with ⟨_, h2⟩ | ⟨h1, _⟩
    · cases hLm : L m with
      | false => rfl
      | true =>
        have := mask_done hs hL m ops[m] i hom (hL m _ hom hLm) h2
        rw [hLi] at this; cases this
    · omega
end
end Go.Sv
