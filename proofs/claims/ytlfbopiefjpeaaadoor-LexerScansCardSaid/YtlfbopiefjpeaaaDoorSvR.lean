/- A region whose order is drawn, part 3: every order. -/
import Derived.Test.YtlfbopiefjpeaaaDoorSvQ
set_option linter.unusedSimpArgs false
set_option linter.unusedVariables false
namespace Go.Sv
open Go

section
variable {E : Env} {ops : Array Oper} {S : Nat → St} {V : Nat → AV} {F : Nat → Fp} {n : Nat}

/-- How far the run has come when some of the operations are done. -/
structure Far (E : Env) (ops : Array Oper) (S : Nat → St) (V : Nat → AV) (F : Nat → Fp) (n : Nat) (w0 : World) (G0 : Ctx) (L : Nat → Bool) (w : World) (G : Ctx) (a : Act) : Prop where
  size : a.tmps.size = (S 0).tmps.length
  tmps : ∀ t, t < (S 0).tmps.length → Ra w G (tmpL ops S V L n t) (a.tmps.getD t undef)
  heap : RelH w G (heapL S F L n)
  gl : GlOk E w G.im
  defers : a.defers = []
  went : Went w0 G0 (getH (S 0).heap) w G (heapL S F L n)

theorem far_more {w0 w w' : World} {G0 G G' : Ctx} {L : Nat → Bool} {a : Act} {i : Nat} (hn : n = ops.size) (hi : i < n) (hf : Far E ops S V F n w0 G0 L w G a) (hLi : L i = false) {o : Oper} (ho : ops[i]? = some o) {u : Value}
    (hu : Ra w' G' (V i) u) (hH : RelH w' G' (heapL S F (setL L i) n)) (hw : Went w G (heapL S F L n) w' G' (heapL S F (setL L i) n))
    (ht : ∀ t m, i < m → m < n → dstOf ops i = some t → dstOf ops m = some t → L m = false) : Far E ops S V F n w0 G0 (setL L i) w' G' (a.put o.dst u) := by
  have hd : dstOf ops i = o.dst := by simp [dstOf, ho]
  refine ⟨?_, ?_, hH, hf.gl.went hf.heap hw, ?_, hf.went.trans hw⟩
  · rw [← hf.size]; cases o.dst <;> simp [Act.put]
  · intro t htl
    obtain ⟨k, rfl⟩ : ∃ k, n = i + 1 + k := ⟨n - (i + 1), by omega⟩
    rw [tmp_more L t i hLi k (fun m h1 h2 h3 h4 => ht t m h1 h2 h3 h4), hd]
    have hold := (hf.tmps t htl).went hf.heap hw
    cases hdst : o.dst with
    | none => simpa [Act.put] using hold
    | some d =>
      simp only [Act.put, Option.some.injEq]
      by_cases e : d = t
      · subst e
        rw [if_pos rfl]
        have hlt : d < a.tmps.size := by rw [hf.size]; exact htl
        have : (a.tmps.setIfInBounds d u).getD d undef = u := by simp [Array.getD_eq_getD_getElem?, hlt]
        rw [this]; exact hu
      · rw [if_neg e]
        have : (a.tmps.setIfInBounds d u).getD t undef = a.tmps.getD t undef := by simp [Array.getD_eq_getD_getElem?, Array.getElem?_setIfInBounds_ne e]
        rw [this]; exact hold
  · cases o.dst <;> exact hf.defers

theorem far_step {w0 w : World} {G0 G : Ctx} {L : Nat → Bool} {a : Act} {i : Nat} (hn : n = ops.size) (hs : drawStatic ops = true) (hp : pairsOk ops ((List.range' 0 n).map fun j => (j, F j)) = true) (tr : Tr E ops S V F 0 n)
    (hL : ∀ j o, ops[j]? = some o → L j = true → ∀ e ∈ o.after.toList, Region.binds .any e = true → L e.on = true) {o : Oper} (ho : ops[i]? = some o) (hd : ∀ e ∈ o.after.toList, Region.binds .any e = true → L e.on = true) (hLi : L i = false)
    (hf : Far E ops S V F n w0 G0 L w G a) {K : Act → World → Prop} {Q : Exit → Act → World → Prop}
    (hK : ∀ a' w' G', Far E ops S V F n w0 G0 (setL L i) w' G' a' → K a' w') : wpOp E.P ops Q i K a w := by
  have hi : i < n := by rw [hn]; exact (Array.getElem?_eq_some_iff.1 ho).1
  obtain ⟨kk, hk⟩ : ∃ k, n = i + 1 + k := ⟨n - (i + 1), by omega⟩
  have side : ∀ m, m < n → ordered (masks ops.toList []) i m = true → (m < i → L m = true) ∧ (i < m → L m = false) := fun m hm h => ord_side hs hL ho hd hLi (by rw [← hn]; exact hm) h
  -- the slots that the operation looks at
  have slot : ∀ t, t ∈ namesOf ops o → t < (S 0).tmps.length → tmpL ops S V L n t = (S i).tmps.getD t .un := by
    intro t ht htl
    have hb : tmpL ops S V L n t = tmpL ops S V L i t := by
      rw [hk, show i + 1 + kk = i + (1 + kk) by omega]
      refine tmp_beyond L t i (1 + kk) fun m h1 h2 h3 => ?_
      by_cases e : m = i
      · subst e; exact hLi
      · exact (side m (by omega) (name_ord hs ho ht h3 e)).2 (by omega)
    rw [hb, tmp_agree L (fun _ => true) t i (fun m h1 h2 => (side m (by omega) (name_ord hs ho ht h2 (by omega))).1 h1), tmp_prefix tr hn (fun _ => true) htl i (by omega) fun _ _ => rfl]
  have slotR : ∀ t, t ∈ namesOf ops o → Ra w G ((S i).tmps.getD t .un) (a.tmps.getD t undef) := by
    intro t ht
    by_cases htl : t < (S 0).tmps.length
    · rw [← slot t ht htl]; exact hf.tmps t htl
    · have h1 : (S i).tmps.getD t .un = .un := by
        rw [List.getD_eq_getElem?_getD, List.getElem?_eq_none (by rw [tr_len tr hn i (by omega)]; exact Nat.le_of_not_lt htl)]; rfl
      have h2 : a.tmps.getD t undef = undef := by
        rw [Array.getD_eq_getD_getElem?, Array.getElem?_eq_none (by rw [hf.size]; exact Nat.le_of_not_lt htl)]; rfl
      rw [h1, h2]; exact .un
  have opv : okOs E o = true → Opv w G o (evalO E (S i).tmps) a.eval := by
    intro hok x hx
    have hx' := Array.all_eq_true_iff_forall_mem.1 hok x hx
    cases x with
    | tmp t =>
      refine slotR t ?_
      unfold namesOf
      exact List.mem_append_left _ (List.mem_append_right _ (List.mem_filterMap.2 ⟨.tmp t, by simpa using hx, rfl⟩))
    | const v =>
      simp only [okO] at hx'
      obtain ⟨y, hy⟩ := Option.isSome_iff_exists.1 hx'
      simp only [evalO, hy]
      exact .d y _ (ofVal_rd hy).1
    | global g =>
      simp only [okO] at hx'
      obtain ⟨y, hy⟩ := Option.isSome_iff_exists.1 hx'
      simp only [evalO, hy]
      exact .d _ _ (hf.gl g y hy)
    | func f => exact .d _ _ (.fn f [] [] #[] #[] rfl rfl (fun j c e => by simp at e) fun j c e => by simp at e)
  have hwant : Region.wanted o (yielded ops a.tmps) = wants ops (S i).tmps o := by
    unfold Region.wanted wants
    cases hg : o.guard with
    | none => rfl
    | some p =>
      obtain ⟨g, want⟩ := p
      simp only
      congr 1
      unfold yielded yieldedA
      cases hdd : (ops[g]?).bind (·.dst) with
      | none => rfl
      | some t =>
        have ht : t ∈ namesOf ops o := by
          unfold namesOf
          rw [hg]
          exact List.mem_append_right _ (by simp [hdd])
        have hx := slotR t ht
        have hk := hx.kind
        simp only [Option.bind_some]
        by_cases hlt : t < a.tmps.size
        · rw [getD_of hlt]
          generalize a.tmps.getD t undef = u at *
          generalize (S i).tmps.getD t .un = x at *
          cases u <;> simp only [Go.Sv.hk] at hk
          case bool b =>
            have : x = .d (.bool b) := by
              cases x with
              | d y => have := hx.of_d; cases this; rfl
              | _ => simp [ak] at hk
            rw [this]
          all_goals
            cases x with
            | d y => cases y <;> simp [ak, dk] at hk <;> rfl
            | _ => first | rfl | (simp [ak] at hk; done)
        · have h1 : a.tmps.size ≤ t := Nat.le_of_not_lt hlt
          rw [Array.getElem?_eq_none h1]
          have : (S i).tmps.getD t .un = .un := by
            rw [List.getD_eq_getElem?_getD, List.getElem?_eq_none (by rw [tr_len tr hn i (by omega), ← hf.size]; exact h1)]; rfl
          rw [this]
  have tmpW : ∀ t m, i < m → m < n → dstOf ops i = some t → dstOf ops m = some t → L m = false := by
    intro t m h1 h2 h3 h4
    have ht : t ∈ namesOf ops o := by
      have : o.dst = some t := by simpa [dstOf, ho] using h3
      unfold namesOf
      simp [this]
    exact (side m h2 (name_ord hs ho ht h4 (by omega))).2 h1
  -- the objects that it looks at
  have obj : ∀ id, (∀ m, m < n → m ≠ i → wrB (F m) id = true → conf (F i) (F m) = true) → heapL S F L n id = getH (S i).heap id := by
    intro id hc
    have hb : heapL S F L n id = heapL S F L i id := by
      rw [hk, show i + 1 + kk = i + (1 + kk) by omega]
      refine heap_beyond L id i (1 + kk) fun m h1 h2 h3 => ?_
      by_cases e : m = i
      · subst e; exact hLi
      · exact (side m (by omega) (conf_ord hp hi (by omega) (fun e' => e e'.symm) (hc m (by omega) e h3))).2 (by omega)
    rw [hb, heap_agree L (fun _ => true) id i (fun m h1 h2 => (side m (by omega) (conf_ord hp hi (by omega) (by omega) (hc m (by omega) (by omega) h2))).1 h1), heap_prefix tr hn (fun _ => true) i (by omega) fun _ _ => rfl]
  have objW : heapL S F (setL L i) n = fun id => if wrB (F i) id = true then getH (S (i + 1)).heap id else heapL S F L n id := by
    funext id
    rw [hk]
    refine heap_more L id i hLi kk fun m h1 h2 h3 h4 => ?_
    refine (side m (by omega) (conf_ord hp hi (by omega) (by omega) ?_)).2 h1
    unfold wrB at h3 h4
    simp only [Bool.or_eq_true, List.contains_iff_mem] at h3 h4
    unfold conf
    simp only [Bool.or_eq_true, Bool.and_eq_true, List.any_eq_true, List.contains_iff_mem]
    rcases h3 with h3 | h3
    · refine .inl (.inl (.inl ⟨h3, ?_⟩))
      rcases h4 with h4 | h4
      · simp [Fp.ne, h4]
      · have : (F m).wr ≠ [] := List.ne_nil_of_mem h4
        simp [Fp.ne, this]
    · rcases h4 with h4 | h4
      · refine .inl (.inl (.inr ⟨h4, ?_⟩))
        have : (F i).wr ≠ [] := List.ne_nil_of_mem h3
        simp [Fp.ne, this]
      · exact .inl (.inr ⟨id, h3, .inl h4⟩)
  unfold wpOp
  simp only [ho, hwant]
  by_cases hw : wants ops (S i).tmps o = true
  · rw [if_pos hw]
    refine .inl ?_
    obtain ⟨hok, hstep⟩ := tr.run i o (Nat.zero_le _) hi ho hw
    have hv := opv hok
    cases hstep with
    | aop rd eff ha hH hfp =>
      have hrd : ∀ id ∈ rd, heapL S F L n id = getH (S i).heap id := by
        intro id hid
        refine obj id fun m h1 h2 h3 => ?_
        unfold wrB at h3
        simp only [Bool.or_eq_true, List.contains_iff_mem] at h3
        unfold conf
        simp only [Bool.or_eq_true, Bool.and_eq_true, List.any_eq_true, List.contains_iff_mem]
        have hne : (F i).ne = true := by
          have : rd ≠ [] := List.ne_nil_of_mem hid
          rw [hfp]; simp [Fp.ne, this]
        rcases h3 with h3 | h3
        · exact .inl (.inl (.inr ⟨h3, hne⟩))
        · exact .inr ⟨id, h3, by rw [hfp]; exact hid⟩
      have ha' := aop_local (H' := heapL S F L n) ha hrd
      obtain ⟨u, w', G', hrun, h1, h2, h3⟩ := aop_does hf.heap hv ha' (fun ⟨ob, e⟩ => by
        subst e
        rw [hrd _ (push_reads ha)]; exact getH_len)
      have hE : eff.upd (heapL S F L n) (S i).heap.length = heapL S F (setL L i) n := by
        rw [objW]
        funext id
        rw [hH, getH_app ha, hfp]
        cases eff with
        | no => simp [Eff.upd, wrB, Eff.ids]
        | set k ob =>
          by_cases e : id = k
          · subst e; simp [Eff.upd, wrB, Eff.ids]
          · simp [Eff.upd, wrB, Eff.ids, e]
        | push ob =>
          by_cases e : id = (S i).heap.length
          · subst e; simp [Eff.upd, wrB, Eff.ids]
          · simp [Eff.upd, wrB, Eff.ids, e]
      rw [hE] at h2 h3
      have far := fun (u : Value) (hu : Ra w' G' (V i) u) => far_more hn hi hf hLi ho hu h2 h3 tmpW
      unfold Oper.wp
      rcases hrun with hrun | ⟨hrun, rfl⟩
      · rw [hrun]; exact hK _ _ G' (far u h1)
      · rw [hrun]; exact hK _ _ G' (far undef h1)
    | pure f args tys g first caps ds ids r hop hfn hm hpc hvr hH hfp =>
      have hrd : ∀ id ∈ ids, heapL S F L n id = getH (S i).heap id := by
        intro id hid
        refine obj id fun m h1 h2 h3 => ?_
        unfold wrB at h3
        simp only [Bool.or_eq_true, List.contains_iff_mem] at h3
        unfold conf
        simp only [Bool.or_eq_true, Bool.and_eq_true, List.any_eq_true, List.contains_iff_mem]
        have hne : (F i).ne = true := by
          have : ids ≠ [] := List.ne_nil_of_mem hid
          rw [hfp]; simp [Fp.ne, this]
        rcases h3 with h3 | h3
        · exact .inl (.inl (.inr ⟨h3, hne⟩))
        · exact .inr ⟨id, h3, by rw [hfp]; exact hid⟩
      have hm' : mapRes (res (heapL S F L n) 50) (first ++ args.toList.map (evalO E (S i).tmps) ++ caps) = some (ds, ids) :=
        mapRes_congr hm fun x d k _ e hk => res_local 50 x d k e fun id hid => hrd id (hk id hid)
      have hfx := hv f (by rw [hop]; simp [Op.operands, Call.operands])
      obtain ⟨us, vs, e1, s1, s2, r1, r2⟩ := fnOf_ra hfx hfn
      obtain ⟨c1, c2⟩ := args_ra (args := args) (fun x hx => hv x (by rw [hop]; simp [Op.operands, Call.operands, hx])) s1 s2 r1 r2
      unfold Oper.wp
      rw [exec_call hop e1 hpc.1]
      refine (pure_call hf.heap hf.gl hm' hpc c1 c2).mono ?_
      rintro e w' ⟨v, G', rfl, h1, h2, h3⟩
      have hE : (if r.flat then heapL S F L n else freezeF (heapL S F L n) ids) = heapL S F (setL L i) n := by
        rw [objW]
        funext id
        rw [hH, hfp]
        by_cases hfl : r.flat = true
        · simp [hfl, wrB]
        · simp only [hfl, Bool.false_eq_true, if_false, wrB, Bool.false_or, List.contains_iff_mem]
          by_cases hid : id ∈ ids
          · rw [if_pos hid, getH_freeze]
            simp only [freezeF, if_pos hid, hrd id hid]
          · rw [if_neg hid]
            simp only [freezeF, if_neg hid]
      rw [hE] at h2 h3
      exact hK _ _ G' (far_more hn hi hf hLi ho (by rw [hvr]; exact h1) h2 h3 tmpW)
    | hc f args tys g first caps hop hfn hc hfp =>
      have hall : heapL S F L n = getH (S i).heap := by
        funext id
        refine obj id fun m h1 h2 h3 => ?_
        have hne : (F m).ne = true := by
          unfold wrB at h3
          simp only [Bool.or_eq_true, List.contains_iff_mem] at h3
          rcases h3 with h3 | h3
          · simp [Fp.ne, h3]
          · have : (F m).wr ≠ [] := List.ne_nil_of_mem h3
            simp [Fp.ne, this]
        rw [hfp]
        simp [conf, hne]
      have hfx := hv f (by rw [hop]; simp [Op.operands, Call.operands])
      obtain ⟨us, vs, e1, s1, s2, r1, r2⟩ := fnOf_ra hfx hfn
      obtain ⟨c1, c2⟩ := args_ra (args := args) (fun x hx => hv x (by rw [hop]; simp [Op.operands, Call.operands, hx])) s1 s2 r1 r2
      unfold Oper.wp
      rw [exec_call hop e1 hc.1]
      refine (hc.2 w G _ (by rw [← hall]; exact hf.heap) hf.gl c1 c2).mono ?_
      rintro e w' ⟨v, r, H', G', rfl, ⟨rfl, rfl⟩, h1, h2, h3⟩
      have hE : getH (S (i + 1)).heap = heapL S F (setL L i) n := by
        rw [objW]
        funext id
        rw [hfp]; simp [wrB]
      rw [← hall, hE] at h3
      rw [hE] at h2
      exact hK _ _ G' (far_more hn hi hf hLi ho h1 h2 h3 tmpW)
  · rw [if_neg hw]
    have hw' : wants ops (S i).tmps o = false := by simpa using hw
    obtain ⟨h1, h2, h3⟩ := tr.skip i o (Nat.zero_le _) hi ho hw'
    have hE : heapL S F (setL L i) n = heapL S F L n := by
      rw [objW]
      funext id
      rw [h3]; simp [wrB]
    exact hK _ _ G (far_more hn hi hf hLi ho (by rw [h1]; exact .un) (by rw [hE]; exact hf.heap) (by rw [hE]; exact Went.refl ..) tmpW)

theorem draw_any {w0 : World} {G0 : Ctx} (hn : n = ops.size) (hs : drawStatic ops = true) (hp : pairsOk ops ((List.range' 0 n).map fun j => (j, F j)) = true) (tr : Tr E ops S V F 0 n) {Q : Exit → Act → World → Prop}
    (hQ : ∀ a w G, RelS E w G (S n) a → Went w0 G0 (getH (S 0).heap) w G (getH (S n).heap) → Q .normal a w) :
    ∀ (fuel : Nat) (listed : Array Bool) (a : Act) (w : World) (G : Ctx), listed.size = n → (∀ j o, ops[j]? = some o → listed.getD j false = true → ∀ e ∈ o.after.toList, Region.binds .any e = true → listed.getD e.on false = true) →
      Far E ops S V F n w0 G0 (fun j => listed.getD j false) w G a → ((List.range n).filter fun j => !listed.getD j false).length ≤ fuel → wpAny E.P .any ops Q fuel listed a w := by
  have done : ∀ (listed : Array Bool) (a : Act) (w : World) (G : Ctx), listed.size = n → Far E ops S V F n w0 G0 (fun j => listed.getD j false) w G a → (∀ j, j < n → listed.getD j false = true) → Q .normal a w := by
    intro listed a w G _ hf hall
    have hh := heap_prefix tr hn (fun j => listed.getD j false) n (Nat.le_refl _) hall
    refine hQ a w G ⟨⟨by rw [hf.size, tr_len tr hn n (Nat.le_refl _)], fun t ht => ?_⟩, by rw [← hh]; exact hf.heap, hf.gl, hf.defers⟩ (by rw [← hh]; exact hf.went)
    rw [tr_len tr hn n (Nat.le_refl _)] at ht
    rw [← tmp_prefix tr hn (fun j => listed.getD j false) ht n (Nat.le_refl _) hall]
    exact hf.tmps t ht
  have ready : ∀ (listed : Array Bool), listed.size = n → Region.ready .any ops listed = [] → ∀ j, j < n → listed.getD j false = true := by
    intro listed hsz hr j
    induction j using Nat.strongRecOn with
    | _ j ih =>
      intro hj
      cases hl : listed.getD j false with
      | true => rfl
      | false =>
        exfalso
        have ho : ops[j]? = some ops[j] := Array.getElem?_eq_getElem (by omega)
        have : j ∈ Region.ready .any ops listed := by
          rw [mem_ready]
          refine ⟨?_, ops[j], ho, fun e he hb => ?_⟩
          · have hlt : j < listed.size := by omega
            simp only [Array.getD, hlt, dif_pos] at hl ⊢
            exact hl
          · have h1 := List.all_eq_true.1 hs j (List.mem_range.2 (by omega))
            simp only [ho, Bool.and_eq_true] at h1
            have h2 := List.all_eq_true.1 h1.1 e (by simpa using he)
            simp only [hb, Bool.not_true, Bool.false_or, decide_eq_true_eq] at h2
            exact ih e.on h2 (by omega)
        rw [hr] at this
        cases this
  intro fuel
  induction fuel with
  | zero =>
    intro listed a w G hsz hcl hf hfu
    have hall : ∀ j, j < n → listed.getD j false = true := by
      intro j hj
      cases hl : listed.getD j false with
      | true => rfl
      | false =>
        have : j ∈ (List.range n).filter fun j => !listed.getD j false := List.mem_filter.2 ⟨List.mem_range.2 hj, by simp only [hl, Bool.not_false]⟩
        have h0 := List.length_pos_of_mem this
        omega
    refine ⟨?_, done listed a w G hsz hf hall⟩
    rw [List.eq_nil_iff_forall_not_mem]
    intro j hj
    rw [mem_ready] at hj
    obtain ⟨h0, o, ho, _⟩ := hj
    have hlt : j < n := by rw [hn]; exact (Array.getElem?_eq_some_iff.1 ho).1
    have := hall j hlt
    have hlt2 : j < listed.size := by omega
    simp only [Array.getD, hlt2, dif_pos] at h0 this
    rw [h0] at this; cases this
  | succ fuel ih =>
    intro listed a w G hsz hcl hf hfu
    refine ⟨fun hr => done listed a w G hsz hf (ready listed hsz hr), fun i hi => ?_⟩
    rw [mem_ready] at hi
    obtain ⟨h0, o, ho, hdeps⟩ := hi
    have hlt : i < n := by rw [hn]; exact (Array.getElem?_eq_some_iff.1 ho).1
    have hlt2 : i < listed.size := by omega
    have hLi : listed.getD i false = false := by
      simp only [Array.getD, hlt2, dif_pos] at h0 ⊢; exact h0
    refine far_step hn hs hp tr hcl ho (fun e he hb => hdeps e (by simpa using he) hb) hLi hf fun a' w' G' hf' => ?_
    have hset : ∀ j, (listed.setIfInBounds i true).getD j false = setL (fun j => listed.getD j false) i j := by
      intro j
      unfold setL
      by_cases e : j = i
      · subst e; simp [Array.getD_eq_getD_getElem?, hlt2]
      · rw [if_neg e]; exact getD_set_ne false (fun e' => e e'.symm)
    have hset' : (fun j => (listed.setIfInBounds i true).getD j false) = setL (fun j => listed.getD j false) i := funext hset
    refine ih (listed.setIfInBounds i true) a' w' G' (by simpa using hsz) (fun j oj hoj hLj e he hb => ?_) (by rw [hset']; exact hf') ?_
    · rw [hset] at hLj ⊢
      unfold setL at hLj ⊢
      by_cases ej : j = i
      · subst ej
        rw [ho] at hoj; cases hoj
        by_cases ee : e.on = j
        · rw [if_pos ee]
        · rw [if_neg ee]; exact hdeps e (by simpa using he) hb
      · rw [if_neg ej] at hLj
        by_cases ee : e.on = i
        · rw [if_pos ee]
        · rw [if_neg ee]; exact hcl j oj hoj hLj e he hb
    · have hsub : ((List.range n).filter fun j => !(listed.setIfInBounds i true).getD j false).length < ((List.range n).filter fun j => !listed.getD j false).length := by
        have hfe : ((List.range n).filter fun j => !(listed.setIfInBounds i true).getD j false) = ((List.range n).filter fun j => !listed.getD j false).filter fun j => j != i := by
          rw [List.filter_filter]
          apply List.filter_congr
          intro j _
          rw [hset]
          unfold setL
          by_cases e : j = i
          · subst e; simp
          · simp [e]
        rw [hfe]
        have hmem : i ∈ (List.range n).filter fun j => !listed.getD j false := List.mem_filter.2 ⟨List.mem_range.2 hlt, by simp only [hLi, Bool.not_false]⟩
        exact List.length_filter_lt_length_iff_exists.2 ⟨i, hmem, by simp⟩
      omega
end
end Go.Sv
