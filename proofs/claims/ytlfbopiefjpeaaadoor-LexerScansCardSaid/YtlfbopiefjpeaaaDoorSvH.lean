/- How the operations act on abstract values, part 6: equality. -/
import Derived.Test.YtlfbopiefjpeaaaDoorSvG
import Derived.Laws.StructEq
set_option linter.unusedSimpArgs false
set_option linter.unusedVariables false
namespace Go.Sv
open Go

section
variable {P : Program} {w : World} {im : Nat → Prop}

theorem run_partD {t : TypeId} {cs : List DV} {vs : Array Value} (hs : vs.size = cs.length) (hl : ∀ c ∈ cs, c.leaf = true) (hr : ∀ (j : Nat) (c : DV), cs[j]? = some c → Rd w im c (vs.getD j undef)) {off : Nat} {y : DV} (h : eqPart P t cs off = some y) :
    ∃ u, (part t vs off).run P w = .ok u w ∧ Rd w im y u := by
  unfold eqPart at h
  split at h
  · rename_i hu
    split at h
    · rename_i hg
      split at h
      · rename_i n hn
        split at h
        · rename_i hle
          simp only [Option.some.injEq] at h
          subst h
          refine ⟨.agg (vs.extract off (off + n)), by simp only [part, Sem.run_bind, run_isAgg hu, Result.andThen_ok, hg, if_true, run_sizeOf hn, Sem.run_pure], .agg _ _ ?_ ?_ ?_⟩
          · simp; omega
          · intro c hc; exact hl c (List.mem_of_mem_drop (List.mem_of_mem_take hc))
          · intro j c e
            rw [List.getElem?_take] at e
            split at e
            · rename_i hj
              rw [List.getElem?_drop] at e
              have := hr _ c e
              have hk : (vs.extract off (off + n)).getD j undef = vs.getD (off + j) undef := by
                simp only [Array.getD_eq_getD_getElem?, Array.getElem?_extract]
                have : off + j < vs.size := by rw [hs]; exact (List.getElem?_eq_some_iff.1 e).1
                rw [if_pos (by omega)]
              rw [hk]; exact this
            · cases e
        · cases h
      · cases h
    · rename_i hg
      rw [List.head?_eq_getElem?, List.getElem?_drop] at h
      have hj := (List.getElem?_eq_some_iff.1 h).1
      have := hr _ y h
      refine ⟨vs.getD off undef, ?_, by simpa using this⟩
      have hv : vs[off]? = some (vs.getD off undef) := getD_of (by rw [hs]; simpa using hj)
      simp only [part, Sem.run_bind, run_isAgg hu, Result.andThen_ok, hg, Bool.false_eq_true, if_false, hv, Sem.run_pure]
  · cases h

theorem aEqD_run : ∀ (d : Nat) (t : TypeId) (x y : DV) (u v : Value) (b : Bool) (D : Nat), aEqD P d t x y = some b → d ≤ D → Rd w im x u → Rd w im y v → (Op.equalIn D t u v).run P w = .ok b w := by
  intro d
  induction d with
  | zero => intro t x y u v b D h; simp [aEqD] at h
  | succ d ih =>
    intro t x y u v b D h hD hx hy
    obtain ⟨D, rfl⟩ : ∃ m, D = m + 1 := ⟨D - 1, by omega⟩
    unfold aEqD at h
    split at h
    · rename_i hu; cases hx; cases hy; cases h; simp [Op.equalIn, run_underlying hu]
    · rename_i hu; cases hx; cases hy
      split at h
      · rename_i hk; subst hk; cases h; simp [Op.equalIn, run_underlying hu]
      · cases h
    · rename_i hu; cases hx; cases hy; cases h; rw [← ByteArray.toList_eq, ← ByteArray.toList_eq]; exact run_equalIn_string w D t _ _ hu
    · rename_i hu; cases hx; cases hy; cases h; simp [Op.equalIn, run_underlying hu]
    · rename_i hu; cases hx; cases hy; cases h; simp [Op.equalIn, run_underlying hu]
    · rename_i hu; cases hx; cases hy; cases h; simp [Op.equalIn, run_underlying hu]
    · rename_i hu; cases hx; cases hy; cases h; simp [Op.equalIn, run_underlying hu]
    · rename_i hu; cases hx; cases hy; cases h; simp [Op.equalIn, run_underlying hu]
    · rename_i hu; cases hx; cases hy; cases h; simp [Op.equalIn, run_underlying hu]
    · rename_i hu
      cases hx with
      | face _ _ a ha =>
      cases hy with
      | face _ _ b' hb =>
      split at h
      · rename_i ht
        subst ht
        split at h
        · rename_i hc
          have := ih _ _ _ _ _ _ D h (by omega) ha hb
          obtain ⟨i, hi, hci⟩ := Option.map_eq_some_iff.1 hc
          simp [Op.equalIn, run_underlying hu, typeInfo, hi, hci, this]
        · cases h
      · rename_i ht
        cases h
        simp [Op.equalIn, run_underlying hu, ht]
    · rename_i hu; cases hx; cases hy; cases h; simp [Op.equalIn, run_underlying hu]
    · rename_i hu; cases hx; cases hy; cases h; simp [Op.equalIn, run_underlying hu]
    · rename_i hu; cases hx; cases hy; cases h; simp [Op.equalIn, run_underlying hu]
    · rename_i hu; cases hx; cases hy; cases h; simp [Op.equalIn, run_underlying hu]
    · rename_i hu; cases hx; cases hy; cases h; simp [Op.equalIn, run_underlying hu]
    · rename_i hu; cases hx; cases hy; cases h; simp [Op.equalIn, run_underlying hu]
    · rename_i fs xs ys hu
      split at h
      · cases h
      · rename_i hst
        cases hx with
        | agg _ us hs1 hl1 hr1 =>
        cases hy with
        | agg _ vs hs2 hl2 hr2 =>
        have hf : P.fieldsOf t = fs := by simp [Program.fieldsOf, hu]
        rw [run_equalIn_struct (P := P) w D t us vs (by rw [hf]; exact hu) (by simpa using hst), hf]
        have key : ∀ (l : List Field) (b : Bool), eqFields P (aEqD P d) l xs ys = some b → (Op.eqFields D us vs l).run P w = .ok b w := by
          intro l
          induction l with
          | nil => intro b hb; simp only [eqFields, Option.some.injEq] at hb; subst hb; simp [Op.eqFields]
          | cons f l ihl =>
            intro b hb
            simp only [eqFields] at hb
            rw [Op.eqFields]
            split at hb
            · rename_i hn
              rw [if_pos hn]
              split at hb
              · rename_i a1 b1 h1 h2
                split at hb
                · rename_i r s e1 e2
                  simp only [Option.some.injEq] at hb
                  subst hb
                  obtain ⟨ua, ra, qa⟩ := run_partD hs1 hl1 hr1 h1
                  obtain ⟨ub, rb, qb⟩ := run_partD hs2 hl2 hr2 h2
                  have hrec := ih _ _ _ _ _ _ D e1 (by omega) qa qb
                  simp only [Sem.run_bind, ra, rb, hrec, Result.andThen_ok]
                  cases r
                  · simp
                  · simpa using ihl s e2
                · cases hb
              · cases hb
            · rename_i hn
              rw [if_neg hn]
              exact ihl b hb
        exact key fs.toList b h
    · cases h
end

section
variable {P : Program} {w : World} {G : Ctx} {H : Hf}

def isConstO : Operand → Bool
  | .const _ => true
  | _ => false

/-- '==' of what is no plain value. -/
def aEqA (P : Program) (t : TypeId) (x y : AV) : Option Bool := match x, y with
  | .d a, .d b => aEqD P 100 t a b
  | .ptr .., .d .nilPtr => match P.underlying t with
    | some (.pointer _) => some false
    | _ => none
  | .d .nilPtr, .ptr .. => match P.underlying t with
    | some (.pointer _) => some false
    | _ => none
  | .fn .., .d .nilFn => match P.underlying t with
    | some (.func ..) => some false
    | _ => none
  | _, _ => none

/-- The test that goes ahead of '==' lets these by. -/
def aGuard (P : Program) (t : TypeId) (ox oy : Operand) (x y : AV) : Bool := match x, y with
  | .d .nilFace, .d .nilFace => isConstO ox || isConstO oy
  | .d (.agg _), _ => !P.eqGuardType P.depth t
  | .agg _, _ => false
  | _, .agg _ => false
  | _, _ => true

/-- The operations of two operands. -/
def aBin (P : Program) (op : BinOp) (t : TypeId) (ox oy : Operand) (x y : AV) : Option DV := match x, y with
  | .d (.int k a), .d (.int k' b) => match op with
    | .shl => if b < 0 then none else some (.int k (k.wrap (a * 2 ^ (min b.toNat k.bits))))
    | .shr => if b < 0 then none else some (.int k (a.fdiv (2 ^ (min b.toNat k.bits))))
    | op => if k = k' then aInt op k a b else none
  | .d (.str a), .d (.str b) => aStr op a b
  | x, y => if aGuard P t ox oy x y then match op with
    | .eql => (aEqA P t x y).map .bool
    | .neq => (aEqA P t x y).map fun r => .bool (!r)
    | _ => none
    else none

theorem shift_run {k k' : IntKind} {a b : Int} (t : TypeId) (h0 : ¬ b < 0) :
    (binOp .shl t (.int k a) (.int k' b)).run P w = .ok (.int k (k.wrap (a * 2 ^ (min b.toNat k.bits)))) w ∧ (binOp .shr t (.int k a) (.int k' b)).run P w = .ok (.int k (a.fdiv (2 ^ (min b.toNat k.bits)))) w := by
  constructor <;> simp only [binOp, Op.shift, if_neg h0, Sem.run_pure]

/-- What kind of value it is. -/
def hk : Value → Nat
  | .bool _ => 0 | .int .. => 1 | .string _ => 2 | .nilIface => 3 | .iface .. => 4 | .pointer _ => 5 | .slice .. => 6 | .nilFunc => 7 | .func .. => 8 | .agg _ => 9 | .tuple _ => 10
  | .float .. => 11 | .complex .. => 12 | .map _ => 13 | .chan _ => 14
def dk : DV → Nat
  | .bool _ => 0 | .int .. => 1 | .str _ => 2 | .nilFace => 3 | .face .. => 4 | .nilPtr => 5 | .ref _ => 5 | .nilSl => 6 | .nul => 6 | .sl .. => 6 | .nilFn => 7 | .fn .. => 8 | .agg _ => 9 | .tup _ => 10
def ak : AV → Nat
  | .d v => dk v | .ptr .. => 5 | .row .. => 6 | .fn .. => 8 | .agg _ => 9 | .tup _ => 10
theorem Ra.kind {x : AV} {u : Value} (h : Ra w G x u) : hk u = ak x := by
  cases h with
  | d v _ hd => cases hd <;> rfl
  | row id ver h hh => unfold Hdr.val; split <;> rfl
  | _ => rfl

theorem equal_ptr_nil {t e : TypeId} (hu : P.underlying t = some (.pointer e)) (a : Addr) : (Op.equal t (.pointer (some a)) (.pointer none)).run P w = .ok false w ∧ (Op.equal t (.pointer none) (.pointer (some a))).run P w = .ok false w := by
  unfold Op.equal Op.maxDepth
  constructor
  · rw [show (10000 : Nat) = 9999 + 1 from rfl, Op.equalIn]; simp [run_underlying hu]
  · rw [show (10000 : Nat) = 9999 + 1 from rfl, Op.equalIn]; simp [run_underlying hu]
theorem equal_fn_nil {t : TypeId} {ps rs : Array TypeId} {vr : Bool} (hu : P.underlying t = some (.func ps rs vr)) (f : Fn) (a b : Array Value) : (Op.equal t (.func f a b) .nilFunc).run P w = .ok false w := by
  unfold Op.equal Op.maxDepth
  rw [show (10000 : Nat) = 9999 + 1 from rfl, Op.equalIn]; simp [run_underlying hu]

theorem aEqA_run {t : TypeId} {x y : AV} {u v : Value} {b : Bool} (h : aEqA P t x y = some b) (hx : Ra w G x u) (hy : Ra w G y v) : (Op.equal t u v).run P w = .ok b w := by
  unfold aEqA at h
  split at h
  · exact aEqD_run 100 t _ _ _ _ b Op.maxDepth h (by unfold Op.maxDepth; omega) hx.of_d hy.of_d
  · split at h
    · rename_i hu
      cases h
      have := hy.of_d
      cases this
      cases hx
      exact (equal_ptr_nil hu _).1
    · cases h
  · split at h
    · rename_i hu
      cases h
      have := hx.of_d
      cases this
      cases hy
      exact (equal_ptr_nil hu _).2
    · cases h
  · split at h
    · rename_i hu
      cases h
      have := hy.of_d
      cases this
      cases hx
      exact equal_fn_nil hu _ _ _
    · cases h
  · cases h

theorem guard_nil {op : BinOp} {t : TypeId} {ox oy : Operand} (h : (isConstO ox || isConstO oy) = true) : (eqGuard op t ox oy .nilIface .nilIface).run P w = .ok () w := by
  cases ox <;> cases oy <;> simp [isConstO] at h <;> cases op <;> rfl
theorem guard_agg {op : BinOp} {t : TypeId} {ox oy : Operand} {cs ds : Array Value} (h : P.eqGuardType P.depth t = false) : (eqGuard op t ox oy (.agg cs) (.agg ds)).run P w = .ok () w := by
  cases op <;> simp [eqGuard, h]
theorem guard_plain {op : BinOp} {t : TypeId} {ox oy : Operand} {u v : Value} (h1 : hk u ≠ 3 ∨ hk v ≠ 3) (h2 : hk u ≠ 9 ∨ hk v ≠ 9) : (eqGuard op t ox oy u v).run P w = .ok () w := by
  cases u <;> cases v <;> first | (simp [hk] at h1; done) | (simp [hk] at h2; done) | (unfold eqGuard; split <;> rfl)

/-- The guard's run. -/
theorem aGuard_run {op : BinOp} {t : TypeId} {ox oy : Operand} {x y : AV} {u v : Value} (h : aGuard P t ox oy x y = true) (hx : Ra w G x u) (hy : Ra w G y v) : (eqGuard op t ox oy u v).run P w = .ok () w := by
  have k1 := hx.kind
  have k2 := hy.kind
  unfold aGuard at h
  split at h
  · have a := hx.of_d
    have b := hy.of_d
    cases a; cases b
    exact guard_nil h
  · have a := hx.of_d
    cases a
    by_cases e : hk v = 9
    · cases v <;> simp [hk] at e
      exact guard_agg (by simpa using h)
    · exact guard_plain (.inl (by simp [hk])) (.inr e)
  · cases h
  · cases h
  · rename_i n1 n2 n3 n4
    refine guard_plain ?_ ?_
    · by_cases e1 : ak x = 3
      · by_cases e2 : ak y = 3
        · exfalso
          cases x with
          | d a => cases a <;> simp [ak, dk] at e1
                   cases y with
                   | d b => cases b <;> simp [ak, dk] at e2
                            simp_all
                   | _ => simp [ak] at e2
          | _ => simp [ak] at e1
        · exact .inr (by rw [k2]; exact e2)
      · exact .inl (by rw [k1]; exact e1)
    · refine .inl ?_
      rw [k1]
      intro e
      cases x with
      | d a => cases a <;> simp [ak, dk] at e
               simp_all
      | agg cs => simp_all
      | _ => simp [ak] at e

theorem binOp_eq {t : TypeId} {u v : Value} (h1 : hk u ≠ 1 ∨ hk v ≠ 1) (h2 : hk u ≠ 2 ∨ hk v ≠ 2) (h3 : hk u < 11) :
    binOp .eql t u v = (do pure (.bool (← Op.equal t u v))) ∧ binOp .neq t u v = (do pure (.bool (!(← Op.equal t u v)))) := by
  constructor
  all_goals
    cases u <;> first | (simp [hk] at h3; done) | (cases v <;> first | rfl | (simp [hk] at h1; done) | (simp [hk] at h2; done))

theorem aBin_snd {op : BinOp} {t : TypeId} {ox oy : Operand} {x y : AV} {ux uy : Value} (hx : Ra w G x ux) (hy : Ra w G y uy) {v : DV} (h : aBin P op t ox oy x y = some v) :
    SndV P w G (do eqGuard op t ox oy ux uy; binOp op t ux uy) (.d v) := by
  unfold aBin at h
  split at h
  · rename_i k a k' b
    obtain rfl := hx.int_inv
    obtain rfl := hy.int_inv
    have hg : (eqGuard op t ox oy (.int k a) (.int k' b)).run P w = .ok () w := guard_plain (.inl (by simp [hk])) (.inl (by simp [hk]))
    have main : ∃ u, (binOp op t (.int k a) (.int k' b)).run P w = .ok u w ∧ Ra w G (.d v) u := by
      split at h
      · split at h
        · cases h
        · rename_i h0; cases h; exact ⟨_, (shift_run t h0).1, .int⟩
      · split at h
        · cases h
        · rename_i h0; cases h; exact ⟨_, (shift_run t h0).2, .int⟩
      · split at h
        · rename_i hk; subst hk; exact aInt_run t h
        · cases h
    obtain ⟨u, h1, h2⟩ := main
    exact ⟨u, by simp only [Sem.run_bind, hg, Result.andThen_ok, h1], h2⟩
  · rename_i a b
    obtain ⟨rfl, _⟩ := hx.str_inv
    obtain ⟨rfl, _⟩ := hy.str_inv
    have hg : (eqGuard op t ox oy (.string a) (.string b)).run P w = .ok () w := guard_plain (.inl (by simp [hk])) (.inl (by simp [hk]))
    obtain ⟨u, h1, h2⟩ := aStr_run (P := P) (w := w) (G := G) t h
    exact ⟨u, by simp only [Sem.run_bind, hg, Result.andThen_ok, h1], h2⟩
  · rename_i hni hns
    split at h
    · rename_i hg
      have hgr := aGuard_run (op := op) hg hx hy
      have k1 := hx.kind
      have k2 := hy.kind
      have c1 : hk ux ≠ 1 ∨ hk uy ≠ 1 := by
        by_cases e1 : ak x = 1
        · by_cases e2 : ak y = 1
          · exfalso
            cases x with
            | d a => cases a <;> simp [ak, dk] at e1
                     cases y with
                     | d b => cases b <;> simp [ak, dk] at e2
                              exact hni _ _ _ _ rfl rfl
                     | _ => simp [ak] at e2
            | _ => simp [ak] at e1
          · exact .inr (by rw [k2]; exact e2)
        · exact .inl (by rw [k1]; exact e1)
      have c2 : hk ux ≠ 2 ∨ hk uy ≠ 2 := by
        by_cases e1 : ak x = 2
        · by_cases e2 : ak y = 2
          · exfalso
            cases x with
            | d a => cases a <;> simp [ak, dk] at e1
                     cases y with
                     | d b => cases b <;> simp [ak, dk] at e2
                              exact hns _ _ rfl rfl
                     | _ => simp [ak] at e2
            | _ => simp [ak] at e1
          · exact .inr (by rw [k2]; exact e2)
        · exact .inl (by rw [k1]; exact e1)
      have c3 : hk ux < 11 := by
        rw [k1]
        cases x with
        | d a => cases a <;> simp [ak, dk]
        | _ => simp [ak]
      obtain ⟨q1, q2⟩ := binOp_eq (t := t) c1 c2 c3
      split at h
      · obtain ⟨r, hr, rfl⟩ := Option.map_eq_some_iff.1 h
        have := aEqA_run hr hx hy
        exact ⟨.bool r, by simp only [Sem.run_bind, hgr, Result.andThen_ok, q1, this, Sem.run_pure], .bool⟩
      · obtain ⟨r, hr, rfl⟩ := Option.map_eq_some_iff.1 h
        have := aEqA_run hr hx hy
        exact ⟨.bool (!r), by simp only [Sem.run_bind, hgr, Result.andThen_ok, q2, this, Sem.run_pure], .bool⟩
      · cases h
    · cases h
end
end Go.Sv
