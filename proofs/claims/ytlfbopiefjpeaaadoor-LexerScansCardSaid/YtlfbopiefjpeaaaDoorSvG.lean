/- How the operations act on abstract values, part 5: arithmetic, comparisons, cuts. -/
import Derived.Test.YtlfbopiefjpeaaaDoorSvF
import Derived.Laws.Strings
set_option linter.unusedSimpArgs false
set_option linter.unusedVariables false
namespace Go.Sv
open Go

section
variable {P : Program} {w : World} {G : Ctx} {H : Hf}

/-- Arithmetic and comparisons of whole numbers. -/
def aInt (op : BinOp) (k : IntKind) (a b : Int) : Option DV := match op with
  | .add => some (.int k (k.wrap (a + b)))
  | .sub => some (.int k (k.wrap (a - b)))
  | .mul => some (.int k (k.wrap (a * b)))
  | .quo => if b = 0 then none else some (.int k (k.wrap (a.tdiv b)))
  | .rem => if b = 0 then none else some (.int k (a.tmod b))
  | .and => some (.int k (k.wrap (BitVec.ofInt k.bits a &&& BitVec.ofInt k.bits b).toNat))
  | .or => some (.int k (k.wrap (BitVec.ofInt k.bits a ||| BitVec.ofInt k.bits b).toNat))
  | .xor => some (.int k (k.wrap (BitVec.ofInt k.bits a ^^^ BitVec.ofInt k.bits b).toNat))
  | .andNot => some (.int k (k.wrap (BitVec.ofInt k.bits a &&& ~~~BitVec.ofInt k.bits b).toNat))
  | .eql => some (.bool (a == b))
  | .neq => some (.bool (a != b))
  | .lss => some (.bool (a < b))
  | .leq => some (.bool (a ≤ b))
  | .gtr => some (.bool (a > b))
  | .geq => some (.bool (a ≥ b))
  | _ => none
def aStr (op : BinOp) (x y : ByteArray) : Option DV := match op with
  | .add => if x.size + y.size ≤ 9223372036854775807 then some (.str (x ++ y)) else none
  | .eql => some (.bool (x.data.toList == y.data.toList))
  | .neq => some (.bool (!(x.data.toList == y.data.toList)))
  | .lss => some (.bool (Op.bytesLess x.data.toList y.data.toList))
  | .leq => some (.bool (Op.bytesLess x.data.toList y.data.toList || x.data.toList == y.data.toList))
  | .gtr => some (.bool (!(Op.bytesLess x.data.toList y.data.toList || x.data.toList == y.data.toList)))
  | .geq => some (.bool (!Op.bytesLess x.data.toList y.data.toList))
  | _ => none

theorem aInt_run {op : BinOp} {k : IntKind} {a b : Int} {v : DV} (t : TypeId) (h : aInt op k a b = some v) : ∃ u, (binOp op t (.int k a) (.int k b)).run P w = .ok u w ∧ Ra w G (.d v) u := by
  unfold aInt at h
  split at h
  case h_4 =>
    split at h
    · cases h
    · rename_i hb
      simp only [Option.some.injEq] at h; subst h
      exact ⟨.int k (k.wrap (a.tdiv b)), by simp [binOp, Op.intDiv, hb], .int⟩
  case h_5 =>
    split at h
    · cases h
    · rename_i hb
      simp only [Option.some.injEq] at h; subst h
      exact ⟨.int k (a.tmod b), by simp [binOp, Op.intDiv, hb], .int⟩
  all_goals first
    | (cases h; refine ⟨_, by (simp only [binOp, ne_eq, not_true_eq_false, if_false]; rfl), ?_⟩; first | exact .int | exact .bool)
    | (simp at h; done)

theorem aStr_run {op : BinOp} {x y : ByteArray} {v : DV} (t : TypeId) (h : aStr op x y = some v) : ∃ u, (binOp op t (.string x) (.string y)).run P w = .ok u w ∧ Ra w G (.d v) u := by
  unfold aStr at h
  split at h
  · split at h
    · rename_i hle
      simp only [Option.some.injEq] at h; subst h
      refine ⟨.string (x ++ y), ?_, .d _ _ (.str _ ?_)⟩
      · have : ¬ (((x.size + y.size : Nat) : Int) > IntKind.i64.max) := by
          have : IntKind.i64.max = 9223372036854775807 := rfl
          omega
        simp only [binOp, Op.stringOp]
        rw [if_neg this]; rfl
      · rw [ByteArray.size_append]; unfold maxLen; omega
    · cases h
  all_goals first
    | (simp only [Option.some.injEq] at h; subst h; simp only [← ByteArray.toList_eq]; exact ⟨_, rfl, .bool⟩)
    | (simp at h; done)

/-- A part of a struct that is compared. -/
def eqPart (P : Program) (t : TypeId) (cs : List DV) (off : Nat) : Option DV :=
  if (P.underlying t).isSome then
    if isAggT P t then match szT P t with
      | some n => if off + n ≤ cs.length then some (.agg ((cs.drop off).take n)) else none
      | none => none
    else (cs.drop off).head?
  else none
def eqFields (P : Program) (eq : TypeId → DV → DV → Option Bool) : List Field → List DV → List DV → Option Bool
  | [], _, _ => some true
  | f :: fs, xs, ys =>
    if f.name ≠ "_" then
      match eqPart P f.type xs f.offset, eqPart P f.type ys f.offset with
      | some a, some b => match eq f.type a b, eqFields P eq fs xs ys with
        | some r, some s => some (r && s)
        | _, _ => none
      | _, _ => none
    else eqFields P eq fs xs ys
/-- '==' of two values; none: it can't be told. -/
def aEqD (P : Program) : Nat → TypeId → DV → DV → Option Bool
  | 0, _, _, _ => none
  | d + 1, t, x, y => match P.underlying t, x, y with
    | some .bool, .bool a, .bool b => some (a == b)
    | some (.int _), .int k a, .int k' b => if k = k' then some (a == b) else none
    | some .string, .str a, .str b => some (a.data.toList == b.data.toList)
    | some (.pointer _), .nilPtr, .nilPtr => some true
    | some (.pointer _), .nilPtr, .ref _ => some false
    | some (.pointer _), .ref _, .nilPtr => some false
    | some (.interface _), .nilFace, .nilFace => some true
    | some (.interface _), .nilFace, .face _ _ => some false
    | some (.interface _), .face _ _, .nilFace => some false
    | some (.interface _), .face t a, .face u b => if t = u then if ((P.info? t).map (·.comparable)) = some true then aEqD P d t a b else none else some false
    | some (.func ..), .nilFn, .nilFn => some true
    | some (.func ..), .nilFn, .fn .. => some false
    | some (.func ..), .fn .., .nilFn => some false
    | some (.slice _), .nilSl, .nilSl => some true
    | some (.slice _), .sl _ (_ :: _), .nilSl => some false
    | some (.slice _), .nilSl, .sl _ (_ :: _) => some false
    | some (.struct fs), .agg xs, .agg ys => if P.stoodInHeld t then none else eqFields P (aEqD P d) fs.toList xs ys
    | _, _, _ => none

def aPick (c a b : AV) : Option AV := match c with
  | .d (.bool t) => some (match a, b with
    | .d (.bool x), .d (.bool y) => .d (.bool (if t then x else y))
    | _, _ => if t then a else b)
  | _ => none
theorem aPick_snd {c a b : AV} {uc ua ub : Value} (hc : Ra w G c uc) (ha : Ra w G a ua) (hb : Ra w G b ub) {v : AV} (h : aPick c a b = some v) : ∃ t, uc = .bool t ∧ Ra w G v (if t then ua else ub) := by
  unfold aPick at h
  split at h
  · rename_i t
    refine ⟨t, hc.bool_inv, ?_⟩
    simp only [Option.some.injEq] at h
    subst h
    split
    · obtain rfl := ha.bool_inv
      obtain rfl := hb.bool_inv
      cases t
      · exact .bool
      · exact .bool
    · cases t
      · exact hb
      · exact ha
  · cases h

def aUn (op : UnOp) (x : AV) : Option AV := match op, x with
  | .neg, .d (.int k n) => some (.d (.int k (k.wrap (0 - n))))
  | .not, .d (.bool b) => some (.d (.bool (!b)))
  | .xor, .d (.int k n) => match aInt .xor k (if k.signed then -1 else k.max) n with
    | some v => some (.d v)
    | none => none
  | _, _ => none
theorem aUn_snd {op : UnOp} {x : AV} {u : Value} (hx : Ra w G x u) {v : AV} (h : aUn op x = some v) : SndV P w G (Op.unary op u) v := by
  unfold aUn at h
  split at h
  · obtain rfl := hx.int_inv
    cases h
    exact ⟨_, rfl, .int⟩
  · obtain rfl := hx.bool_inv
    cases h
    exact ⟨_, rfl, .bool⟩
  · obtain rfl := hx.int_inv
    split at h
    · rename_i v' hv
      cases h
      cases hv
      exact ⟨_, rfl, .int⟩
    · cases h
  · cases h

def aConvert (P : Program) (src dst : TypeId) (x : AV) : Option AV := match P.underlying src, P.underlying dst, x with
  | some (.int _), some (.int k), .d (.int _ n) => some (.d (.int k (k.wrap n)))
  | some .string, some .string, .d (.str s) => some (.d (.str s))
  | some (.int _), some .string, .d (.int _ n) => if (Utf8.encode n).size ≤ 1000 then some (.d (.str (Utf8.encode n))) else none
  | _, _, _ => none
theorem aConvert_snd {src dst : TypeId} {x : AV} {u : Value} (hx : Ra w G x u) {v : AV} (h : aConvert P src dst x = some v) : SndV P w G (convert src dst u) v := by
  unfold aConvert at h
  split at h
  · rename_i h1 h2
    obtain rfl := hx.int_inv
    cases h
    exact ⟨_, by simp [convert, run_underlying h1, run_underlying h2, Conv.intToInt], .int⟩
  · rename_i h1 h2
    obtain ⟨rfl, hs⟩ := hx.str_inv
    cases h
    exact ⟨_, by simp [convert, run_underlying h1, run_underlying h2], hx⟩
  · rename_i h1 h2
    obtain rfl := hx.int_inv
    split at h
    · rename_i hle
      cases h
      exact ⟨_, by simp [convert, run_underlying h1, run_underlying h2, Conv.intToString], .d _ _ (.str _ (by unfold maxLen; omega))⟩
    · cases h
  · cases h

def aMakeIface (P : Program) (t : TypeId) (x : AV) : Option AV := match P.underlying t, x with
  | some (.interface _), _ => none
  | some _, .d v => some (.d (.face t v))
  | _, _ => none
theorem aMakeIface_snd {t : TypeId} {x : AV} {u : Value} (hx : Ra w G x u) {v : AV} (h : aMakeIface P t x = some v) : SndV P w G (Instr.makeInterface t u) v := by
  unfold aMakeIface at h
  split at h
  · cases h
  · rename_i desc d hno hu
    cases h
    refine ⟨.iface t u, ?_, .d _ _ (.face t _ u hx.of_d)⟩
    simp only [Instr.makeInterface, Sem.run_bind, run_underlying hu, Result.andThen_ok]
    cases desc with
    | interface ms => exact absurd rfl (hno ms)
    | _ => rfl
  · cases h

def mkFn (f : FuncId) (first caps : List AV) : AV := match toDs first, toDs caps with
  | some a, some b => .d (.fn f a b)
  | _, _ => .fn f first caps
theorem mkFn_ra {f : FuncId} {first caps : List AV} {us vs : Array Value} (h1 : us.size = first.length) (h2 : vs.size = caps.length)
    (r1 : ∀ (j : Nat) (c : AV), first[j]? = some c → Ra w G c (us.getD j undef)) (r2 : ∀ (j : Nat) (c : AV), caps[j]? = some c → Ra w G c (vs.getD j undef)) : Ra w G (mkFn f first caps) (.func (.func f) us vs) := by
  unfold mkFn
  split
  · rename_i a b ha hb
    have ea := toDs_some ha
    have eb := toDs_some hb
    subst ea
    subst eb
    exact .d _ _ (.fn f a b us vs (by simpa using h1) (by simpa using h2) (fun j c e => (r1 j (.d c) (by simp [e])).of_d) fun j c e => (r2 j (.d c) (by simp [e])).of_d)
  · exact .fn f first caps us vs h1 h2 r1 r2

def aExtract (x : AV) (i : Nat) : Option AV := match x with
  | .d (.tup cs) => match cs[i]? with
    | some c => some (.d c)
    | none => none
  | .tup cs => cs[i]?
  | _ => none
theorem aExtract_snd {x : AV} {u : Value} (hx : Ra w G x u) {i : Nat} {v : AV} (h : aExtract x i = some v) : SndV P w G (Instr.extract u i) v := by
  unfold aExtract at h
  split at h
  · rename_i cs
    split at h
    · rename_i c hc
      cases h
      have := hx.of_d
      cases this with
      | tup _ vs hs hr =>
        have hlt : i < vs.size := by rw [hs]; exact (List.getElem?_eq_some_iff.1 hc).1
        exact ⟨vs.getD i undef, by simp only [Instr.extract, getD_of hlt, Sem.run_pure], .d _ _ (hr i c hc)⟩
    · cases h
  · rename_i cs
    cases hx with
    | tup _ vs hs hr =>
      have hlt : i < vs.size := by rw [hs]; exact (List.getElem?_eq_some_iff.1 h).1
      exact ⟨vs.getD i undef, by simp only [Instr.extract, getD_of hlt, Sem.run_pure], hr i v h⟩
  · cases h

def aLen (P : Program) (H : Hf) (t : TypeId) (x : AV) : Option (AV × Fx) := match P.underlying t with
  | some .string => match x with
    | .d (.str s) => some (.d (.int .i64 s.size), {})
    | _ => none
  | some (.slice _) => match elems H x with
    | some (xs, _, rd) => some (.d (.int .i64 xs.length), { rd := rd })
    | none => none
  | some (.array n _) => some (.d (.int .i64 n), {})
  | _ => none
theorem aLen_snd (hr : RelH w G H) {t ty : TypeId} {x : AV} {u : Value} (hx : Ra w G x u) {v : AV} {fx : Fx} (h : aLen P H t x = some (v, fx)) : SndV P w G (Builtin.len_ #[t] ty #[u]) v ∧ fx.wr = [] := by
  unfold aLen at h
  split at h
  · rename_i hu
    split at h
    · obtain ⟨rfl, _⟩ := hx.str_inv
      cases h
      exact ⟨⟨_, by simp [Builtin.len_, run_underlying hu, goInt], .int⟩, rfl⟩
    · cases h
  · rename_i hu
    split at h
    · rename_i xs e rd he
      cases h
      obtain ⟨a, c, rfl, _⟩ := elems_len hr hx he
      exact ⟨⟨_, by simp [Builtin.len_, run_underlying hu, goInt], .int⟩, rfl⟩
    · cases h
  · rename_i n e hu
    cases h
    exact ⟨⟨_, by simp [Builtin.len_, run_underlying hu, goInt], .int⟩, rfl⟩
  · cases h

def bound (x : Option AV) (dflt : Int) : Option Int := match x with
  | none => some dflt
  | some (.d (.int _ n)) => some n
  | _ => none

/-- 'x[lo:hi]' (and 'x[lo:hi:max]' of a slice). -/
def aSlice (P : Program) (t : TypeId) (x : AV) (lo hi mx : Option AV) : Option AV := match P.underlying t with
  | some .string => match x, mx with
    | .d (.str s), none => match bound lo 0, bound hi s.size with
      | some l, some h => if 0 ≤ l then if l ≤ h then if h ≤ s.size then some (.d (.str (s.extract l.toNat h.toNat))) else none else none else none
      | _, _ => none
    | _, _ => none
  | some (.slice e) => match szT P e with
    | some n => match x with
      | .d (.sl n' xs) => if n' = n then match bound lo 0, bound hi xs.length, bound mx xs.length with
          | some l, some h, some m => if 0 ≤ l then if l ≤ h then if h ≤ m then if m ≤ xs.length then
              if m = l ∧ mx.isSome ∧ hi.isSome then some (.d .nul) else if mx.isSome ∧ hi.isNone then none else some (.d (.sl n ((xs.take h.toNat).drop l.toNat)))
            else none else none else none else none
          | _, _, _ => none
        else none
      | .d .nilSl => match bound lo 0, bound hi 0, bound mx 0 with
          | some 0, some 0, some 0 => if mx.isSome ∧ hi.isNone then none else some (.d .nilSl)
          | _, _, _ => none
      | .d .nul => match bound lo 0, bound hi 0, bound mx 0 with
          | some 0, some 0, some 0 => if mx.isSome ∧ hi.isNone then none else some (.d .nul)
          | _, _, _ => none
      | _ => none
    | none => none
  | _ => none

def Opt2 (w : World) (G : Ctx) (x : Option AV) (u : Option Value) : Prop := match x, u with
  | none, none => True
  | some a, some b => Ra w G a b
  | _, _ => False

theorem bound_run' {x : Option AV} {d n : Int} (h : bound x d = some n) {u : Option Value} (hx : Opt2 w G x u) :
    (x = none ∧ u = none ∧ n = d) ∨ ∃ k, u = some (.int k n) ∧ x.isSome = true := by
  unfold bound at h
  split at h
  · cases u with
    | none => cases h; exact .inl ⟨rfl, rfl, rfl⟩
    | some b => exact absurd hx (by simp [Opt2])
  · rename_i k m
    cases u with
    | none => exact absurd hx (by simp [Opt2])
    | some b =>
      simp only [Opt2] at hx
      cases h
      exact .inr ⟨k, by rw [hx.int_inv], rfl⟩
  · cases h

theorem sliceBounds_run (isSl : Bool) (len cap : Nat) {lo hi mx : Option AV} {ulo uhi umx : Option Value} (h1 : Opt2 w G lo ulo) (h2 : Opt2 w G hi uhi) (h3 : Opt2 w G mx umx) {l h m : Int}
    (b1 : bound lo 0 = some l) (b2 : bound hi len = some h) {dm : Int} (b3 : bound mx dm = some m) (c1 : 0 ≤ l) (c2 : l ≤ h) (c3 : mx.isSome = true → h ≤ m ∧ m ≤ cap) (c4 : h ≤ cap) (c5 : ¬ (mx.isSome = true ∧ hi.isNone = true)) :
    (Instr.sliceBounds isSl len cap ulo uhi umx).run P w = .ok (l.toNat, h.toNat, if mx.isSome then m.toNat else cap) w := by
  unfold Instr.sliceBounds
  rcases bound_run' b3 h3 with ⟨rfl, rfl, rfl⟩ | ⟨k3, rfl, e3⟩
  · rcases bound_run' b2 h2 with ⟨rfl, rfl, rfl⟩ | ⟨k2, rfl, e2⟩
    · rcases bound_run' b1 h1 with ⟨rfl, rfl, rfl⟩ | ⟨k1, rfl, e1⟩
      · simp
      · have : (l : Int) ≤ (len : Int) := c2
        simp [Instr.sliceBound, asIntOf, c1, this]
    · rcases bound_run' b1 h1 with ⟨rfl, rfl, rfl⟩ | ⟨k1, rfl, e1⟩
      · have : 0 ≤ h := by omega
        simp [Instr.sliceBound, asIntOf, this, c4]
      · have h0 : 0 ≤ h := by omega
        have : l ≤ (h.toNat : Int) := by omega
        simp [Instr.sliceBound, asIntOf, h0, c1, c4]
        intro h0'; omega
  · obtain ⟨d1, d2⟩ := c3 e3
    rcases bound_run' b2 h2 with ⟨rfl, rfl, rfl⟩ | ⟨k2, rfl, e2⟩
    · exact absurd ⟨e3, rfl⟩ c5
    · have h0 : 0 ≤ h := by omega
      have m0 : 0 ≤ m := by omega
      have hm : h ≤ (m.toNat : Int) := by omega
      rcases bound_run' b1 h1 with ⟨rfl, rfl, rfl⟩ | ⟨k1, rfl, e1⟩
      · simp [Instr.sliceBound, asIntOf, m0, d2, e3, h0]
        intro hq; omega
      · have hl : l ≤ (h.toNat : Int) := by omega
        simp [Instr.sliceBound, asIntOf, m0, d2, e3, h0, c1]
        rw [if_pos (by omega)]
        simp
        intro hq; omega

theorem aSlice_snd {t : TypeId} {x : AV} {u : Value} (hx : Ra w G x u) {lo hi mx : Option AV} {ulo uhi umx : Option Value} (h1 : Opt2 w G lo ulo) (h2 : Opt2 w G hi uhi) (h3 : Opt2 w G mx umx)
    {v : AV} (h : aSlice P t x lo hi mx = some v) : SndV P w G (Instr.sliceAt t u ulo uhi umx) v := by
  unfold aSlice at h
  split at h
  · rename_i hu
    split at h
    · rename_i s
      obtain ⟨rfl, hs⟩ := hx.str_inv
      cases umx with
      | some z => exact absurd h3 (by simp [Opt2])
      | none =>
      split at h
      · rename_i l hh b1 b2
        split at h
        · rename_i c1
          split at h
          · rename_i c2
            split at h
            · rename_i c3
              cases h
              have hb := sliceBounds_run (P := P) false s.size s.size h1 h2 (mx := none) (umx := none) (dm := 0) (m := 0) trivial b1 b2 rfl c1 c2 (by simp) c3 (by simp)
              refine ⟨_, by simp [Instr.sliceAt, Instr.slice, run_underlying hu, hb], .d _ _ (.str _ ?_)⟩
              rw [ByteArray.size_extract]; omega
            · cases h
          · cases h
        · cases h
      · cases h
    · cases h
  · rename_i e hu
    split at h
    · rename_i n hn
      split at h
      · rename_i n' xs
        split at h
        · rename_i hnn
          subst hnn
          split at h
          · rename_i l hh m b1 b2 b3
            split at h
            · rename_i c1
              split at h
              · rename_i c2
                split at h
                · rename_i c3
                  split at h
                  · rename_i c4
                    have hd := hx.of_d
                    have key : ∀ a cap, u = .slice a xs.length cap → xs.length ≤ cap → ¬ (mx.isSome = true ∧ hi.isNone = true) → (Instr.sliceAt t u ulo uhi umx).run P w = .ok (.slice (if (if mx.isSome then m.toNat else cap) = l.toNat then a else a.map (·.add (l.toNat * n'))) (hh.toNat - l.toNat) ((if mx.isSome then m.toNat else cap) - l.toNat)) w := by
                      intro a cap e hcap hno
                      subst e
                      have hb := sliceBounds_run (P := P) true xs.length cap h1 h2 h3 b1 b2 b3 c1 c2 (fun _ => ⟨c3, by omega⟩) (by omega) hno
                      simp [Instr.sliceAt, Instr.slice, run_underlying hu, hb, run_sizeOf hn]
                    split at h
                    · rename_i hz
                      obtain ⟨z1, z2, z3⟩ := hz
                      cases h
                      have hno : ¬ (mx.isSome = true ∧ hi.isNone = true) := fun hq => by cases hi <;> simp_all
                      have hl0 : hh.toNat - l.toNat = 0 := by omega
                      cases hd with
                      | slNil _ a => exact ⟨_, key a 0 rfl (by simp) hno, by simp only [z2, if_true, z1, hl0, Nat.sub_self]; exact .d _ _ (.nul _)⟩
                      | sl _ _ b o cap us he0 hb hn2 hm he hl hc hrr => exact ⟨_, key _ cap rfl hn2 hno, by simp only [z2, if_true, z1, hl0, Nat.sub_self]; exact .d _ _ (.nul _)⟩
                    · split at h
                      · cases h
                      · rename_i hno
                        cases h
                        have hno' : ¬ (mx.isSome = true ∧ hi.isNone = true) := fun hq => hno ⟨hq.1, hq.2⟩
                        cases hd with
                        | slNil _ a =>
                          refine ⟨_, key a 0 rfl (by simp) hno', ?_⟩
                          have e1 : hh.toNat = 0 := by simp at c4; omega
                          have e2 : l.toNat = 0 := by omega
                          have e3 : (if mx.isSome = true then m.toNat else 0) = 0 := by (split; (simp at c4; omega); rfl)
                          simp only [e1, e2, e3, List.take_nil, List.drop_nil, if_true, Nat.sub_self]
                          exact .d _ _ (.slNil n' _)
                        | sl _ _ b o cap us he0 hb hn2 hm he hl hc hrr =>
                          refine ⟨_, key _ cap rfl hn2 hno', ?_⟩
                          have hlen : ((xs.take hh.toNat).drop l.toNat).length = hh.toNat - l.toNat := by simp; omega
                          have hM : hh.toNat ≤ (if mx.isSome = true then m.toNat else cap) := by split <;> omega
                          generalize (if mx.isSome = true then m.toNat else cap) = M at hM
                          have hget : ∀ (i : Nat) (y : DV), ((xs.take hh.toNat).drop l.toNat)[i]? = some y → xs[l.toNat + i]? = some y := by
                            intro i y hy
                            rw [List.getElem?_drop, List.getElem?_take] at hy
                            split at hy
                            · exact hy
                            · cases hy
                          by_cases hML : M = l.toNat
                          · rw [if_pos hML]
                            have h0 : hh.toNat - l.toNat = 0 := by omega
                            have hnil : (xs.take hh.toNat).drop l.toNat = [] := List.eq_nil_of_length_eq_zero (by rw [hlen]; exact h0)
                            rw [hnil, h0]
                            exact .d _ _ (.sl n' [] b o _ us he0 (fun hq => absurd rfl hq) (by simp) (by simp) (fun y hy => by cases hy) (fun y hy => by cases hy) (fun i j y c e => by simp at e) fun i j y c e => by simp at e)
                          · rw [if_neg hML, Option.map_some, add_at _ rfl]
                            rw [← hlen]
                            refine .d _ _ (.sl n' _ b (o + l.toNat * n') _ (fun k => us (l.toNat * n' + k)) he0 (fun hq => hb (fun e => hq (by rw [e]; simp))) (by rw [hlen]; omega) (by rw [hlen]; omega)
                              (fun y hy => he y (List.mem_of_mem_take (List.mem_of_mem_drop hy))) (fun y hy => hl y (List.mem_of_mem_take (List.mem_of_mem_drop hy))) (fun i j y c e1 e2 => ?_) fun i j y c e1 e2 => ?_)
                            · have := hc _ j y c (hget i y e1) e2
                              have e3 : (l.toNat + i) * n' = l.toNat * n' + i * n' := Nat.add_mul ..
                              rw [e3] at this
                              simpa [Nat.add_assoc] using this
                            · have := hrr _ j y c (hget i y e1) e2
                              have e3 : (l.toNat + i) * n' = l.toNat * n' + i * n' := Nat.add_mul ..
                              rw [e3] at this
                              simpa [Nat.add_assoc] using this
                  · cases h
                · cases h
              · cases h
            · cases h
          · cases h
        · cases h
      · split at h
        · rename_i b1 b2 b3
          split at h
          · cases h
          · rename_i hno
            cases h
            have hd := hx.of_d
            cases hd
            have hb := sliceBounds_run (P := P) true 0 0 h1 h2 h3 b1 b2 b3 (by omega) (by omega) (fun _ => ⟨by omega, by omega⟩) (by omega) (fun hq => hno ⟨hq.1, hq.2⟩)
            exact ⟨.slice none 0 0, by simp [Instr.sliceAt, Instr.slice, run_underlying hu, hb, run_sizeOf hn], .d _ _ .nilSl⟩
        · cases h
      · split at h
        · rename_i b1 b2 b3
          split at h
          · cases h
          · rename_i hno
            cases h
            have hd := hx.of_d
            cases hd with
            | nul a =>
            have hb := sliceBounds_run (P := P) true 0 0 h1 h2 h3 b1 b2 b3 (by omega) (by omega) (fun _ => ⟨by omega, by omega⟩) (by omega) (fun hq => hno ⟨hq.1, hq.2⟩)
            exact ⟨.slice a 0 0, by simp [Instr.sliceAt, Instr.slice, run_underlying hu, hb, run_sizeOf hn], .d _ _ (.nul a)⟩
        · cases h
      · cases h
    · cases h
  · cases h
end
end Go.Sv
