/- The lexer's types, by the walk. -/
import Derived.Test.YtlfbopiefjpeaaaDoorLxD
set_option linter.unusedSimpArgs false
set_option linter.unusedVariables false
namespace Go.Lx
open Go Go.Sv Go.Proofs
set_option maxRecDepth 100000
theorem szT3 : szT Tryd.prog 3 = some 1 := by kernel_rfl
theorem szT9 : szT Tryd.prog 9 = some 1 := by kernel_rfl
theorem szT53 : szT Tryd.prog 53 = some 3 := by kernel_rfl
theorem loadAs3 (x : AV) (r : List AV) : loadAs Tryd.prog 3 (x :: r) = some x := by kernel_rfl
theorem loadAs9 (x : AV) (r : List AV) : loadAs Tryd.prog 9 (x :: r) = some x := by kernel_rfl
theorem loadAs53 (a b c : DV) : loadAs Tryd.prog 53 [.d a, .d b, .d c] = some (.d (.agg [a, b, c])) := by kernel_rfl
theorem field53_0 : fieldOf Tryd.prog 53 0 = some (3, 0) := by kernel_rfl
theorem field53_1 : fieldOf Tryd.prog 53 1 = some (9, 1) := by kernel_rfl
theorem field53_2 : fieldOf Tryd.prog 53 2 = some (3, 2) := by kernel_rfl
def tok (k : Int) (t : ByteArray) (a : Int) : DV := .agg [.int .i64 k, .str t, .int .i64 a]
theorem alloc53 (nid : Nat) : aAlloc Tryd.prog 53 nid = some (.ptr nid 0 0 0, ⟨[nid], [(nid, ⟨false, 0, 3, [.d (.agg [.int .i64 0, .str ⟨#[]⟩, .int .i64 0])]⟩)]⟩) := by kernel_rfl
theorem build53_02 (a b : Int) : aBuild Tryd.prog 53 [(0, .d (.int .i64 a)), (2, .d (.int .i64 b))] = some (.d (.agg [.int .i64 a, .str ⟨#[]⟩, .int .i64 b])) := by kernel_rfl
theorem build53 : aBuild Tryd.prog 53 [] = some (.d (.agg [.int .i64 0, .str ⟨#[]⟩, .int .i64 0])) := by kernel_rfl
theorem buildSlice23 (nid : Nat) (k : Int) (t : ByteArray) (a : Int) : aBuildSlice Tryd.prog nid 23 1 [(0, .d (.agg [.int .i64 k, .str t, .int .i64 a]))] = some (.row nid 0, ⟨[nid], [(nid, ⟨false, 0, 3, [.d (.agg [.int .i64 k, .str t, .int .i64 a])]⟩)]⟩) := by kernel_rfl
theorem append23_nil (H : Hf) (nid : Nat) (y : AV) : aAppend Tryd.prog H nid 23 23 (.d .nilSl) y = (match srcElems Tryd.prog H 23 y with
  | some (ys, ey, rd) => if ys = [] ∨ ey = some 3 then (if ys.length * 32 ≤ limB then some (.row nid 0, ⟨nid :: rd, [(nid, ⟨false, 0, 3, ys⟩)]⟩) else none) else none
  | none => none) := by kernel_rfl
theorem append23_row (H : Hf) (nid id ver : Nat) (y : AV) : aAppend Tryd.prog H nid 23 23 (.row id ver) y = (match srcElems Tryd.prog H 23 y with
  | some (ys, ey, rd) => if ys = [] ∨ ey = some 3 then (match H id with
    | some o => if o.ver = ver then if o.frozen = false then if o.esz = 3 then if (o.elems.length + ys.length) * 32 ≤ limB then
        some (.row id (ver + 1), ⟨id :: rd, [(id, { o with ver := ver + 1, elems := o.elems ++ ys })]⟩) else none else none else none else none
    | none => none) else none
  | none => none) := by kernel_rfl
theorem srcElems23 (H : Hf) (y : AV) : srcElems Tryd.prog H 23 y = elems H y := by kernel_rfl
/-- The error of a number's text. -/
def numErr (l : List UInt8) : Int := if l = [] ∨ l.any (fun b => decide (b < 48 ∨ 57 < b)) = true then 4 else if 1 < l.length ∧ l.head? = some 48 then 3 else if 100 < l.length then 10 else 0
/-- The token at an offset, and its error. -/
def tokenOf (src : ByteArray) (i : Nat) : DV × Int :=
  let r := rest src i
  if src.size ≤ i then (tok 3 ⟨#[]⟩ i, 0)
  else if cl r = 1 then (if 24 < wdn r then (tok 0 ⟨#[]⟩ 0, 8) else (tok 0 (src.extract i (i + wdn r)) i, 0))
  else if cl r = 2 then (tok 1 (src.extract i (i + wdn r)) i, numErr (r.take (wdn r)))
  else if sgn r = 0 then (tok 2 (src.extract i i) i, 4) else (tok 2 (src.extract i (i + sgn r)) i, 0)
end Go.Lx
