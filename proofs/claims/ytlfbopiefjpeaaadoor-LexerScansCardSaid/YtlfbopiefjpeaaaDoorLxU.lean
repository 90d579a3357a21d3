/- The lexer's Join, by the walk. -/
import Derived.Test.YtlfbopiefjpeaaaDoorLxS
import Derived.Test.YtlfbopiefjpeaaaDoorLxK0
import Derived.StillTailTactics
import Derived.BigQuiet
import Derived.LoopTactic
set_option linter.unusedSimpArgs false
set_option linter.unusedVariables false
namespace Go.Lx
open Go Go.Sv Go.Proofs Go.Shelf Go.RowKit
set_option maxRecDepth 100000
theorem builder_below {B b : Nat} {bs : List Value} {w w' : World} (h : Lib.IsBuilderF 67 5 B b bs w) (hb : Below w.heap.size w w') : Lib.IsBuilderF 67 5 B b bs w' :=
  builder_kept h ⟨hb.os, hb.tape, hb.output, hb.size, fun k hk _ => hb.block k hk⟩ (row := none) (fun k e => by cases e)
theorem TokAt.below {w w' : World} {b o : Nat} {x : Tk} (h : TokAt w b o x) {B : Nat} (hb : Below B w w') (hlt : b < B) : TokAt w' b o x :=
  ⟨(hb.cell (p := ⟨b, _, none⟩) hlt).trans h.k, (hb.cell (p := ⟨b, _, none⟩) hlt).trans h.t, (hb.cell (p := ⟨b, _, none⟩) hlt).trans h.a, h.small⟩
/-- The tokens that are not the last one, joined. -/
def joinOut : Option Tk → List Tk → List UInt8 → Option (List UInt8)
  | _, [], out => some out
  | p, x :: r, out =>
    let out1 := match p with
      | some y => if apartB y x = true then out ++ [32] else out
      | none => out
    let out2 := out1 ++ x.t.data.toList
    if 65536 < out2.length then none else joinOut (some x) r out2
def firstErr : List Tk → Int
  | [] => 0
  | x :: r => if rightErr x ≠ 0 then rightErr x else firstErr r
/-- Join: the text, or the error. -/
def joinM (l : List Tk) : List UInt8 × Int := match l.getLast? with
  | none => ([], 20)
  | some z => if z.k ≠ 3 then ([], 20) else if firstErr l.dropLast ≠ 0 then ([], firstErr l.dropLast) else if z.t.data.toList ≠ [] then ([], 3) else match joinOut none l.dropLast [] with
    | none => ([], 13)
    | some s => (s, 0)
end Go.Lx
namespace Go.Lx
open Go Go.Sv Go.Proofs Go.Shelf Go.RowKit
set_option maxRecDepth 100000
set_option maxHeartbeats 4000000 in
theorem join16_none (a : Option Addr) (w : World) : Calls Tryd.prog 16 #[.slice a 0 0] w fun e w' => e = .returned (.tuple #[.string ⟨#[]⟩, .int .i64 20]) ∧ Below w.heap.size w w' := by
  go_enter Tryd.func16, Tryd.ntmps16
  go_wp2
  go_ret2
  exact ⟨rfl, Below.refl _ _⟩
set_option maxHeartbeats 4000000 in
theorem join16_open (l : List Tk) (z : Tk) (b o cap : Nat) (w : World) (hm : l.length + 1 ≤ 281474976710656) (hz : TokAt w b (o + l.length * 3) z) (hk : ¬ z.k = 3) :
    Calls Tryd.prog 16 #[.slice (some ⟨b, o, none⟩) (l.length + 1) cap] w fun e w' => e = .returned (.tuple #[.string ⟨#[]⟩, .int .i64 20]) ∧ Below w.heap.size w w' := by
  have hw : wrap64 ((l.length + 1 : Nat) - 1 : Int) = l.length := by
    rw [IntWalk.wrap64_in _ (by omega)]; omega
  have h1 : (0 : Int) ≤ l.length := by omega
  have h2 : (l.length : Int) < (l.length + 1 : Nat) := by omega
  have hk' : (z.k != 3) = true := by simpa using hk
  have hc := hz.k
  go_enter Tryd.func16, Tryd.ntmps16
  go_wp2
  go_ret2
  exact ⟨rfl, Below.refl _ _⟩
end Go.Lx
