/- The lexer's functions, by the walk: tokens that stand apart. -/
import Derived.Test.YtlfbopiefjpeaaaDoorLxJ
import Derived.Test.YtlfbopiefjpeaaaDoorSvV
set_option linter.unusedSimpArgs false
set_option linter.unusedVariables false
namespace Go.Lx
open Go Go.Sv Go.Proofs
set_option maxRecDepth 100000
open Classical in
noncomputable def O45 : Orc := ⟨fun f ds => match f, ds with
  | 12, [.str s] => if CtNumber ∧ s.size ≤ 9223372036854775807 then some (scanD (scanAll s)) else none
  | _, _ => none, fun _ _ _ => none⟩
theorem O45_ok : OrcOk E O45 := by
  refine ⟨fun f ds r h => ?_, fun _ _ _ _ _ h => by cases h⟩
  simp only [O45] at h
  split at h
  · split at h
    · rename_i e; cases h; exact scan12 e.1 _ e.2
    · cases h
  · cases h
theorem sub53_0 (a b c : DV) : subDV Tryd.prog 3 0 [a, b, c] = some a := by kernel_rfl
theorem sub53_1 (a b c : DV) : subDV Tryd.prog 9 1 [a, b, c] = some b := by kernel_rfl
def far (l : List Tk) (x y : Tk) : Bool := match l with
  | [p, q, _] => !(p.t.data.toList == x.t.data.toList) || !(p.k == x.k) || !(q.t.data.toList == y.t.data.toList) || !(q.k == y.k)
  | _ => true
/-- Do two tokens need a space between them? -/
def apartB (x y : Tk) : Bool := !((scanAll (x.t ++ y.t)).2.2 == 0) || far (scanAll (x.t ++ y.t)).1 x y
def CtApart : Prop := ∀ (x y : Tk), x.t.size + y.t.size ≤ 9223372036854775807 → PureC E 45 [x.d, y.d] (.bool (apartB x y))
end Go.Lx
