/- The lexer's functions, by the walk. -/
import Derived.Test.YtlfbopiefjpeaaaDoorSvT
import Derived.Test.YtlfbopiefjpeaaaDoorChecked
set_option linter.unusedSimpArgs false
set_option linter.unusedVariables false
namespace Go.Lx
open Go Go.Sv Go.Proofs
/-- The reserved words. -/
def resL : List ByteArray := [⟨#[97, 110, 100]⟩, ⟨#[97, 114, 114, 97, 121]⟩, ⟨#[97, 115, 115, 101, 114, 116]⟩, ⟨#[97, 115, 115, 117, 109, 101]⟩, ⟨#[101, 108, 115, 101]⟩, ⟨#[101, 110, 115, 117, 114, 101, 115]⟩, ⟨#[102, 97, 108, 115, 101]⟩, ⟨#[105, 102]⟩, ⟨#[105, 109, 112, 111, 114, 116]⟩, ⟨#[105, 110, 112, 117, 116]⟩, ⟨#[110, 111, 116]⟩, ⟨#[111, 114]⟩, ⟨#[112, 114, 111, 99]⟩, ⟨#[114, 101, 99, 111, 114, 100]⟩, ⟨#[114, 101, 113, 117, 105, 114, 101, 115]⟩, ⟨#[114, 101, 116, 117, 114, 110, 115]⟩, ⟨#[116, 114, 117, 101]⟩, ⟨#[118, 97, 114]⟩, ⟨#[119, 104, 105, 108, 101]⟩]
def resD : DV := .sl 1 (resL.map .str)
@[reducible] noncomputable def E : Env := ⟨Tryd.prog, fun g => match g with | 0 => some resD | _ => none⟩
theorem Egl0 : E.gl 0 = some resD := rfl
theorem EP : E.P = Tryd.prog := rfl
theorem mixed : E.P.follows .mixedOrders = true := Checked.mixed Tryd.checked
set_option maxRecDepth 100000
def clsL : List Int := (List.range 256).map fun b => ( if 97 ≤ b ∧ b ≤ 122 ∨ 65 ≤ b ∧ b ≤ 90 then 1 else if 48 ≤ b ∧ b ≤ 57 then 2 else if b = 32 ∨ b = 9 ∨ b = 10 ∨ b = 13 then 3 else if b = 35 then 4 else if b ∈ [58, 33, 60, 62, 123, 125, 40, 41, 91, 93, 44, 59, 46, 61, 43, 45, 42, 47, 37] then 5 else 0 : Int)
def tabL : List DV := clsL.map fun n => .int .u8 (n : Int)
theorem classes93 : PureC E 93 [] (.agg tabL) := pure_of_run mixed orc_none (N := 1) Tryd.func93 (by kernel_rfl) (by kernel_rfl)
theorem tabL_flat : DV.flat.flatL tabL = true := by kernel_rfl
theorem tabL_len : tabL.length = 256 := by kernel_rfl
theorem szT5 : szT Tryd.prog 5 = some 1 := by kernel_rfl
theorem agg5 : isAggT Tryd.prog 5 = false := by kernel_rfl
theorem tab_part (b : UInt8) : aPart Tryd.prog 5 (.d (.agg tabL)) (b.toNat * 1) = some (.d (.int .u8 (clsL.getD b.toNat 0))) := by
  have hlt : b.toNat < 256 := b.toNat_lt
  have hl : clsL.length = 256 := by kernel_rfl
  simp [aPart, AV.isAgg, loadAs, Tryd.underlying5, agg5, AV.cells, DV.cells, tabL, List.head?_drop, List.getElem?_eq_getElem (show b.toNat < clsL.length by omega)]
end Go.Lx
