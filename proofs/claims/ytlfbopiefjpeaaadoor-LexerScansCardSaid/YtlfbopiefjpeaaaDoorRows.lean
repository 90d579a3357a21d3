/-
  NARROWER THAN 'FOR EVERY INPUT', by the rows' own cells (each row's printed sentence says how): LexerScans: laid · LexerJoins: laid · LexerReturns: laid · LexerNames: laid · LexerStrips: laid · LexerPlaces: laid · LexerLines: laid · LexerStands: laid.
  DERIVED. THE GIVEN ROWS OF THIS SEAT. 8 by the template 'for every input the law returns true; each argument reads behind the call as it read before'; 0 by the template 'total and deterministic' (their statements: YtlfbopiefjpeaaaDoorTotals.lean).
  GIVEN WITH THE SEED: the statements are not yours to turn. If you find one false, say at which input.
  Laid BY PROGRAM, IN A SANDBOX (cutbox-rows.mjs): the forced cells as the released guide's own fill.sh prints them over the translation 2f8875b1c3affff5… (all of the seat's roots in one cut). By AI agents, Wed Nov 11 2026. No macro, syntax, notation, axiom, sorry.
-/
import Derived.Test.YtlfbopiefjpeaaaDoorChecked
import GoSem.PinnedTables
import GoSem.Claim
import GoSem.ClaimJoined
import GoSem.ClaimMapViews
import Derived.JoinedTies
import Derived.KernelRfl
namespace Go.Proofs.YtlfbopiefjpeaaaDoor
/- THE CELL 'sum', in the pinned program and in every row, IS THE sha256 OF THE DUMP (.gsa) THAT YtlfbopiefjpeaaaDoorProg.lean LOADS. Nothing in Lean hashes anything: it is a label: what it is worth is what the hold of that sum in a sandbox is worth. -/
noncomputable def Tryd.pinned : Pinned := { name := "ytlfbopiefjpeaaadoor", sum := "2f8875b1c3affff5dfd31b82c5842376f8c7079c8385a61263a8a50e324af2d2", checked := Tryd.checked }
namespace Rows
def none {H : Type} : Left H := { results := [], args := [] }

/- WHAT THE LISTED PACKAGE-LEVEL VARIABLES READ AS WHEN THE CALL BEGINS. Each datum BY PROGRAM (the guide's laid-datum.mjs) off the statement by which the dump's own 'gosem.cut.vars' lays the variable. In a bare row this is a premise. The card (YtlfbopiefjpeaaaDoorCards.lean) ties it to the program's text. -/
def laid_unicode_utf8_acceptRanges {H : Type} : DataW H := .agg [.agg [.lit (.int .u8 128), .lit (.int .u8 191)], .agg [.lit (.int .u8 160), .lit (.int .u8 191)], .agg [.lit (.int .u8 128), .lit (.int .u8 159)], .agg [.lit (.int .u8 144), .lit (.int .u8 191)], .agg [.lit (.int .u8 128), .lit (.int .u8 143)], .agg [.lit (.int .u8 0), .lit (.int .u8 0)], .agg [.lit (.int .u8 0), .lit (.int .u8 0)], .agg [.lit (.int .u8 0), .lit (.int .u8 0)], .agg [.lit (.int .u8 0), .lit (.int .u8 0)], .agg [.lit (.int .u8 0), .lit (.int .u8 0)], .agg [.lit (.int .u8 0), .lit (.int .u8 0)], .agg [.lit (.int .u8 0), .lit (.int .u8 0)], .agg [.lit (.int .u8 0), .lit (.int .u8 0)], .agg [.lit (.int .u8 0), .lit (.int .u8 0)], .agg [.lit (.int .u8 0), .lit (.int .u8 0)], .agg [.lit (.int .u8 0), .lit (.int .u8 0)]]
def laid_surveyor_lexer_reserved {H : Type} : DataW H := .slice [.lit (.string [97, 110, 100]), .lit (.string [97, 114, 114, 97, 121]), .lit (.string [97, 115, 115, 101, 114, 116]), .lit (.string [97, 115, 115, 117, 109, 101]), .lit (.string [101, 108, 115, 101]), .lit (.string [101, 110, 115, 117, 114, 101, 115]), .lit (.string [102, 97, 108, 115, 101]), .lit (.string [105, 102]), .lit (.string [105, 109, 112, 111, 114, 116]), .lit (.string [105, 110, 112, 117, 116]), .lit (.string [110, 111, 116]), .lit (.string [111, 114]), .lit (.string [112, 114, 111, 99]), .lit (.string [114, 101, 99, 111, 114, 100]), .lit (.string [114, 101, 113, 117, 105, 114, 101, 115]), .lit (.string [114, 101, 116, 117, 114, 110, 115]), .lit (.string [116, 114, 117, 101]), .lit (.string [118, 97, 114]), .lit (.string [119, 104, 105, 108, 101])] []
/-- One of Go's own tables, pinned by name: the form's constant. -/
def laid_unicode_utf8_first : DataW Unit := Go.Pinned.utf8First

/-- 'surveyorlaw08.LexerScans': WHATEVER THE INPUT: true; the input reads as it did. -/
def lexerScansSpec : ChangeSpec := { name := "lexerScans", fn := fun _ => fun
  | [d] => { results := [.lit (.bool true)], args := [d] }
  | _ => none }
def lexerScansRow : OpenClaim := { program := "ytlfbopiefjpeaaadoor", sum := "2f8875b1c3affff5dfd31b82c5842376f8c7079c8385a61263a8a50e324af2d2", func := "surveyor/surveyorlaw08.LexerScans", spec := "lexerScans", inPlace := ["internal/abi.NoEscape", "internal/bytealg.IndexByteString", "internal/bytealg.IndexString"], unfollowed := true, recurses := true, named := ["unicode/utf8.first", "unicode/utf8.acceptRanges", "internal/bytealg.MaxLen", "surveyor/lexer.reserved"], apart := false, laid := [("unicode/utf8.acceptRanges", laid_unicode_utf8_acceptRanges), ("surveyor/lexer.reserved", laid_surveyor_lexer_reserved), ("unicode/utf8.first", laid_unicode_utf8_first)] }
def LexerScansSaid : Prop := lexerScansRow.holds Tryd.pinned (OpenSpec.ofChange lexerScansSpec)

/-- ITS FALSE NEIGHBOUR: 'it returns false'. Refute it at one input. -/
def lexerScansWrong : ChangeSpec := { name := "lexerScans", fn := fun _ => fun
  | [d] => { results := [.lit (.bool false)], args := [d] }
  | _ => none }
def LexerScansWrongFalsely : Prop := lexerScansRow.holds Tryd.pinned (OpenSpec.ofChange lexerScansWrong)

/-- 'surveyorlaw08.LexerJoins': WHATEVER THE INPUT: true; the input reads as it did. -/
def lexerJoinsSpec : ChangeSpec := { name := "lexerJoins", fn := fun _ => fun
  | [d] => { results := [.lit (.bool true)], args := [d] }
  | _ => none }
def lexerJoinsRow : OpenClaim := { program := "ytlfbopiefjpeaaadoor", sum := "2f8875b1c3affff5dfd31b82c5842376f8c7079c8385a61263a8a50e324af2d2", func := "surveyor/surveyorlaw08.LexerJoins", spec := "lexerJoins", inPlace := ["internal/abi.NoEscape", "internal/bytealg.IndexByteString", "internal/bytealg.IndexString"], unfollowed := true, recurses := true, named := ["unicode/utf8.first", "unicode/utf8.acceptRanges", "internal/bytealg.MaxLen", "surveyor/lexer.reserved"], apart := false, laid := [("unicode/utf8.acceptRanges", laid_unicode_utf8_acceptRanges), ("surveyor/lexer.reserved", laid_surveyor_lexer_reserved), ("unicode/utf8.first", laid_unicode_utf8_first)] }
def LexerJoinsSaid : Prop := lexerJoinsRow.holds Tryd.pinned (OpenSpec.ofChange lexerJoinsSpec)

/-- ITS FALSE NEIGHBOUR: 'it returns false'. Refute it at one input. -/
def lexerJoinsWrong : ChangeSpec := { name := "lexerJoins", fn := fun _ => fun
  | [d] => { results := [.lit (.bool false)], args := [d] }
  | _ => none }
def LexerJoinsWrongFalsely : Prop := lexerJoinsRow.holds Tryd.pinned (OpenSpec.ofChange lexerJoinsWrong)

/-- 'surveyorlaw08.LexerReturns': WHATEVER THE INPUT: true; the input reads as it did. -/
def lexerReturnsSpec : ChangeSpec := { name := "lexerReturns", fn := fun _ => fun
  | [d1, d2] => { results := [.lit (.bool true)], args := [d1, d2] }
  | _ => none }
def lexerReturnsRow : OpenClaim := { program := "ytlfbopiefjpeaaadoor", sum := "2f8875b1c3affff5dfd31b82c5842376f8c7079c8385a61263a8a50e324af2d2", func := "surveyor/surveyorlaw08.LexerReturns", spec := "lexerReturns", inPlace := ["internal/abi.NoEscape", "internal/bytealg.IndexByteString", "internal/bytealg.IndexString"], unfollowed := true, recurses := true, named := ["unicode/utf8.first", "unicode/utf8.acceptRanges", "internal/bytealg.MaxLen", "surveyor/lexer.reserved"], apart := false, laid := [("unicode/utf8.acceptRanges", laid_unicode_utf8_acceptRanges), ("surveyor/lexer.reserved", laid_surveyor_lexer_reserved), ("unicode/utf8.first", laid_unicode_utf8_first)] }
def LexerReturnsSaid : Prop := lexerReturnsRow.holds Tryd.pinned (OpenSpec.ofChange lexerReturnsSpec)

/-- ITS FALSE NEIGHBOUR: 'it returns false'. Refute it at one input. -/
def lexerReturnsWrong : ChangeSpec := { name := "lexerReturns", fn := fun _ => fun
  | [d1, d2] => { results := [.lit (.bool false)], args := [d1, d2] }
  | _ => none }
def LexerReturnsWrongFalsely : Prop := lexerReturnsRow.holds Tryd.pinned (OpenSpec.ofChange lexerReturnsWrong)

/-- 'surveyorlaw08.LexerNames': WHATEVER THE INPUT: true; the input reads as it did. -/
def lexerNamesSpec : ChangeSpec := { name := "lexerNames", fn := fun _ => fun
  | [d] => { results := [.lit (.bool true)], args := [d] }
  | _ => none }
def lexerNamesRow : OpenClaim := { program := "ytlfbopiefjpeaaadoor", sum := "2f8875b1c3affff5dfd31b82c5842376f8c7079c8385a61263a8a50e324af2d2", func := "surveyor/surveyorlaw08.LexerNames", spec := "lexerNames", inPlace := ["internal/abi.NoEscape", "internal/bytealg.IndexByteString", "internal/bytealg.IndexString"], unfollowed := true, recurses := true, named := ["unicode/utf8.first", "unicode/utf8.acceptRanges", "internal/bytealg.MaxLen", "surveyor/lexer.reserved"], apart := false, laid := [("unicode/utf8.acceptRanges", laid_unicode_utf8_acceptRanges), ("surveyor/lexer.reserved", laid_surveyor_lexer_reserved), ("unicode/utf8.first", laid_unicode_utf8_first)] }
def LexerNamesSaid : Prop := lexerNamesRow.holds Tryd.pinned (OpenSpec.ofChange lexerNamesSpec)

/-- ITS FALSE NEIGHBOUR: 'it returns false'. Refute it at one input. -/
def lexerNamesWrong : ChangeSpec := { name := "lexerNames", fn := fun _ => fun
  | [d] => { results := [.lit (.bool false)], args := [d] }
  | _ => none }
def LexerNamesWrongFalsely : Prop := lexerNamesRow.holds Tryd.pinned (OpenSpec.ofChange lexerNamesWrong)

/-- 'surveyorlaw08.LexerStrips': WHATEVER THE INPUT: true; the input reads as it did. -/
def lexerStripsSpec : ChangeSpec := { name := "lexerStrips", fn := fun _ => fun
  | [d] => { results := [.lit (.bool true)], args := [d] }
  | _ => none }
def lexerStripsRow : OpenClaim := { program := "ytlfbopiefjpeaaadoor", sum := "2f8875b1c3affff5dfd31b82c5842376f8c7079c8385a61263a8a50e324af2d2", func := "surveyor/surveyorlaw08.LexerStrips", spec := "lexerStrips", inPlace := ["internal/abi.NoEscape", "internal/bytealg.IndexByteString", "internal/bytealg.IndexString", "internal/bytealg.CountString"], unfollowed := true, recurses := true, named := ["unicode/utf8.first", "unicode/utf8.acceptRanges", "internal/bytealg.MaxLen", "surveyor/lexer.reserved"], apart := false, laid := [("unicode/utf8.acceptRanges", laid_unicode_utf8_acceptRanges), ("surveyor/lexer.reserved", laid_surveyor_lexer_reserved), ("unicode/utf8.first", laid_unicode_utf8_first)] }
def LexerStripsSaid : Prop := lexerStripsRow.holds Tryd.pinned (OpenSpec.ofChange lexerStripsSpec)

/-- ITS FALSE NEIGHBOUR: 'it returns false'. Refute it at one input. -/
def lexerStripsWrong : ChangeSpec := { name := "lexerStrips", fn := fun _ => fun
  | [d] => { results := [.lit (.bool false)], args := [d] }
  | _ => none }
def LexerStripsWrongFalsely : Prop := lexerStripsRow.holds Tryd.pinned (OpenSpec.ofChange lexerStripsWrong)

/-- 'surveyorlaw08.LexerPlaces': WHATEVER THE INPUT: true; the input reads as it did. -/
def lexerPlacesSpec : ChangeSpec := { name := "lexerPlaces", fn := fun _ => fun
  | [d1, d2] => { results := [.lit (.bool true)], args := [d1, d2] }
  | _ => none }
def lexerPlacesRow : OpenClaim := { program := "ytlfbopiefjpeaaadoor", sum := "2f8875b1c3affff5dfd31b82c5842376f8c7079c8385a61263a8a50e324af2d2", func := "surveyor/surveyorlaw08.LexerPlaces", spec := "lexerPlaces", inPlace := ["internal/abi.NoEscape", "internal/bytealg.IndexByteString", "internal/bytealg.IndexString", "internal/bytealg.CountString"], unfollowed := true, recurses := true, named := ["unicode/utf8.first", "unicode/utf8.acceptRanges", "internal/bytealg.MaxLen", "surveyor/lexer.reserved"], apart := false, laid := [("unicode/utf8.acceptRanges", laid_unicode_utf8_acceptRanges), ("surveyor/lexer.reserved", laid_surveyor_lexer_reserved), ("unicode/utf8.first", laid_unicode_utf8_first)] }
def LexerPlacesSaid : Prop := lexerPlacesRow.holds Tryd.pinned (OpenSpec.ofChange lexerPlacesSpec)

/-- ITS FALSE NEIGHBOUR: 'it returns false'. Refute it at one input. -/
def lexerPlacesWrong : ChangeSpec := { name := "lexerPlaces", fn := fun _ => fun
  | [d1, d2] => { results := [.lit (.bool false)], args := [d1, d2] }
  | _ => none }
def LexerPlacesWrongFalsely : Prop := lexerPlacesRow.holds Tryd.pinned (OpenSpec.ofChange lexerPlacesWrong)

/-- 'surveyorlaw08.LexerLines': WHATEVER THE INPUT: true; the input reads as it did. -/
def lexerLinesSpec : ChangeSpec := { name := "lexerLines", fn := fun _ => fun
  | [d1, d2] => { results := [.lit (.bool true)], args := [d1, d2] }
  | _ => none }
def lexerLinesRow : OpenClaim := { program := "ytlfbopiefjpeaaadoor", sum := "2f8875b1c3affff5dfd31b82c5842376f8c7079c8385a61263a8a50e324af2d2", func := "surveyor/surveyorlaw08.LexerLines", spec := "lexerLines", inPlace := ["internal/abi.NoEscape", "internal/bytealg.IndexByteString", "internal/bytealg.IndexString", "internal/bytealg.CountString"], unfollowed := true, recurses := true, named := ["unicode/utf8.first", "unicode/utf8.acceptRanges", "internal/bytealg.MaxLen", "surveyor/lexer.reserved"], apart := false, laid := [("unicode/utf8.acceptRanges", laid_unicode_utf8_acceptRanges), ("surveyor/lexer.reserved", laid_surveyor_lexer_reserved), ("unicode/utf8.first", laid_unicode_utf8_first)] }
def LexerLinesSaid : Prop := lexerLinesRow.holds Tryd.pinned (OpenSpec.ofChange lexerLinesSpec)

/-- ITS FALSE NEIGHBOUR: 'it returns false'. Refute it at one input. -/
def lexerLinesWrong : ChangeSpec := { name := "lexerLines", fn := fun _ => fun
  | [d1, d2] => { results := [.lit (.bool false)], args := [d1, d2] }
  | _ => none }
def LexerLinesWrongFalsely : Prop := lexerLinesRow.holds Tryd.pinned (OpenSpec.ofChange lexerLinesWrong)

/-- 'surveyorlaw08.LexerStands': WHATEVER THE INPUT: true; the input reads as it did. -/
def lexerStandsSpec : ChangeSpec := { name := "lexerStands", fn := fun _ => fun
  | [d] => { results := [.lit (.bool true)], args := [d] }
  | _ => none }
def lexerStandsRow : OpenClaim := { program := "ytlfbopiefjpeaaadoor", sum := "2f8875b1c3affff5dfd31b82c5842376f8c7079c8385a61263a8a50e324af2d2", func := "surveyor/surveyorlaw08.LexerStands", spec := "lexerStands", inPlace := ["internal/abi.NoEscape", "internal/bytealg.IndexByteString", "internal/bytealg.IndexString", "internal/bytealg.CountString"], unfollowed := true, recurses := true, named := ["unicode/utf8.first", "unicode/utf8.acceptRanges", "internal/bytealg.MaxLen", "surveyor/lexer.reserved"], apart := false, laid := [("unicode/utf8.acceptRanges", laid_unicode_utf8_acceptRanges), ("surveyor/lexer.reserved", laid_surveyor_lexer_reserved), ("unicode/utf8.first", laid_unicode_utf8_first)] }
def LexerStandsSaid : Prop := lexerStandsRow.holds Tryd.pinned (OpenSpec.ofChange lexerStandsSpec)

/-- ITS FALSE NEIGHBOUR: 'it returns false'. Refute it at one input. -/
def lexerStandsWrong : ChangeSpec := { name := "lexerStands", fn := fun _ => fun
  | [d] => { results := [.lit (.bool false)], args := [d] }
  | _ => none }
def LexerStandsWrongFalsely : Prop := lexerStandsRow.holds Tryd.pinned (OpenSpec.ofChange lexerStandsWrong)

/- THE SECOND FORM. 'bulk': how many values and letters a reading holds, each counted each time it is reached (what is shared counts as often as it is met; a slice's spare places count too). A statement '..UptoSaid' is the law's where the arguments, and the package variables that the reading takes, are together of bulk at most 1048576: NARROWER than '..Said'. Prove '..Said' where nothing that the law and all that it calls make is longer than what came in: it says more and counts as full. Else prove '..UptoSaid'. A law counts once. -/
mutual
def uptoBulk {H : Type} : DataW H → Nat
  | .lit (.string bytes) => bytes.length + 1
  | .lit _ => 1
  | .nil => 1
  | .ptr d => uptoBulk d + 1
  | .slice elems spare => uptoBulkAll elems + uptoBulkAll spare + 1
  | .agg parts => uptoBulkAll parts + 1
  | .iface _ d => uptoBulk d + 1
  | .map entries => uptoBulkEntries entries + 1
  | .held _ => 1
def uptoBulkAll {H : Type} : List (DataW H) → Nat
  | [] => 0
  | d :: r => uptoBulk d + uptoBulkAll r
def uptoBulkEntries {H : Type} : List (Lit × DataW H) → Nat
  | [] => 0
  | x :: r => uptoBulkEntry x + uptoBulkEntries r
def uptoBulkEntry {H : Type} : Lit × DataW H → Nat
  | (.string bytes, d) => bytes.length + uptoBulk d + 1
  | (_, d) => uptoBulk d + 1
 end
def uptoSmall : (H : Type) → List (DataW H) → Bool := fun _ ds => decide (uptoBulkAll ds ≤ 1048576)
def OpenSpec.upto (s : _root_.Go.ChangeSpec) : _root_.Go.OpenSpec := { _root_.Go.OpenSpec.ofChange s with cond := some uptoSmall }

/-- 'surveyorlaw08.LexerScans', WHERE WHAT IT READS IS OF BULK AT MOST 1048576: true; the input reads as it did. -/
def lexerScansUptoRow : OpenClaim := { program := "ytlfbopiefjpeaaadoor", sum := "2f8875b1c3affff5dfd31b82c5842376f8c7079c8385a61263a8a50e324af2d2", func := "surveyor/surveyorlaw08.LexerScans", spec := "lexerScans", inPlace := ["internal/abi.NoEscape", "internal/bytealg.IndexByteString", "internal/bytealg.IndexString"], unfollowed := true, recurses := true, named := ["unicode/utf8.first", "unicode/utf8.acceptRanges", "internal/bytealg.MaxLen", "surveyor/lexer.reserved"], apart := false, laid := [("unicode/utf8.acceptRanges", laid_unicode_utf8_acceptRanges), ("surveyor/lexer.reserved", laid_surveyor_lexer_reserved), ("unicode/utf8.first", laid_unicode_utf8_first)], narrowed := true }
def LexerScansUptoSaid : Prop := lexerScansUptoRow.holds Tryd.pinned (OpenSpec.upto lexerScansSpec)

/-- 'surveyorlaw08.LexerJoins', WHERE WHAT IT READS IS OF BULK AT MOST 1048576: true; the input reads as it did. -/
def lexerJoinsUptoRow : OpenClaim := { program := "ytlfbopiefjpeaaadoor", sum := "2f8875b1c3affff5dfd31b82c5842376f8c7079c8385a61263a8a50e324af2d2", func := "surveyor/surveyorlaw08.LexerJoins", spec := "lexerJoins", inPlace := ["internal/abi.NoEscape", "internal/bytealg.IndexByteString", "internal/bytealg.IndexString"], unfollowed := true, recurses := true, named := ["unicode/utf8.first", "unicode/utf8.acceptRanges", "internal/bytealg.MaxLen", "surveyor/lexer.reserved"], apart := false, laid := [("unicode/utf8.acceptRanges", laid_unicode_utf8_acceptRanges), ("surveyor/lexer.reserved", laid_surveyor_lexer_reserved), ("unicode/utf8.first", laid_unicode_utf8_first)], narrowed := true }
def LexerJoinsUptoSaid : Prop := lexerJoinsUptoRow.holds Tryd.pinned (OpenSpec.upto lexerJoinsSpec)

/-- 'surveyorlaw08.LexerReturns', WHERE WHAT IT READS IS OF BULK AT MOST 1048576: true; the input reads as it did. -/
def lexerReturnsUptoRow : OpenClaim := { program := "ytlfbopiefjpeaaadoor", sum := "2f8875b1c3affff5dfd31b82c5842376f8c7079c8385a61263a8a50e324af2d2", func := "surveyor/surveyorlaw08.LexerReturns", spec := "lexerReturns", inPlace := ["internal/abi.NoEscape", "internal/bytealg.IndexByteString", "internal/bytealg.IndexString"], unfollowed := true, recurses := true, named := ["unicode/utf8.first", "unicode/utf8.acceptRanges", "internal/bytealg.MaxLen", "surveyor/lexer.reserved"], apart := false, laid := [("unicode/utf8.acceptRanges", laid_unicode_utf8_acceptRanges), ("surveyor/lexer.reserved", laid_surveyor_lexer_reserved), ("unicode/utf8.first", laid_unicode_utf8_first)], narrowed := true }
def LexerReturnsUptoSaid : Prop := lexerReturnsUptoRow.holds Tryd.pinned (OpenSpec.upto lexerReturnsSpec)

/-- 'surveyorlaw08.LexerNames', WHERE WHAT IT READS IS OF BULK AT MOST 1048576: true; the input reads as it did. -/
def lexerNamesUptoRow : OpenClaim := { program := "ytlfbopiefjpeaaadoor", sum := "2f8875b1c3affff5dfd31b82c5842376f8c7079c8385a61263a8a50e324af2d2", func := "surveyor/surveyorlaw08.LexerNames", spec := "lexerNames", inPlace := ["internal/abi.NoEscape", "internal/bytealg.IndexByteString", "internal/bytealg.IndexString"], unfollowed := true, recurses := true, named := ["unicode/utf8.first", "unicode/utf8.acceptRanges", "internal/bytealg.MaxLen", "surveyor/lexer.reserved"], apart := false, laid := [("unicode/utf8.acceptRanges", laid_unicode_utf8_acceptRanges), ("surveyor/lexer.reserved", laid_surveyor_lexer_reserved), ("unicode/utf8.first", laid_unicode_utf8_first)], narrowed := true }
def LexerNamesUptoSaid : Prop := lexerNamesUptoRow.holds Tryd.pinned (OpenSpec.upto lexerNamesSpec)

/-- 'surveyorlaw08.LexerStrips', WHERE WHAT IT READS IS OF BULK AT MOST 1048576: true; the input reads as it did. -/
def lexerStripsUptoRow : OpenClaim := { program := "ytlfbopiefjpeaaadoor", sum := "2f8875b1c3affff5dfd31b82c5842376f8c7079c8385a61263a8a50e324af2d2", func := "surveyor/surveyorlaw08.LexerStrips", spec := "lexerStrips", inPlace := ["internal/abi.NoEscape", "internal/bytealg.IndexByteString", "internal/bytealg.IndexString", "internal/bytealg.CountString"], unfollowed := true, recurses := true, named := ["unicode/utf8.first", "unicode/utf8.acceptRanges", "internal/bytealg.MaxLen", "surveyor/lexer.reserved"], apart := false, laid := [("unicode/utf8.acceptRanges", laid_unicode_utf8_acceptRanges), ("surveyor/lexer.reserved", laid_surveyor_lexer_reserved), ("unicode/utf8.first", laid_unicode_utf8_first)], narrowed := true }
def LexerStripsUptoSaid : Prop := lexerStripsUptoRow.holds Tryd.pinned (OpenSpec.upto lexerStripsSpec)

/-- 'surveyorlaw08.LexerPlaces', WHERE WHAT IT READS IS OF BULK AT MOST 1048576: true; the input reads as it did. -/
def lexerPlacesUptoRow : OpenClaim := { program := "ytlfbopiefjpeaaadoor", sum := "2f8875b1c3affff5dfd31b82c5842376f8c7079c8385a61263a8a50e324af2d2", func := "surveyor/surveyorlaw08.LexerPlaces", spec := "lexerPlaces", inPlace := ["internal/abi.NoEscape", "internal/bytealg.IndexByteString", "internal/bytealg.IndexString", "internal/bytealg.CountString"], unfollowed := true, recurses := true, named := ["unicode/utf8.first", "unicode/utf8.acceptRanges", "internal/bytealg.MaxLen", "surveyor/lexer.reserved"], apart := false, laid := [("unicode/utf8.acceptRanges", laid_unicode_utf8_acceptRanges), ("surveyor/lexer.reserved", laid_surveyor_lexer_reserved), ("unicode/utf8.first", laid_unicode_utf8_first)], narrowed := true }
def LexerPlacesUptoSaid : Prop := lexerPlacesUptoRow.holds Tryd.pinned (OpenSpec.upto lexerPlacesSpec)

/-- 'surveyorlaw08.LexerLines', WHERE WHAT IT READS IS OF BULK AT MOST 1048576: true; the input reads as it did. -/
def lexerLinesUptoRow : OpenClaim := { program := "ytlfbopiefjpeaaadoor", sum := "2f8875b1c3affff5dfd31b82c5842376f8c7079c8385a61263a8a50e324af2d2", func := "surveyor/surveyorlaw08.LexerLines", spec := "lexerLines", inPlace := ["internal/abi.NoEscape", "internal/bytealg.IndexByteString", "internal/bytealg.IndexString", "internal/bytealg.CountString"], unfollowed := true, recurses := true, named := ["unicode/utf8.first", "unicode/utf8.acceptRanges", "internal/bytealg.MaxLen", "surveyor/lexer.reserved"], apart := false, laid := [("unicode/utf8.acceptRanges", laid_unicode_utf8_acceptRanges), ("surveyor/lexer.reserved", laid_surveyor_lexer_reserved), ("unicode/utf8.first", laid_unicode_utf8_first)], narrowed := true }
def LexerLinesUptoSaid : Prop := lexerLinesUptoRow.holds Tryd.pinned (OpenSpec.upto lexerLinesSpec)

/-- 'surveyorlaw08.LexerStands', WHERE WHAT IT READS IS OF BULK AT MOST 1048576: true; the input reads as it did. -/
def lexerStandsUptoRow : OpenClaim := { program := "ytlfbopiefjpeaaadoor", sum := "2f8875b1c3affff5dfd31b82c5842376f8c7079c8385a61263a8a50e324af2d2", func := "surveyor/surveyorlaw08.LexerStands", spec := "lexerStands", inPlace := ["internal/abi.NoEscape", "internal/bytealg.IndexByteString", "internal/bytealg.IndexString", "internal/bytealg.CountString"], unfollowed := true, recurses := true, named := ["unicode/utf8.first", "unicode/utf8.acceptRanges", "internal/bytealg.MaxLen", "surveyor/lexer.reserved"], apart := false, laid := [("unicode/utf8.acceptRanges", laid_unicode_utf8_acceptRanges), ("surveyor/lexer.reserved", laid_surveyor_lexer_reserved), ("unicode/utf8.first", laid_unicode_utf8_first)], narrowed := true }
def LexerStandsUptoSaid : Prop := lexerStandsUptoRow.holds Tryd.pinned (OpenSpec.upto lexerStandsSpec)

end Rows
end Go.Proofs.YtlfbopiefjpeaaaDoor
