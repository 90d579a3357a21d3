/-
  DERIVED. GIVEN WITH THE SEED: THE CARDS: each row of YtlfbopiefjpeaaaDoorRows.lean that lists a variable, with what it lists TIED to the program's text (the seventh form; the later family's looks); each row that meets fmt, with fmt's text TOLD by the authors' own Lean function (tested against real Go, not proved from fmt's source: count such statements apart). THE CARD IS WHAT COUNTS. Prove the row's statement (the work); the ties are given (YtlfbopiefjpeaaaDoorTie.lean); close each card by the builder's one call (the guide's Derived/Test/ToyasCard.lean, 'card_holds'). Laid BY PROGRAM, IN A SANDBOX (cutbox-door.mjs). By AI agents, Wed Nov 11 2026. No macro, syntax, notation, axiom, sorry.
-/
import Derived.Test.YtlfbopiefjpeaaaDoorRows
import GoSem.ClaimSeven
namespace Go.Proofs.YtlfbopiefjpeaaaDoor
namespace Rows

/-- THE TIED CARD OF 'surveyorlaw08.LexerScans'. -/
def lexerScansCard : Claim7 := { stood := { row := lexerScansRow, standIns := [], harness := (true, "3308ad61eaf8e5ff0bf85395ef3356efe80a72a9263e5deb1f324c1261216b16"), looks := false }, kinds := [], alts := [], laidByText := true, laidKinds := [.data, .widerDeep, .pinned], laidTests := true, laidLooks := .later }
def LexerScansCardSaid : Prop := Claim7.holds Tryd.pinned (.plain (OpenSpec.ofChange lexerScansSpec)) lexerScansCard

/-- THE TIED CARD OF 'surveyorlaw08.LexerJoins'. -/
def lexerJoinsCard : Claim7 := { stood := { row := lexerJoinsRow, standIns := [], harness := (true, "3308ad61eaf8e5ff0bf85395ef3356efe80a72a9263e5deb1f324c1261216b16"), looks := false }, kinds := [], alts := [], laidByText := true, laidKinds := [.data, .widerDeep, .pinned], laidTests := true, laidLooks := .later }
def LexerJoinsCardSaid : Prop := Claim7.holds Tryd.pinned (.plain (OpenSpec.ofChange lexerJoinsSpec)) lexerJoinsCard

/-- THE TIED CARD OF 'surveyorlaw08.LexerReturns'. -/
def lexerReturnsCard : Claim7 := { stood := { row := lexerReturnsRow, standIns := [], harness := (true, "3308ad61eaf8e5ff0bf85395ef3356efe80a72a9263e5deb1f324c1261216b16"), looks := false }, kinds := [], alts := [], laidByText := true, laidKinds := [.data, .widerDeep, .pinned], laidTests := true, laidLooks := .later }
def LexerReturnsCardSaid : Prop := Claim7.holds Tryd.pinned (.plain (OpenSpec.ofChange lexerReturnsSpec)) lexerReturnsCard

/-- THE TIED CARD OF 'surveyorlaw08.LexerNames'. -/
def lexerNamesCard : Claim7 := { stood := { row := lexerNamesRow, standIns := [], harness := (true, "3308ad61eaf8e5ff0bf85395ef3356efe80a72a9263e5deb1f324c1261216b16"), looks := false }, kinds := [], alts := [], laidByText := true, laidKinds := [.data, .widerDeep, .pinned], laidTests := true, laidLooks := .later }
def LexerNamesCardSaid : Prop := Claim7.holds Tryd.pinned (.plain (OpenSpec.ofChange lexerNamesSpec)) lexerNamesCard

/-- THE TIED CARD OF 'surveyorlaw08.LexerStrips'. -/
def lexerStripsCard : Claim7 := { stood := { row := lexerStripsRow, standIns := [], harness := (true, "3308ad61eaf8e5ff0bf85395ef3356efe80a72a9263e5deb1f324c1261216b16"), looks := false }, kinds := [], alts := [], laidByText := true, laidKinds := [.data, .widerDeep, .pinned], laidTests := true, laidLooks := .later }
def LexerStripsCardSaid : Prop := Claim7.holds Tryd.pinned (.plain (OpenSpec.ofChange lexerStripsSpec)) lexerStripsCard

/-- THE TIED CARD OF 'surveyorlaw08.LexerPlaces'. -/
def lexerPlacesCard : Claim7 := { stood := { row := lexerPlacesRow, standIns := [], harness := (true, "3308ad61eaf8e5ff0bf85395ef3356efe80a72a9263e5deb1f324c1261216b16"), looks := false }, kinds := [], alts := [], laidByText := true, laidKinds := [.data, .widerDeep, .pinned], laidTests := true, laidLooks := .later }
def LexerPlacesCardSaid : Prop := Claim7.holds Tryd.pinned (.plain (OpenSpec.ofChange lexerPlacesSpec)) lexerPlacesCard

/-- THE TIED CARD OF 'surveyorlaw08.LexerLines'. -/
def lexerLinesCard : Claim7 := { stood := { row := lexerLinesRow, standIns := [], harness := (true, "3308ad61eaf8e5ff0bf85395ef3356efe80a72a9263e5deb1f324c1261216b16"), looks := false }, kinds := [], alts := [], laidByText := true, laidKinds := [.data, .widerDeep, .pinned], laidTests := true, laidLooks := .later }
def LexerLinesCardSaid : Prop := Claim7.holds Tryd.pinned (.plain (OpenSpec.ofChange lexerLinesSpec)) lexerLinesCard

/-- THE TIED CARD OF 'surveyorlaw08.LexerStands'. -/
def lexerStandsCard : Claim7 := { stood := { row := lexerStandsRow, standIns := [], harness := (true, "3308ad61eaf8e5ff0bf85395ef3356efe80a72a9263e5deb1f324c1261216b16"), looks := false }, kinds := [], alts := [], laidByText := true, laidKinds := [.data, .widerDeep, .pinned], laidTests := true, laidLooks := .later }
def LexerStandsCardSaid : Prop := Claim7.holds Tryd.pinned (.plain (OpenSpec.ofChange lexerStandsSpec)) lexerStandsCard

/-- THE SECOND FORM's CARD OF 'surveyorlaw08.LexerScans'. -/
def lexerScansUptoCard : Claim7 := { stood := { row := lexerScansUptoRow, standIns := [], harness := (true, "3308ad61eaf8e5ff0bf85395ef3356efe80a72a9263e5deb1f324c1261216b16"), looks := false }, kinds := [], alts := [], laidByText := true, laidKinds := [.data, .widerDeep, .pinned], laidTests := true, laidLooks := .later }
def LexerScansUptoCardSaid : Prop := Claim7.holds Tryd.pinned (.plain (OpenSpec.upto lexerScansSpec)) lexerScansUptoCard

/-- THE SECOND FORM's CARD OF 'surveyorlaw08.LexerJoins'. -/
def lexerJoinsUptoCard : Claim7 := { stood := { row := lexerJoinsUptoRow, standIns := [], harness := (true, "3308ad61eaf8e5ff0bf85395ef3356efe80a72a9263e5deb1f324c1261216b16"), looks := false }, kinds := [], alts := [], laidByText := true, laidKinds := [.data, .widerDeep, .pinned], laidTests := true, laidLooks := .later }
def LexerJoinsUptoCardSaid : Prop := Claim7.holds Tryd.pinned (.plain (OpenSpec.upto lexerJoinsSpec)) lexerJoinsUptoCard

/-- THE SECOND FORM's CARD OF 'surveyorlaw08.LexerReturns'. -/
def lexerReturnsUptoCard : Claim7 := { stood := { row := lexerReturnsUptoRow, standIns := [], harness := (true, "3308ad61eaf8e5ff0bf85395ef3356efe80a72a9263e5deb1f324c1261216b16"), looks := false }, kinds := [], alts := [], laidByText := true, laidKinds := [.data, .widerDeep, .pinned], laidTests := true, laidLooks := .later }
def LexerReturnsUptoCardSaid : Prop := Claim7.holds Tryd.pinned (.plain (OpenSpec.upto lexerReturnsSpec)) lexerReturnsUptoCard

/-- THE SECOND FORM's CARD OF 'surveyorlaw08.LexerNames'. -/
def lexerNamesUptoCard : Claim7 := { stood := { row := lexerNamesUptoRow, standIns := [], harness := (true, "3308ad61eaf8e5ff0bf85395ef3356efe80a72a9263e5deb1f324c1261216b16"), looks := false }, kinds := [], alts := [], laidByText := true, laidKinds := [.data, .widerDeep, .pinned], laidTests := true, laidLooks := .later }
def LexerNamesUptoCardSaid : Prop := Claim7.holds Tryd.pinned (.plain (OpenSpec.upto lexerNamesSpec)) lexerNamesUptoCard

/-- THE SECOND FORM's CARD OF 'surveyorlaw08.LexerStrips'. -/
def lexerStripsUptoCard : Claim7 := { stood := { row := lexerStripsUptoRow, standIns := [], harness := (true, "3308ad61eaf8e5ff0bf85395ef3356efe80a72a9263e5deb1f324c1261216b16"), looks := false }, kinds := [], alts := [], laidByText := true, laidKinds := [.data, .widerDeep, .pinned], laidTests := true, laidLooks := .later }
def LexerStripsUptoCardSaid : Prop := Claim7.holds Tryd.pinned (.plain (OpenSpec.upto lexerStripsSpec)) lexerStripsUptoCard

/-- THE SECOND FORM's CARD OF 'surveyorlaw08.LexerPlaces'. -/
def lexerPlacesUptoCard : Claim7 := { stood := { row := lexerPlacesUptoRow, standIns := [], harness := (true, "3308ad61eaf8e5ff0bf85395ef3356efe80a72a9263e5deb1f324c1261216b16"), looks := false }, kinds := [], alts := [], laidByText := true, laidKinds := [.data, .widerDeep, .pinned], laidTests := true, laidLooks := .later }
def LexerPlacesUptoCardSaid : Prop := Claim7.holds Tryd.pinned (.plain (OpenSpec.upto lexerPlacesSpec)) lexerPlacesUptoCard

/-- THE SECOND FORM's CARD OF 'surveyorlaw08.LexerLines'. -/
def lexerLinesUptoCard : Claim7 := { stood := { row := lexerLinesUptoRow, standIns := [], harness := (true, "3308ad61eaf8e5ff0bf85395ef3356efe80a72a9263e5deb1f324c1261216b16"), looks := false }, kinds := [], alts := [], laidByText := true, laidKinds := [.data, .widerDeep, .pinned], laidTests := true, laidLooks := .later }
def LexerLinesUptoCardSaid : Prop := Claim7.holds Tryd.pinned (.plain (OpenSpec.upto lexerLinesSpec)) lexerLinesUptoCard

/-- THE SECOND FORM's CARD OF 'surveyorlaw08.LexerStands'. -/
def lexerStandsUptoCard : Claim7 := { stood := { row := lexerStandsUptoRow, standIns := [], harness := (true, "3308ad61eaf8e5ff0bf85395ef3356efe80a72a9263e5deb1f324c1261216b16"), looks := false }, kinds := [], alts := [], laidByText := true, laidKinds := [.data, .widerDeep, .pinned], laidTests := true, laidLooks := .later }
def LexerStandsUptoCardSaid : Prop := Claim7.holds Tryd.pinned (.plain (OpenSpec.upto lexerStandsSpec)) lexerStandsUptoCard
end Rows
end Go.Proofs.YtlfbopiefjpeaaaDoor
