/-
  DERIVED. GIVEN WITH THE SEED: THE CARDS: each row of YtojahbagohkihaaGreatDoorRows.lean that lists a variable, with what it lists TIED to the program's text (the seventh form; the later family's looks); each row that meets fmt, with fmt's text TOLD by the authors' own Lean function (tested against real Go, not proved from fmt's source: count such statements apart). THE CARD IS WHAT COUNTS. Prove the row's statement (the work); the ties are given (YtojahbagohkihaaGreatDoorTie.lean); close each card by the builder's one call (the guide's Derived/Test/ToyasCard.lean, 'card_holds'). Laid BY PROGRAM, IN A SANDBOX (cutbox-door.mjs). By AI agents, Wed Nov 11 2026. No macro, syntax, notation, axiom, sorry.
-/
import Derived.Test.YtojahbagohkihaaGreatDoorRows
import GoSem.ClaimSeven
namespace Go.Proofs.YtojahbagohkihaaGreatDoor
namespace Rows

/-- THE TIED CARD OF 'periscopelaw11.LexReads'. -/
def lexReadsCard : Claim7 := { stood := { row := lexReadsRow, standIns := [], harness := (true, "f8ab9a681cfeb73f1f2ef40a9863a9aa215771ea180bf105e3d15e08bcb9fc56"), looks := true }, kinds := [], alts := [], laidByText := true, laidKinds := [.data, .data, .data], laidTests := true, laidLooks := .later }
def LexReadsCardSaid : Prop := Claim7.holds Tryz.pinned (.plain (OpenSpec.ofChange lexReadsSpec)) lexReadsCard

/-- THE TIED CARD OF 'periscopelaw11.LexErrors'. -/
def lexErrorsCard : Claim7 := { stood := { row := lexErrorsRow, standIns := [], harness := (true, "f8ab9a681cfeb73f1f2ef40a9863a9aa215771ea180bf105e3d15e08bcb9fc56"), looks := true }, kinds := [], alts := [], laidByText := true, laidKinds := [.data, .data, .data], laidTests := true, laidLooks := .later }
def LexErrorsCardSaid : Prop := Claim7.holds Tryz.pinned (.plain (OpenSpec.ofChange lexErrorsSpec)) lexErrorsCard

/-- THE TIED CARD OF 'periscopelaw11.LexNames'. -/
def lexNamesCard : Claim7 := { stood := { row := lexNamesRow, standIns := [], harness := (true, "f8ab9a681cfeb73f1f2ef40a9863a9aa215771ea180bf105e3d15e08bcb9fc56"), looks := true }, kinds := [], alts := [], laidByText := true, laidKinds := [.data, .data, .data], laidTests := true, laidLooks := .later }
def LexNamesCardSaid : Prop := Claim7.holds Tryz.pinned (.plain (OpenSpec.ofChange lexNamesSpec)) lexNamesCard

/-- THE TIED CARD OF 'periscopelaw11.LexParts'. -/
def lexPartsCard : Claim7 := { stood := { row := lexPartsRow, standIns := [], harness := (true, "f8ab9a681cfeb73f1f2ef40a9863a9aa215771ea180bf105e3d15e08bcb9fc56"), looks := true }, kinds := [], alts := [], laidByText := true, laidKinds := [.data, .data, .data], laidTests := true, laidLooks := .later }
def LexPartsCardSaid : Prop := Claim7.holds Tryz.pinned (.plain (OpenSpec.ofChange lexPartsSpec)) lexPartsCard

/-- THE TIED CARD OF 'periscopelaw04.TextLevels'. -/
def textLevelsCard : Claim7 := { stood := { row := textLevelsRow, standIns := [], harness := (true, "f8ab9a681cfeb73f1f2ef40a9863a9aa215771ea180bf105e3d15e08bcb9fc56"), looks := true }, kinds := [], alts := [], laidByText := true, laidKinds := [.data, .data, .data], laidTests := true, laidLooks := .later }
def TextLevelsCardSaid : Prop := Claim7.holds Tryz.pinned (.plain (OpenSpec.ofChange textLevelsSpec)) textLevelsCard

/-- THE TIED CARD OF 'periscopelaw04.TextReads'. -/
def textReadsCard : Claim7 := { stood := { row := textReadsRow, standIns := [], harness := (true, "f8ab9a681cfeb73f1f2ef40a9863a9aa215771ea180bf105e3d15e08bcb9fc56"), looks := true }, kinds := [], alts := [], laidByText := true, laidKinds := [.data, .data, .data], laidTests := true, laidLooks := .later }
def TextReadsCardSaid : Prop := Claim7.holds Tryz.pinned (.plain (OpenSpec.ofChange textReadsSpec)) textReadsCard

/-- THE TIED CARD OF 'periscopelaw10.LensSames'. -/
def lensSamesCard : Claim7 := { stood := { row := lensSamesRow, standIns := [], harness := (true, "f8ab9a681cfeb73f1f2ef40a9863a9aa215771ea180bf105e3d15e08bcb9fc56"), looks := true }, kinds := [], alts := [], laidByText := true, laidKinds := [.data, .data, .data, .data], laidTests := true, laidLooks := .later }
def LensSamesCardSaid : Prop := Claim7.holds Tryz.pinned (.plain (OpenSpec.ofChange lensSamesSpec)) lensSamesCard

/-- THE TIED CARD OF 'periscopelaw15.ParseLexed'. -/
def parseLexedCard : Claim7 := { stood := { row := parseLexedRow, standIns := [], harness := (true, "f8ab9a681cfeb73f1f2ef40a9863a9aa215771ea180bf105e3d15e08bcb9fc56"), looks := true }, kinds := [], alts := [], laidByText := true, laidKinds := [.data, .data, .data, .data], laidTests := true, laidLooks := .later }
def ParseLexedCardSaid : Prop := Claim7.holds Tryz.pinned (.plain (OpenSpec.ofChange parseLexedSpec)) parseLexedCard

/-- THE TIED CARD OF 'periscopelaw15.ParseErrors'. -/
def parseErrorsCard : Claim7 := { stood := { row := parseErrorsRow, standIns := [], harness := (true, "f8ab9a681cfeb73f1f2ef40a9863a9aa215771ea180bf105e3d15e08bcb9fc56"), looks := true }, kinds := [], alts := [], laidByText := true, laidKinds := [.data, .data, .data, .data], laidTests := true, laidLooks := .later }
def ParseErrorsCardSaid : Prop := Claim7.holds Tryz.pinned (.plain (OpenSpec.ofChange parseErrorsSpec)) parseErrorsCard

/-- THE TIED CARD OF 'periscopelaw15.ParseNames'. -/
def parseNamesCard : Claim7 := { stood := { row := parseNamesRow, standIns := [], harness := (true, "f8ab9a681cfeb73f1f2ef40a9863a9aa215771ea180bf105e3d15e08bcb9fc56"), looks := true }, kinds := [], alts := [], laidByText := true, laidKinds := [.data, .data, .data, .data], laidTests := true, laidLooks := .later }
def ParseNamesCardSaid : Prop := Claim7.holds Tryz.pinned (.plain (OpenSpec.ofChange parseNamesSpec)) parseNamesCard

/-- THE TIED CARD OF 'periscopelaw15.ParseLevels'. -/
def parseLevelsCard : Claim7 := { stood := { row := parseLevelsRow, standIns := [], harness := (true, "f8ab9a681cfeb73f1f2ef40a9863a9aa215771ea180bf105e3d15e08bcb9fc56"), looks := true }, kinds := [], alts := [], laidByText := true, laidKinds := [.data, .data, .data, .data], laidTests := true, laidLooks := .later }
def ParseLevelsCardSaid : Prop := Claim7.holds Tryz.pinned (.plain (OpenSpec.ofChange parseLevelsSpec)) parseLevelsCard

/-- THE TIED CARD OF 'periscopelaw15.ParseDeep'. -/
def parseDeepCard : Claim7 := { stood := { row := parseDeepRow, standIns := [], harness := (true, "f8ab9a681cfeb73f1f2ef40a9863a9aa215771ea180bf105e3d15e08bcb9fc56"), looks := true }, kinds := [], alts := [], laidByText := true, laidKinds := [.data, .data, .data, .data], laidTests := true, laidLooks := .later }
def ParseDeepCardSaid : Prop := Claim7.holds Tryz.pinned (.plain (OpenSpec.ofChange parseDeepSpec)) parseDeepCard

/-- THE SECOND FORM's CARD OF 'periscopelaw11.LexReads'. -/
def lexReadsUptoCard : Claim7 := { stood := { row := lexReadsUptoRow, standIns := [], harness := (true, "f8ab9a681cfeb73f1f2ef40a9863a9aa215771ea180bf105e3d15e08bcb9fc56"), looks := true }, kinds := [], alts := [], laidByText := true, laidKinds := [.data, .data, .data], laidTests := true, laidLooks := .later }
def LexReadsUptoCardSaid : Prop := Claim7.holds Tryz.pinned (.plain (OpenSpec.upto lexReadsSpec)) lexReadsUptoCard

/-- THE SECOND FORM's CARD OF 'periscopelaw11.LexErrors'. -/
def lexErrorsUptoCard : Claim7 := { stood := { row := lexErrorsUptoRow, standIns := [], harness := (true, "f8ab9a681cfeb73f1f2ef40a9863a9aa215771ea180bf105e3d15e08bcb9fc56"), looks := true }, kinds := [], alts := [], laidByText := true, laidKinds := [.data, .data, .data], laidTests := true, laidLooks := .later }
def LexErrorsUptoCardSaid : Prop := Claim7.holds Tryz.pinned (.plain (OpenSpec.upto lexErrorsSpec)) lexErrorsUptoCard

/-- THE SECOND FORM's CARD OF 'periscopelaw11.LexNames'. -/
def lexNamesUptoCard : Claim7 := { stood := { row := lexNamesUptoRow, standIns := [], harness := (true, "f8ab9a681cfeb73f1f2ef40a9863a9aa215771ea180bf105e3d15e08bcb9fc56"), looks := true }, kinds := [], alts := [], laidByText := true, laidKinds := [.data, .data, .data], laidTests := true, laidLooks := .later }
def LexNamesUptoCardSaid : Prop := Claim7.holds Tryz.pinned (.plain (OpenSpec.upto lexNamesSpec)) lexNamesUptoCard

/-- THE SECOND FORM's CARD OF 'periscopelaw11.LexParts'. -/
def lexPartsUptoCard : Claim7 := { stood := { row := lexPartsUptoRow, standIns := [], harness := (true, "f8ab9a681cfeb73f1f2ef40a9863a9aa215771ea180bf105e3d15e08bcb9fc56"), looks := true }, kinds := [], alts := [], laidByText := true, laidKinds := [.data, .data, .data], laidTests := true, laidLooks := .later }
def LexPartsUptoCardSaid : Prop := Claim7.holds Tryz.pinned (.plain (OpenSpec.upto lexPartsSpec)) lexPartsUptoCard

/-- THE SECOND FORM's CARD OF 'periscopelaw04.TextLevels'. -/
def textLevelsUptoCard : Claim7 := { stood := { row := textLevelsUptoRow, standIns := [], harness := (true, "f8ab9a681cfeb73f1f2ef40a9863a9aa215771ea180bf105e3d15e08bcb9fc56"), looks := true }, kinds := [], alts := [], laidByText := true, laidKinds := [.data, .data, .data], laidTests := true, laidLooks := .later }
def TextLevelsUptoCardSaid : Prop := Claim7.holds Tryz.pinned (.plain (OpenSpec.upto textLevelsSpec)) textLevelsUptoCard

/-- THE SECOND FORM's CARD OF 'periscopelaw04.TextReads'. -/
def textReadsUptoCard : Claim7 := { stood := { row := textReadsUptoRow, standIns := [], harness := (true, "f8ab9a681cfeb73f1f2ef40a9863a9aa215771ea180bf105e3d15e08bcb9fc56"), looks := true }, kinds := [], alts := [], laidByText := true, laidKinds := [.data, .data, .data], laidTests := true, laidLooks := .later }
def TextReadsUptoCardSaid : Prop := Claim7.holds Tryz.pinned (.plain (OpenSpec.upto textReadsSpec)) textReadsUptoCard

/-- THE SECOND FORM's CARD OF 'periscopelaw10.LensSames'. -/
def lensSamesUptoCard : Claim7 := { stood := { row := lensSamesUptoRow, standIns := [], harness := (true, "f8ab9a681cfeb73f1f2ef40a9863a9aa215771ea180bf105e3d15e08bcb9fc56"), looks := true }, kinds := [], alts := [], laidByText := true, laidKinds := [.data, .data, .data, .data], laidTests := true, laidLooks := .later }
def LensSamesUptoCardSaid : Prop := Claim7.holds Tryz.pinned (.plain (OpenSpec.upto lensSamesSpec)) lensSamesUptoCard

/-- THE SECOND FORM's CARD OF 'periscopelaw15.ParseLexed'. -/
def parseLexedUptoCard : Claim7 := { stood := { row := parseLexedUptoRow, standIns := [], harness := (true, "f8ab9a681cfeb73f1f2ef40a9863a9aa215771ea180bf105e3d15e08bcb9fc56"), looks := true }, kinds := [], alts := [], laidByText := true, laidKinds := [.data, .data, .data, .data], laidTests := true, laidLooks := .later }
def ParseLexedUptoCardSaid : Prop := Claim7.holds Tryz.pinned (.plain (OpenSpec.upto parseLexedSpec)) parseLexedUptoCard

/-- THE SECOND FORM's CARD OF 'periscopelaw15.ParseErrors'. -/
def parseErrorsUptoCard : Claim7 := { stood := { row := parseErrorsUptoRow, standIns := [], harness := (true, "f8ab9a681cfeb73f1f2ef40a9863a9aa215771ea180bf105e3d15e08bcb9fc56"), looks := true }, kinds := [], alts := [], laidByText := true, laidKinds := [.data, .data, .data, .data], laidTests := true, laidLooks := .later }
def ParseErrorsUptoCardSaid : Prop := Claim7.holds Tryz.pinned (.plain (OpenSpec.upto parseErrorsSpec)) parseErrorsUptoCard

/-- THE SECOND FORM's CARD OF 'periscopelaw15.ParseNames'. -/
def parseNamesUptoCard : Claim7 := { stood := { row := parseNamesUptoRow, standIns := [], harness := (true, "f8ab9a681cfeb73f1f2ef40a9863a9aa215771ea180bf105e3d15e08bcb9fc56"), looks := true }, kinds := [], alts := [], laidByText := true, laidKinds := [.data, .data, .data, .data], laidTests := true, laidLooks := .later }
def ParseNamesUptoCardSaid : Prop := Claim7.holds Tryz.pinned (.plain (OpenSpec.upto parseNamesSpec)) parseNamesUptoCard

/-- THE SECOND FORM's CARD OF 'periscopelaw15.ParseLevels'. -/
def parseLevelsUptoCard : Claim7 := { stood := { row := parseLevelsUptoRow, standIns := [], harness := (true, "f8ab9a681cfeb73f1f2ef40a9863a9aa215771ea180bf105e3d15e08bcb9fc56"), looks := true }, kinds := [], alts := [], laidByText := true, laidKinds := [.data, .data, .data, .data], laidTests := true, laidLooks := .later }
def ParseLevelsUptoCardSaid : Prop := Claim7.holds Tryz.pinned (.plain (OpenSpec.upto parseLevelsSpec)) parseLevelsUptoCard

/-- THE SECOND FORM's CARD OF 'periscopelaw15.ParseDeep'. -/
def parseDeepUptoCard : Claim7 := { stood := { row := parseDeepUptoRow, standIns := [], harness := (true, "f8ab9a681cfeb73f1f2ef40a9863a9aa215771ea180bf105e3d15e08bcb9fc56"), looks := true }, kinds := [], alts := [], laidByText := true, laidKinds := [.data, .data, .data, .data], laidTests := true, laidLooks := .later }
def ParseDeepUptoCardSaid : Prop := Claim7.holds Tryz.pinned (.plain (OpenSpec.upto parseDeepSpec)) parseDeepUptoCard
end Rows
end Go.Proofs.YtojahbagohkihaaGreatDoor
