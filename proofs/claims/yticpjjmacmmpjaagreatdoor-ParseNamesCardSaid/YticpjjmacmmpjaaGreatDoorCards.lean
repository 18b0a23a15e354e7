/-
  DERIVED. GIVEN WITH THE SEED: THE CARDS: each row of YticpjjmacmmpjaaGreatDoorRows.lean that lists a variable, with what it lists TIED to the program's text (the seventh form; the later family's looks); each row that meets fmt, with fmt's text TOLD by the authors' own Lean function (tested against real Go, not proved from fmt's source: count such statements apart). THE CARD IS WHAT COUNTS. Prove the row's statement (the work); the ties are given (YticpjjmacmmpjaaGreatDoorTie.lean); close each card by the builder's one call (the guide's Derived/Test/ToyasCard.lean, 'card_holds'). Laid BY PROGRAM, IN A SANDBOX (cutbox-door.mjs). By AI agents, Wed Nov 11 2026. No macro, syntax, notation, axiom, sorry.
-/
import Derived.Test.YticpjjmacmmpjaaGreatDoorRows
import GoSem.ClaimSeven
namespace Go.Proofs.YticpjjmacmmpjaaGreatDoor
namespace Rows

/-- THE TIED CARD OF 'periscopelaw11.LexNames'. -/
def lexNamesCard : Claim7 := { stood := { row := lexNamesRow, standIns := [], harness := (true, "0cdb74046b3b3c59ef7f330822880ef88ad1213d1f4685423a04b9e173fe6835"), looks := true }, kinds := [], alts := [], laidByText := true, laidKinds := [.data, .data, .data], laidTests := true, laidLooks := .later }
def LexNamesCardSaid : Prop := Claim7.holds Tryz.pinned (.plain (OpenSpec.ofChange lexNamesSpec)) lexNamesCard

/-- THE TIED CARD OF 'periscopelaw11.LexParts'. -/
def lexPartsCard : Claim7 := { stood := { row := lexPartsRow, standIns := [], harness := (true, "0cdb74046b3b3c59ef7f330822880ef88ad1213d1f4685423a04b9e173fe6835"), looks := true }, kinds := [], alts := [], laidByText := true, laidKinds := [.data, .data, .data], laidTests := true, laidLooks := .later }
def LexPartsCardSaid : Prop := Claim7.holds Tryz.pinned (.plain (OpenSpec.ofChange lexPartsSpec)) lexPartsCard

/-- THE TIED CARD OF 'periscopelaw04.TextReads'. -/
def textReadsCard : Claim7 := { stood := { row := textReadsRow, standIns := [], harness := (true, "0cdb74046b3b3c59ef7f330822880ef88ad1213d1f4685423a04b9e173fe6835"), looks := true }, kinds := [], alts := [], laidByText := true, laidKinds := [.data, .data, .data], laidTests := true, laidLooks := .later }
def TextReadsCardSaid : Prop := Claim7.holds Tryz.pinned (.plain (OpenSpec.ofChange textReadsSpec)) textReadsCard

/-- THE TIED CARD OF 'periscopelaw10.LensSames'. -/
def lensSamesCard : Claim7 := { stood := { row := lensSamesRow, standIns := [], harness := (true, "0cdb74046b3b3c59ef7f330822880ef88ad1213d1f4685423a04b9e173fe6835"), looks := true }, kinds := [], alts := [], laidByText := true, laidKinds := [.data, .data, .data, .data], laidTests := true, laidLooks := .later }
def LensSamesCardSaid : Prop := Claim7.holds Tryz.pinned (.plain (OpenSpec.ofChange lensSamesSpec)) lensSamesCard

/-- THE TIED CARD OF 'periscopelaw15.ParseLexed'. -/
def parseLexedCard : Claim7 := { stood := { row := parseLexedRow, standIns := [], harness := (true, "0cdb74046b3b3c59ef7f330822880ef88ad1213d1f4685423a04b9e173fe6835"), looks := true }, kinds := [], alts := [], laidByText := true, laidKinds := [.data, .data, .data, .data], laidTests := true, laidLooks := .later }
def ParseLexedCardSaid : Prop := Claim7.holds Tryz.pinned (.plain (OpenSpec.ofChange parseLexedSpec)) parseLexedCard

/-- THE TIED CARD OF 'periscopelaw15.ParseErrors'. -/
def parseErrorsCard : Claim7 := { stood := { row := parseErrorsRow, standIns := [], harness := (true, "0cdb74046b3b3c59ef7f330822880ef88ad1213d1f4685423a04b9e173fe6835"), looks := true }, kinds := [], alts := [], laidByText := true, laidKinds := [.data, .data, .data, .data], laidTests := true, laidLooks := .later }
def ParseErrorsCardSaid : Prop := Claim7.holds Tryz.pinned (.plain (OpenSpec.ofChange parseErrorsSpec)) parseErrorsCard

/-- THE TIED CARD OF 'periscopelaw15.ParseDeep'. -/
def parseDeepCard : Claim7 := { stood := { row := parseDeepRow, standIns := [], harness := (true, "0cdb74046b3b3c59ef7f330822880ef88ad1213d1f4685423a04b9e173fe6835"), looks := true }, kinds := [], alts := [], laidByText := true, laidKinds := [.data, .data, .data, .data], laidTests := true, laidLooks := .later }
def ParseDeepCardSaid : Prop := Claim7.holds Tryz.pinned (.plain (OpenSpec.ofChange parseDeepSpec)) parseDeepCard

/-- THE TIED CARD OF 'periscopelaw15.ParseExprs'. -/
def parseExprsCard : Claim7 := { stood := { row := parseExprsRow, standIns := [], harness := (true, "0cdb74046b3b3c59ef7f330822880ef88ad1213d1f4685423a04b9e173fe6835"), looks := true }, kinds := [], alts := [], laidByText := true, laidKinds := [.data, .data, .data, .data], laidTests := true, laidLooks := .later }
def ParseExprsCardSaid : Prop := Claim7.holds Tryz.pinned (.plain (OpenSpec.ofChange parseExprsSpec)) parseExprsCard

/-- THE TIED CARD OF 'periscopelaw15.ParseNames'. -/
def parseNamesCard : Claim7 := { stood := { row := parseNamesRow, standIns := [], harness := (true, "0cdb74046b3b3c59ef7f330822880ef88ad1213d1f4685423a04b9e173fe6835"), looks := true }, kinds := [], alts := [], laidByText := true, laidKinds := [.data, .data, .data, .data], laidTests := true, laidLooks := .later }
def ParseNamesCardSaid : Prop := Claim7.holds Tryz.pinned (.plain (OpenSpec.ofChange parseNamesSpec)) parseNamesCard

/-- THE TIED CARD OF 'periscopelaw15.ParseLevels'. -/
def parseLevelsCard : Claim7 := { stood := { row := parseLevelsRow, standIns := [], harness := (true, "0cdb74046b3b3c59ef7f330822880ef88ad1213d1f4685423a04b9e173fe6835"), looks := true }, kinds := [], alts := [], laidByText := true, laidKinds := [.data, .data, .data, .data], laidTests := true, laidLooks := .later }
def ParseLevelsCardSaid : Prop := Claim7.holds Tryz.pinned (.plain (OpenSpec.ofChange parseLevelsSpec)) parseLevelsCard

/-- THE TIED CARD OF 'periscopelaw15.ParseGrammar'. -/
def parseGrammarCard : Claim7 := { stood := { row := parseGrammarRow, standIns := [], harness := (true, "0cdb74046b3b3c59ef7f330822880ef88ad1213d1f4685423a04b9e173fe6835"), looks := true }, kinds := [], alts := [], laidByText := true, laidKinds := [.data, .data, .data, .data], laidTests := true, laidLooks := .later }
def ParseGrammarCardSaid : Prop := Claim7.holds Tryz.pinned (.plain (OpenSpec.ofChange parseGrammarSpec)) parseGrammarCard

/-- THE TIED CARD OF 'periscopelaw15.ParseReads'. -/
def parseReadsCard : Claim7 := { stood := { row := parseReadsRow, standIns := [], harness := (true, "0cdb74046b3b3c59ef7f330822880ef88ad1213d1f4685423a04b9e173fe6835"), looks := true }, kinds := [], alts := [], laidByText := true, laidKinds := [.data, .data, .data, .data], laidTests := true, laidLooks := .later }
def ParseReadsCardSaid : Prop := Claim7.holds Tryz.pinned (.plain (OpenSpec.ofChange parseReadsSpec)) parseReadsCard

/-- THE SECOND FORM's CARD OF 'periscopelaw11.LexNames'. -/
def lexNamesUptoCard : Claim7 := { stood := { row := lexNamesUptoRow, standIns := [], harness := (true, "0cdb74046b3b3c59ef7f330822880ef88ad1213d1f4685423a04b9e173fe6835"), looks := true }, kinds := [], alts := [], laidByText := true, laidKinds := [.data, .data, .data], laidTests := true, laidLooks := .later }
def LexNamesUptoCardSaid : Prop := Claim7.holds Tryz.pinned (.plain (OpenSpec.upto lexNamesSpec)) lexNamesUptoCard

/-- THE SECOND FORM's CARD OF 'periscopelaw11.LexParts'. -/
def lexPartsUptoCard : Claim7 := { stood := { row := lexPartsUptoRow, standIns := [], harness := (true, "0cdb74046b3b3c59ef7f330822880ef88ad1213d1f4685423a04b9e173fe6835"), looks := true }, kinds := [], alts := [], laidByText := true, laidKinds := [.data, .data, .data], laidTests := true, laidLooks := .later }
def LexPartsUptoCardSaid : Prop := Claim7.holds Tryz.pinned (.plain (OpenSpec.upto lexPartsSpec)) lexPartsUptoCard

/-- THE SECOND FORM's CARD OF 'periscopelaw04.TextReads'. -/
def textReadsUptoCard : Claim7 := { stood := { row := textReadsUptoRow, standIns := [], harness := (true, "0cdb74046b3b3c59ef7f330822880ef88ad1213d1f4685423a04b9e173fe6835"), looks := true }, kinds := [], alts := [], laidByText := true, laidKinds := [.data, .data, .data], laidTests := true, laidLooks := .later }
def TextReadsUptoCardSaid : Prop := Claim7.holds Tryz.pinned (.plain (OpenSpec.upto textReadsSpec)) textReadsUptoCard

/-- THE SECOND FORM's CARD OF 'periscopelaw10.LensSames'. -/
def lensSamesUptoCard : Claim7 := { stood := { row := lensSamesUptoRow, standIns := [], harness := (true, "0cdb74046b3b3c59ef7f330822880ef88ad1213d1f4685423a04b9e173fe6835"), looks := true }, kinds := [], alts := [], laidByText := true, laidKinds := [.data, .data, .data, .data], laidTests := true, laidLooks := .later }
def LensSamesUptoCardSaid : Prop := Claim7.holds Tryz.pinned (.plain (OpenSpec.upto lensSamesSpec)) lensSamesUptoCard

/-- THE SECOND FORM's CARD OF 'periscopelaw15.ParseLexed'. -/
def parseLexedUptoCard : Claim7 := { stood := { row := parseLexedUptoRow, standIns := [], harness := (true, "0cdb74046b3b3c59ef7f330822880ef88ad1213d1f4685423a04b9e173fe6835"), looks := true }, kinds := [], alts := [], laidByText := true, laidKinds := [.data, .data, .data, .data], laidTests := true, laidLooks := .later }
def ParseLexedUptoCardSaid : Prop := Claim7.holds Tryz.pinned (.plain (OpenSpec.upto parseLexedSpec)) parseLexedUptoCard

/-- THE SECOND FORM's CARD OF 'periscopelaw15.ParseErrors'. -/
def parseErrorsUptoCard : Claim7 := { stood := { row := parseErrorsUptoRow, standIns := [], harness := (true, "0cdb74046b3b3c59ef7f330822880ef88ad1213d1f4685423a04b9e173fe6835"), looks := true }, kinds := [], alts := [], laidByText := true, laidKinds := [.data, .data, .data, .data], laidTests := true, laidLooks := .later }
def ParseErrorsUptoCardSaid : Prop := Claim7.holds Tryz.pinned (.plain (OpenSpec.upto parseErrorsSpec)) parseErrorsUptoCard

/-- THE SECOND FORM's CARD OF 'periscopelaw15.ParseDeep'. -/
def parseDeepUptoCard : Claim7 := { stood := { row := parseDeepUptoRow, standIns := [], harness := (true, "0cdb74046b3b3c59ef7f330822880ef88ad1213d1f4685423a04b9e173fe6835"), looks := true }, kinds := [], alts := [], laidByText := true, laidKinds := [.data, .data, .data, .data], laidTests := true, laidLooks := .later }
def ParseDeepUptoCardSaid : Prop := Claim7.holds Tryz.pinned (.plain (OpenSpec.upto parseDeepSpec)) parseDeepUptoCard

/-- THE SECOND FORM's CARD OF 'periscopelaw15.ParseExprs'. -/
def parseExprsUptoCard : Claim7 := { stood := { row := parseExprsUptoRow, standIns := [], harness := (true, "0cdb74046b3b3c59ef7f330822880ef88ad1213d1f4685423a04b9e173fe6835"), looks := true }, kinds := [], alts := [], laidByText := true, laidKinds := [.data, .data, .data, .data], laidTests := true, laidLooks := .later }
def ParseExprsUptoCardSaid : Prop := Claim7.holds Tryz.pinned (.plain (OpenSpec.upto parseExprsSpec)) parseExprsUptoCard

/-- THE SECOND FORM's CARD OF 'periscopelaw15.ParseNames'. -/
def parseNamesUptoCard : Claim7 := { stood := { row := parseNamesUptoRow, standIns := [], harness := (true, "0cdb74046b3b3c59ef7f330822880ef88ad1213d1f4685423a04b9e173fe6835"), looks := true }, kinds := [], alts := [], laidByText := true, laidKinds := [.data, .data, .data, .data], laidTests := true, laidLooks := .later }
def ParseNamesUptoCardSaid : Prop := Claim7.holds Tryz.pinned (.plain (OpenSpec.upto parseNamesSpec)) parseNamesUptoCard

/-- THE SECOND FORM's CARD OF 'periscopelaw15.ParseLevels'. -/
def parseLevelsUptoCard : Claim7 := { stood := { row := parseLevelsUptoRow, standIns := [], harness := (true, "0cdb74046b3b3c59ef7f330822880ef88ad1213d1f4685423a04b9e173fe6835"), looks := true }, kinds := [], alts := [], laidByText := true, laidKinds := [.data, .data, .data, .data], laidTests := true, laidLooks := .later }
def ParseLevelsUptoCardSaid : Prop := Claim7.holds Tryz.pinned (.plain (OpenSpec.upto parseLevelsSpec)) parseLevelsUptoCard

/-- THE SECOND FORM's CARD OF 'periscopelaw15.ParseGrammar'. -/
def parseGrammarUptoCard : Claim7 := { stood := { row := parseGrammarUptoRow, standIns := [], harness := (true, "0cdb74046b3b3c59ef7f330822880ef88ad1213d1f4685423a04b9e173fe6835"), looks := true }, kinds := [], alts := [], laidByText := true, laidKinds := [.data, .data, .data, .data], laidTests := true, laidLooks := .later }
def ParseGrammarUptoCardSaid : Prop := Claim7.holds Tryz.pinned (.plain (OpenSpec.upto parseGrammarSpec)) parseGrammarUptoCard

/-- THE SECOND FORM's CARD OF 'periscopelaw15.ParseReads'. -/
def parseReadsUptoCard : Claim7 := { stood := { row := parseReadsUptoRow, standIns := [], harness := (true, "0cdb74046b3b3c59ef7f330822880ef88ad1213d1f4685423a04b9e173fe6835"), looks := true }, kinds := [], alts := [], laidByText := true, laidKinds := [.data, .data, .data, .data], laidTests := true, laidLooks := .later }
def ParseReadsUptoCardSaid : Prop := Claim7.holds Tryz.pinned (.plain (OpenSpec.upto parseReadsSpec)) parseReadsUptoCard
end Rows
end Go.Proofs.YticpjjmacmmpjaaGreatDoor
