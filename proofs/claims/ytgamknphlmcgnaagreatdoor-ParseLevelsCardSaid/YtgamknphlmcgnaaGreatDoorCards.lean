/-
  DERIVED. GIVEN WITH THE SEED: THE CARDS: each row of YtgamknphlmcgnaaGreatDoorRows.lean that lists a variable, with what it lists TIED to the program's text (the seventh form; the later family's looks); each row that meets fmt, with fmt's text TOLD by the authors' own Lean function (tested against real Go, not proved from fmt's source: count such statements apart). THE CARD IS WHAT COUNTS. Prove the row's statement (the work); the ties are given (YtgamknphlmcgnaaGreatDoorTie.lean); close each card by the builder's one call (the guide's Derived/Test/ToyasCard.lean, 'card_holds'). Laid BY PROGRAM, IN A SANDBOX (cutbox-door.mjs). By AI agents, Wed Nov 11 2026. No macro, syntax, notation, axiom, sorry.
-/
import Derived.Test.YtgamknphlmcgnaaGreatDoorRows
import GoSem.ClaimSeven
namespace Go.Proofs.YtgamknphlmcgnaaGreatDoor
namespace Rows

/-- THE TIED CARD OF 'periscopelaw15.ParseExprs'. -/
def parseExprsCard : Claim7 := { stood := { row := parseExprsRow, standIns := [], harness := (true, "ea8dcd60eb5570b0b0b06b64397012ed4e396b482902ede03b392ca53aa85d13"), looks := true }, kinds := [], alts := [], laidByText := true, laidKinds := [.data, .data, .data, .data], laidTests := true, laidLooks := .later }
def ParseExprsCardSaid : Prop := Claim7.holds Tryz.pinned (.plain (OpenSpec.ofChange parseExprsSpec)) parseExprsCard

/-- THE TIED CARD OF 'periscopelaw11.LexParts'. -/
def lexPartsCard : Claim7 := { stood := { row := lexPartsRow, standIns := [], harness := (true, "ea8dcd60eb5570b0b0b06b64397012ed4e396b482902ede03b392ca53aa85d13"), looks := true }, kinds := [], alts := [], laidByText := true, laidKinds := [.data, .data, .data], laidTests := true, laidLooks := .later }
def LexPartsCardSaid : Prop := Claim7.holds Tryz.pinned (.plain (OpenSpec.ofChange lexPartsSpec)) lexPartsCard

/-- THE TIED CARD OF 'periscopelaw04.TextReads'. -/
def textReadsCard : Claim7 := { stood := { row := textReadsRow, standIns := [], harness := (true, "ea8dcd60eb5570b0b0b06b64397012ed4e396b482902ede03b392ca53aa85d13"), looks := true }, kinds := [], alts := [], laidByText := true, laidKinds := [.data, .data, .data], laidTests := true, laidLooks := .later }
def TextReadsCardSaid : Prop := Claim7.holds Tryz.pinned (.plain (OpenSpec.ofChange textReadsSpec)) textReadsCard

/-- THE TIED CARD OF 'periscopelaw10.LensSames'. -/
def lensSamesCard : Claim7 := { stood := { row := lensSamesRow, standIns := [], harness := (true, "ea8dcd60eb5570b0b0b06b64397012ed4e396b482902ede03b392ca53aa85d13"), looks := true }, kinds := [], alts := [], laidByText := true, laidKinds := [.data, .data, .data, .data], laidTests := true, laidLooks := .later }
def LensSamesCardSaid : Prop := Claim7.holds Tryz.pinned (.plain (OpenSpec.ofChange lensSamesSpec)) lensSamesCard

/-- THE TIED CARD OF 'periscopelaw15.ParseLevels'. -/
def parseLevelsCard : Claim7 := { stood := { row := parseLevelsRow, standIns := [], harness := (true, "ea8dcd60eb5570b0b0b06b64397012ed4e396b482902ede03b392ca53aa85d13"), looks := true }, kinds := [], alts := [], laidByText := true, laidKinds := [.data, .data, .data, .data], laidTests := true, laidLooks := .later }
def ParseLevelsCardSaid : Prop := Claim7.holds Tryz.pinned (.plain (OpenSpec.ofChange parseLevelsSpec)) parseLevelsCard

/-- THE TIED CARD OF 'periscopelaw15.ParseGrammar'. -/
def parseGrammarCard : Claim7 := { stood := { row := parseGrammarRow, standIns := [], harness := (true, "ea8dcd60eb5570b0b0b06b64397012ed4e396b482902ede03b392ca53aa85d13"), looks := true }, kinds := [], alts := [], laidByText := true, laidKinds := [.data, .data, .data, .data], laidTests := true, laidLooks := .later }
def ParseGrammarCardSaid : Prop := Claim7.holds Tryz.pinned (.plain (OpenSpec.ofChange parseGrammarSpec)) parseGrammarCard

/-- THE TIED CARD OF 'periscopelaw15.ParseReads'. -/
def parseReadsCard : Claim7 := { stood := { row := parseReadsRow, standIns := [], harness := (true, "ea8dcd60eb5570b0b0b06b64397012ed4e396b482902ede03b392ca53aa85d13"), looks := true }, kinds := [], alts := [], laidByText := true, laidKinds := [.data, .data, .data, .data], laidTests := true, laidLooks := .later }
def ParseReadsCardSaid : Prop := Claim7.holds Tryz.pinned (.plain (OpenSpec.ofChange parseReadsSpec)) parseReadsCard

/-- THE TIED CARD OF 'periscopelaw15.ParseAgain'. -/
def parseAgainCard : Claim7 := { stood := { row := parseAgainRow, standIns := [], harness := (true, "ea8dcd60eb5570b0b0b06b64397012ed4e396b482902ede03b392ca53aa85d13"), looks := true }, kinds := [], alts := [], laidByText := true, laidKinds := [.data, .data, .data, .data], laidTests := true, laidLooks := .later }
def ParseAgainCardSaid : Prop := Claim7.holds Tryz.pinned (.plain (OpenSpec.ofChange parseAgainSpec)) parseAgainCard

/-- THE TIED CARD OF 'periscopelaw16.BindDeep'. -/
def bindDeepCard : Claim7 := { stood := { row := bindDeepRow, standIns := [], harness := (true, "ea8dcd60eb5570b0b0b06b64397012ed4e396b482902ede03b392ca53aa85d13"), looks := true }, kinds := [], alts := [], laidByText := true, laidKinds := [.data, .data, .data, .data], laidTests := true, laidLooks := .later }
def BindDeepCardSaid : Prop := Claim7.holds Tryz.pinned (.plain (OpenSpec.ofChange bindDeepSpec)) bindDeepCard

/-- THE TIED CARD OF 'periscopelaw16.BindErrors'. -/
def bindErrorsCard : Claim7 := { stood := { row := bindErrorsRow, standIns := [], harness := (true, "ea8dcd60eb5570b0b0b06b64397012ed4e396b482902ede03b392ca53aa85d13"), looks := true }, kinds := [], alts := [], laidByText := true, laidKinds := [.data, .data, .data, .data], laidTests := true, laidLooks := .later }
def BindErrorsCardSaid : Prop := Claim7.holds Tryz.pinned (.plain (OpenSpec.ofChange bindErrorsSpec)) bindErrorsCard

/-- THE TIED CARD OF 'periscopelaw16.BindGrows'. -/
def bindGrowsCard : Claim7 := { stood := { row := bindGrowsRow, standIns := [], harness := (true, "ea8dcd60eb5570b0b0b06b64397012ed4e396b482902ede03b392ca53aa85d13"), looks := true }, kinds := [], alts := [], laidByText := true, laidKinds := [.data, .data, .data, .data], laidTests := true, laidLooks := .later }
def BindGrowsCardSaid : Prop := Claim7.holds Tryz.pinned (.plain (OpenSpec.ofChange bindGrowsSpec)) bindGrowsCard

/-- THE TIED CARD OF 'periscopelaw16.BindNames'. -/
def bindNamesCard : Claim7 := { stood := { row := bindNamesRow, standIns := [], harness := (true, "ea8dcd60eb5570b0b0b06b64397012ed4e396b482902ede03b392ca53aa85d13"), looks := true }, kinds := [], alts := [], laidByText := true, laidKinds := [.data, .data, .data, .data], laidTests := true, laidLooks := .later }
def BindNamesCardSaid : Prop := Claim7.holds Tryz.pinned (.plain (OpenSpec.ofChange bindNamesSpec)) bindNamesCard

/-- THE SECOND FORM's CARD OF 'periscopelaw15.ParseExprs'. -/
def parseExprsUptoCard : Claim7 := { stood := { row := parseExprsUptoRow, standIns := [], harness := (true, "ea8dcd60eb5570b0b0b06b64397012ed4e396b482902ede03b392ca53aa85d13"), looks := true }, kinds := [], alts := [], laidByText := true, laidKinds := [.data, .data, .data, .data], laidTests := true, laidLooks := .later }
def ParseExprsUptoCardSaid : Prop := Claim7.holds Tryz.pinned (.plain (OpenSpec.upto parseExprsSpec)) parseExprsUptoCard

/-- THE SECOND FORM's CARD OF 'periscopelaw11.LexParts'. -/
def lexPartsUptoCard : Claim7 := { stood := { row := lexPartsUptoRow, standIns := [], harness := (true, "ea8dcd60eb5570b0b0b06b64397012ed4e396b482902ede03b392ca53aa85d13"), looks := true }, kinds := [], alts := [], laidByText := true, laidKinds := [.data, .data, .data], laidTests := true, laidLooks := .later }
def LexPartsUptoCardSaid : Prop := Claim7.holds Tryz.pinned (.plain (OpenSpec.upto lexPartsSpec)) lexPartsUptoCard

/-- THE SECOND FORM's CARD OF 'periscopelaw04.TextReads'. -/
def textReadsUptoCard : Claim7 := { stood := { row := textReadsUptoRow, standIns := [], harness := (true, "ea8dcd60eb5570b0b0b06b64397012ed4e396b482902ede03b392ca53aa85d13"), looks := true }, kinds := [], alts := [], laidByText := true, laidKinds := [.data, .data, .data], laidTests := true, laidLooks := .later }
def TextReadsUptoCardSaid : Prop := Claim7.holds Tryz.pinned (.plain (OpenSpec.upto textReadsSpec)) textReadsUptoCard

/-- THE SECOND FORM's CARD OF 'periscopelaw10.LensSames'. -/
def lensSamesUptoCard : Claim7 := { stood := { row := lensSamesUptoRow, standIns := [], harness := (true, "ea8dcd60eb5570b0b0b06b64397012ed4e396b482902ede03b392ca53aa85d13"), looks := true }, kinds := [], alts := [], laidByText := true, laidKinds := [.data, .data, .data, .data], laidTests := true, laidLooks := .later }
def LensSamesUptoCardSaid : Prop := Claim7.holds Tryz.pinned (.plain (OpenSpec.upto lensSamesSpec)) lensSamesUptoCard

/-- THE SECOND FORM's CARD OF 'periscopelaw15.ParseLevels'. -/
def parseLevelsUptoCard : Claim7 := { stood := { row := parseLevelsUptoRow, standIns := [], harness := (true, "ea8dcd60eb5570b0b0b06b64397012ed4e396b482902ede03b392ca53aa85d13"), looks := true }, kinds := [], alts := [], laidByText := true, laidKinds := [.data, .data, .data, .data], laidTests := true, laidLooks := .later }
def ParseLevelsUptoCardSaid : Prop := Claim7.holds Tryz.pinned (.plain (OpenSpec.upto parseLevelsSpec)) parseLevelsUptoCard

/-- THE SECOND FORM's CARD OF 'periscopelaw15.ParseGrammar'. -/
def parseGrammarUptoCard : Claim7 := { stood := { row := parseGrammarUptoRow, standIns := [], harness := (true, "ea8dcd60eb5570b0b0b06b64397012ed4e396b482902ede03b392ca53aa85d13"), looks := true }, kinds := [], alts := [], laidByText := true, laidKinds := [.data, .data, .data, .data], laidTests := true, laidLooks := .later }
def ParseGrammarUptoCardSaid : Prop := Claim7.holds Tryz.pinned (.plain (OpenSpec.upto parseGrammarSpec)) parseGrammarUptoCard

/-- THE SECOND FORM's CARD OF 'periscopelaw15.ParseReads'. -/
def parseReadsUptoCard : Claim7 := { stood := { row := parseReadsUptoRow, standIns := [], harness := (true, "ea8dcd60eb5570b0b0b06b64397012ed4e396b482902ede03b392ca53aa85d13"), looks := true }, kinds := [], alts := [], laidByText := true, laidKinds := [.data, .data, .data, .data], laidTests := true, laidLooks := .later }
def ParseReadsUptoCardSaid : Prop := Claim7.holds Tryz.pinned (.plain (OpenSpec.upto parseReadsSpec)) parseReadsUptoCard

/-- THE SECOND FORM's CARD OF 'periscopelaw15.ParseAgain'. -/
def parseAgainUptoCard : Claim7 := { stood := { row := parseAgainUptoRow, standIns := [], harness := (true, "ea8dcd60eb5570b0b0b06b64397012ed4e396b482902ede03b392ca53aa85d13"), looks := true }, kinds := [], alts := [], laidByText := true, laidKinds := [.data, .data, .data, .data], laidTests := true, laidLooks := .later }
def ParseAgainUptoCardSaid : Prop := Claim7.holds Tryz.pinned (.plain (OpenSpec.upto parseAgainSpec)) parseAgainUptoCard

/-- THE SECOND FORM's CARD OF 'periscopelaw16.BindDeep'. -/
def bindDeepUptoCard : Claim7 := { stood := { row := bindDeepUptoRow, standIns := [], harness := (true, "ea8dcd60eb5570b0b0b06b64397012ed4e396b482902ede03b392ca53aa85d13"), looks := true }, kinds := [], alts := [], laidByText := true, laidKinds := [.data, .data, .data, .data], laidTests := true, laidLooks := .later }
def BindDeepUptoCardSaid : Prop := Claim7.holds Tryz.pinned (.plain (OpenSpec.upto bindDeepSpec)) bindDeepUptoCard

/-- THE SECOND FORM's CARD OF 'periscopelaw16.BindErrors'. -/
def bindErrorsUptoCard : Claim7 := { stood := { row := bindErrorsUptoRow, standIns := [], harness := (true, "ea8dcd60eb5570b0b0b06b64397012ed4e396b482902ede03b392ca53aa85d13"), looks := true }, kinds := [], alts := [], laidByText := true, laidKinds := [.data, .data, .data, .data], laidTests := true, laidLooks := .later }
def BindErrorsUptoCardSaid : Prop := Claim7.holds Tryz.pinned (.plain (OpenSpec.upto bindErrorsSpec)) bindErrorsUptoCard

/-- THE SECOND FORM's CARD OF 'periscopelaw16.BindGrows'. -/
def bindGrowsUptoCard : Claim7 := { stood := { row := bindGrowsUptoRow, standIns := [], harness := (true, "ea8dcd60eb5570b0b0b06b64397012ed4e396b482902ede03b392ca53aa85d13"), looks := true }, kinds := [], alts := [], laidByText := true, laidKinds := [.data, .data, .data, .data], laidTests := true, laidLooks := .later }
def BindGrowsUptoCardSaid : Prop := Claim7.holds Tryz.pinned (.plain (OpenSpec.upto bindGrowsSpec)) bindGrowsUptoCard

/-- THE SECOND FORM's CARD OF 'periscopelaw16.BindNames'. -/
def bindNamesUptoCard : Claim7 := { stood := { row := bindNamesUptoRow, standIns := [], harness := (true, "ea8dcd60eb5570b0b0b06b64397012ed4e396b482902ede03b392ca53aa85d13"), looks := true }, kinds := [], alts := [], laidByText := true, laidKinds := [.data, .data, .data, .data], laidTests := true, laidLooks := .later }
def BindNamesUptoCardSaid : Prop := Claim7.holds Tryz.pinned (.plain (OpenSpec.upto bindNamesSpec)) bindNamesUptoCard
end Rows
end Go.Proofs.YtgamknphlmcgnaaGreatDoor
