/-
  DERIVED. GIVEN WITH THE SEED: THE CARDS: each row of YtpajpjocakhcdaaGreatDoorRows.lean that lists a variable, with what it lists TIED to the program's text (the seventh form; the later family's looks); each row that meets fmt, with fmt's text TOLD by the authors' own Lean function (tested against real Go, not proved from fmt's source: count such statements apart). THE CARD IS WHAT COUNTS. Prove the row's statement (the work); the ties are given (YtpajpjocakhcdaaGreatDoorTie.lean); close each card by the builder's one call (the guide's Derived/Test/ToyasCard.lean, 'card_holds'). Laid BY PROGRAM, IN A SANDBOX (cutbox-door.mjs). By AI agents, Wed Nov 11 2026. No macro, syntax, notation, axiom, sorry.
-/
import Derived.Test.YtpajpjocakhcdaaGreatDoorRows
import GoSem.ClaimSeven
namespace Go.Proofs.YtpajpjocakhcdaaGreatDoor
namespace Rows

/-- THE TIED CARD OF 'periscopelaw10.LensTexts'. -/
def lensTextsCard : Claim7 := { stood := { row := lensTextsRow, standIns := [], harness := (true, "865817b9ed7598f534877b608e18162fc695d1a0c2093cb1ed4846a10792b9eb"), looks := false }, kinds := [], alts := [], laidByText := true, laidKinds := [.data, .data, .data, .data], laidTests := true, laidLooks := .later }
def LensTextsCardSaid : Prop := Claim7.holds Tryz.pinned (.plain (OpenSpec.ofChange lensTextsSpec)) lensTextsCard

/-- THE TIED CARD OF 'periscopelaw10.LensWalks'. -/
def lensWalksCard : Claim7 := { stood := { row := lensWalksRow, standIns := [], harness := (true, "865817b9ed7598f534877b608e18162fc695d1a0c2093cb1ed4846a10792b9eb"), looks := false }, kinds := [], alts := [], laidByText := true, laidKinds := [.data, .data, .data, .data], laidTests := true, laidLooks := .later }
def LensWalksCardSaid : Prop := Claim7.holds Tryz.pinned (.plain (OpenSpec.ofChange lensWalksSpec)) lensWalksCard

/-- THE TIED CARD OF 'periscopelaw10.LensNests'. -/
def lensNestsCard : Claim7 := { stood := { row := lensNestsRow, standIns := [], harness := (true, "865817b9ed7598f534877b608e18162fc695d1a0c2093cb1ed4846a10792b9eb"), looks := false }, kinds := [], alts := [], laidByText := true, laidKinds := [.data, .data, .data, .data], laidTests := true, laidLooks := .later }
def LensNestsCardSaid : Prop := Claim7.holds Tryz.pinned (.plain (OpenSpec.ofChange lensNestsSpec)) lensNestsCard

/-- THE TIED CARD OF 'periscopelaw10.LensSames'. -/
def lensSamesCard : Claim7 := { stood := { row := lensSamesRow, standIns := [], harness := (true, "865817b9ed7598f534877b608e18162fc695d1a0c2093cb1ed4846a10792b9eb"), looks := false }, kinds := [], alts := [], laidByText := true, laidKinds := [.data, .data, .data, .data], laidTests := true, laidLooks := .later }
def LensSamesCardSaid : Prop := Claim7.holds Tryz.pinned (.plain (OpenSpec.ofChange lensSamesSpec)) lensSamesCard

/-- THE TIED CARD OF 'periscopelaw04.TextReads'. -/
def textReadsCard : Claim7 := { stood := { row := textReadsRow, standIns := [], harness := (true, "865817b9ed7598f534877b608e18162fc695d1a0c2093cb1ed4846a10792b9eb"), looks := false }, kinds := [], alts := [], laidByText := true, laidKinds := [.data, .data, .data], laidTests := true, laidLooks := .later }
def TextReadsCardSaid : Prop := Claim7.holds Tryz.pinned (.plain (OpenSpec.ofChange textReadsSpec)) textReadsCard

/-- THE TIED CARD OF 'periscopelaw04.TextBytes'. -/
def textBytesCard : Claim7 := { stood := { row := textBytesRow, standIns := [], harness := (true, "865817b9ed7598f534877b608e18162fc695d1a0c2093cb1ed4846a10792b9eb"), looks := false }, kinds := [], alts := [], laidByText := true, laidKinds := [.data, .data, .data], laidTests := true, laidLooks := .later }
def TextBytesCardSaid : Prop := Claim7.holds Tryz.pinned (.plain (OpenSpec.ofChange textBytesSpec)) textBytesCard

/-- THE TIED CARD OF 'periscopelaw04.TextLevels'. -/
def textLevelsCard : Claim7 := { stood := { row := textLevelsRow, standIns := [], harness := (true, "865817b9ed7598f534877b608e18162fc695d1a0c2093cb1ed4846a10792b9eb"), looks := false }, kinds := [], alts := [], laidByText := true, laidKinds := [.data, .data, .data], laidTests := true, laidLooks := .later }
def TextLevelsCardSaid : Prop := Claim7.holds Tryz.pinned (.plain (OpenSpec.ofChange textLevelsSpec)) textLevelsCard

/-- THE TIED CARD OF 'periscopelaw04.TextErrors'. -/
def textErrorsCard : Claim7 := { stood := { row := textErrorsRow, standIns := [], harness := (true, "865817b9ed7598f534877b608e18162fc695d1a0c2093cb1ed4846a10792b9eb"), looks := false }, kinds := [], alts := [], laidByText := true, laidKinds := [.data, .data, .data], laidTests := true, laidLooks := .later }
def TextErrorsCardSaid : Prop := Claim7.holds Tryz.pinned (.plain (OpenSpec.ofChange textErrorsSpec)) textErrorsCard

/-- THE TIED CARD OF 'periscopelaw04.TextAgain'. -/
def textAgainCard : Claim7 := { stood := { row := textAgainRow, standIns := [], harness := (true, "865817b9ed7598f534877b608e18162fc695d1a0c2093cb1ed4846a10792b9eb"), looks := false }, kinds := [], alts := [], laidByText := true, laidKinds := [.data, .data, .data], laidTests := true, laidLooks := .later }
def TextAgainCardSaid : Prop := Claim7.holds Tryz.pinned (.plain (OpenSpec.ofChange textAgainSpec)) textAgainCard

/-- THE TIED CARD OF 'periscopelaw04.TextDeep'. -/
def textDeepCard : Claim7 := { stood := { row := textDeepRow, standIns := [], harness := (true, "865817b9ed7598f534877b608e18162fc695d1a0c2093cb1ed4846a10792b9eb"), looks := false }, kinds := [], alts := [], laidByText := true, laidKinds := [.data, .data, .data], laidTests := true, laidLooks := .later }
def TextDeepCardSaid : Prop := Claim7.holds Tryz.pinned (.plain (OpenSpec.ofChange textDeepSpec)) textDeepCard

/-- THE SECOND FORM's CARD OF 'periscopelaw10.LensTexts'. -/
def lensTextsUptoCard : Claim7 := { stood := { row := lensTextsUptoRow, standIns := [], harness := (true, "865817b9ed7598f534877b608e18162fc695d1a0c2093cb1ed4846a10792b9eb"), looks := false }, kinds := [], alts := [], laidByText := true, laidKinds := [.data, .data, .data, .data], laidTests := true, laidLooks := .later }
def LensTextsUptoCardSaid : Prop := Claim7.holds Tryz.pinned (.plain (OpenSpec.upto lensTextsSpec)) lensTextsUptoCard

/-- THE SECOND FORM's CARD OF 'periscopelaw10.LensWalks'. -/
def lensWalksUptoCard : Claim7 := { stood := { row := lensWalksUptoRow, standIns := [], harness := (true, "865817b9ed7598f534877b608e18162fc695d1a0c2093cb1ed4846a10792b9eb"), looks := false }, kinds := [], alts := [], laidByText := true, laidKinds := [.data, .data, .data, .data], laidTests := true, laidLooks := .later }
def LensWalksUptoCardSaid : Prop := Claim7.holds Tryz.pinned (.plain (OpenSpec.upto lensWalksSpec)) lensWalksUptoCard

/-- THE SECOND FORM's CARD OF 'periscopelaw10.LensNests'. -/
def lensNestsUptoCard : Claim7 := { stood := { row := lensNestsUptoRow, standIns := [], harness := (true, "865817b9ed7598f534877b608e18162fc695d1a0c2093cb1ed4846a10792b9eb"), looks := false }, kinds := [], alts := [], laidByText := true, laidKinds := [.data, .data, .data, .data], laidTests := true, laidLooks := .later }
def LensNestsUptoCardSaid : Prop := Claim7.holds Tryz.pinned (.plain (OpenSpec.upto lensNestsSpec)) lensNestsUptoCard

/-- THE SECOND FORM's CARD OF 'periscopelaw10.LensSames'. -/
def lensSamesUptoCard : Claim7 := { stood := { row := lensSamesUptoRow, standIns := [], harness := (true, "865817b9ed7598f534877b608e18162fc695d1a0c2093cb1ed4846a10792b9eb"), looks := false }, kinds := [], alts := [], laidByText := true, laidKinds := [.data, .data, .data, .data], laidTests := true, laidLooks := .later }
def LensSamesUptoCardSaid : Prop := Claim7.holds Tryz.pinned (.plain (OpenSpec.upto lensSamesSpec)) lensSamesUptoCard

/-- THE SECOND FORM's CARD OF 'periscopelaw04.TextReads'. -/
def textReadsUptoCard : Claim7 := { stood := { row := textReadsUptoRow, standIns := [], harness := (true, "865817b9ed7598f534877b608e18162fc695d1a0c2093cb1ed4846a10792b9eb"), looks := false }, kinds := [], alts := [], laidByText := true, laidKinds := [.data, .data, .data], laidTests := true, laidLooks := .later }
def TextReadsUptoCardSaid : Prop := Claim7.holds Tryz.pinned (.plain (OpenSpec.upto textReadsSpec)) textReadsUptoCard

/-- THE SECOND FORM's CARD OF 'periscopelaw04.TextBytes'. -/
def textBytesUptoCard : Claim7 := { stood := { row := textBytesUptoRow, standIns := [], harness := (true, "865817b9ed7598f534877b608e18162fc695d1a0c2093cb1ed4846a10792b9eb"), looks := false }, kinds := [], alts := [], laidByText := true, laidKinds := [.data, .data, .data], laidTests := true, laidLooks := .later }
def TextBytesUptoCardSaid : Prop := Claim7.holds Tryz.pinned (.plain (OpenSpec.upto textBytesSpec)) textBytesUptoCard

/-- THE SECOND FORM's CARD OF 'periscopelaw04.TextLevels'. -/
def textLevelsUptoCard : Claim7 := { stood := { row := textLevelsUptoRow, standIns := [], harness := (true, "865817b9ed7598f534877b608e18162fc695d1a0c2093cb1ed4846a10792b9eb"), looks := false }, kinds := [], alts := [], laidByText := true, laidKinds := [.data, .data, .data], laidTests := true, laidLooks := .later }
def TextLevelsUptoCardSaid : Prop := Claim7.holds Tryz.pinned (.plain (OpenSpec.upto textLevelsSpec)) textLevelsUptoCard

/-- THE SECOND FORM's CARD OF 'periscopelaw04.TextErrors'. -/
def textErrorsUptoCard : Claim7 := { stood := { row := textErrorsUptoRow, standIns := [], harness := (true, "865817b9ed7598f534877b608e18162fc695d1a0c2093cb1ed4846a10792b9eb"), looks := false }, kinds := [], alts := [], laidByText := true, laidKinds := [.data, .data, .data], laidTests := true, laidLooks := .later }
def TextErrorsUptoCardSaid : Prop := Claim7.holds Tryz.pinned (.plain (OpenSpec.upto textErrorsSpec)) textErrorsUptoCard

/-- THE SECOND FORM's CARD OF 'periscopelaw04.TextAgain'. -/
def textAgainUptoCard : Claim7 := { stood := { row := textAgainUptoRow, standIns := [], harness := (true, "865817b9ed7598f534877b608e18162fc695d1a0c2093cb1ed4846a10792b9eb"), looks := false }, kinds := [], alts := [], laidByText := true, laidKinds := [.data, .data, .data], laidTests := true, laidLooks := .later }
def TextAgainUptoCardSaid : Prop := Claim7.holds Tryz.pinned (.plain (OpenSpec.upto textAgainSpec)) textAgainUptoCard

/-- THE SECOND FORM's CARD OF 'periscopelaw04.TextDeep'. -/
def textDeepUptoCard : Claim7 := { stood := { row := textDeepUptoRow, standIns := [], harness := (true, "865817b9ed7598f534877b608e18162fc695d1a0c2093cb1ed4846a10792b9eb"), looks := false }, kinds := [], alts := [], laidByText := true, laidKinds := [.data, .data, .data], laidTests := true, laidLooks := .later }
def TextDeepUptoCardSaid : Prop := Claim7.holds Tryz.pinned (.plain (OpenSpec.upto textDeepSpec)) textDeepUptoCard
end Rows
end Go.Proofs.YtpajpjocakhcdaaGreatDoor
