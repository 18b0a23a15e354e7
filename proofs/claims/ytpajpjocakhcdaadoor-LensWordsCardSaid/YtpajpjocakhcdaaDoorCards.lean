/-
  DERIVED. GIVEN WITH THE SEED: THE CARDS: each row of YtpajpjocakhcdaaDoorRows.lean that lists a variable, with what it lists TIED to the program's text (the seventh form; the later family's looks); each row that meets fmt, with fmt's text TOLD by the authors' own Lean function (tested against real Go, not proved from fmt's source: count such statements apart). THE CARD IS WHAT COUNTS. Prove the row's statement (the work); the ties are given (YtpajpjocakhcdaaDoorTie.lean); close each card by the builder's one call (the guide's Derived/Test/ToyasCard.lean, 'card_holds'). Laid BY PROGRAM, IN A SANDBOX (cutbox-door.mjs). By AI agents, Wed Nov 11 2026. No macro, syntax, notation, axiom, sorry.
-/
import Derived.Test.YtpajpjocakhcdaaDoorRows
import GoSem.ClaimSeven
namespace Go.Proofs.YtpajpjocakhcdaaDoor
namespace Rows

/-- THE TIED CARD OF 'periscopelaw10.LensWords'. -/
def lensWordsCard : Claim7 := { stood := { row := lensWordsRow, standIns := [], harness := (true, "69986b00d71de80f734e7c07622dd0bae2ea4cbf7a33146f211e9125bd632ef2"), looks := false }, kinds := [], alts := [], laidByText := true, laidKinds := [.data, .data, .data, .data], laidTests := true, laidLooks := .later }
def LensWordsCardSaid : Prop := Claim7.holds Tryd.pinned (.plain (OpenSpec.ofChange lensWordsSpec)) lensWordsCard

/-- THE SECOND FORM's CARD OF 'periscopelaw10.LensWords'. -/
def lensWordsUptoCard : Claim7 := { stood := { row := lensWordsUptoRow, standIns := [], harness := (true, "69986b00d71de80f734e7c07622dd0bae2ea4cbf7a33146f211e9125bd632ef2"), looks := false }, kinds := [], alts := [], laidByText := true, laidKinds := [.data, .data, .data, .data], laidTests := true, laidLooks := .later }
def LensWordsUptoCardSaid : Prop := Claim7.holds Tryd.pinned (.plain (OpenSpec.upto lensWordsSpec)) lensWordsUptoCard
end Rows
end Go.Proofs.YtpajpjocakhcdaaDoor
