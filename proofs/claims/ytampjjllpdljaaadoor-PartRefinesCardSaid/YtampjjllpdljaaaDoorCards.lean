/-
  DERIVED. GIVEN WITH THE SEED: THE CARDS: each row of YtampjjllpdljaaaDoorRows.lean that lists a variable, with what it lists TIED to the program's text (the seventh form; the later family's looks); each row that meets fmt, with fmt's text TOLD by the authors' own Lean function (tested against real Go, not proved from fmt's source: count such statements apart). THE CARD IS WHAT COUNTS. Prove the row's statement (the work); the ties are given (YtampjjllpdljaaaDoorTie.lean); close each card by the builder's one call (the guide's Derived/Test/ToyasCard.lean, 'card_holds'). Laid BY PROGRAM, IN A SANDBOX (cutbox-door.mjs). By AI agents, Wed Nov 11 2026. No macro, syntax, notation, axiom, sorry.
-/
import Derived.Test.YtampjjllpdljaaaDoorRows
import GoSem.ClaimSeven
namespace Go.Proofs.YtampjjllpdljaaaDoor
namespace Rows

/-- THE TIED CARD OF 'periscopelaw01.SetOps'. -/
def setOpsCard : Claim7 := { stood := { row := setOpsRow, standIns := [], harness := (true, "1192934098413d19fa8ae6154ecf9969bad805dae2f33a89697c7886cfbc9742"), looks := false }, kinds := [], alts := [], laidByText := true, laidKinds := [.data], laidTests := true, laidLooks := .later }
def SetOpsCardSaid : Prop := Claim7.holds Tryd.pinned (.plain (OpenSpec.ofChange setOpsSpec)) setOpsCard

/-- THE TIED CARD OF 'periscopelaw02.PartRefines'. -/
def partRefinesCard : Claim7 := { stood := { row := partRefinesRow, standIns := [], harness := (true, "1192934098413d19fa8ae6154ecf9969bad805dae2f33a89697c7886cfbc9742"), looks := false }, kinds := [], alts := [], laidByText := true, laidKinds := [.data], laidTests := true, laidLooks := .later }
def PartRefinesCardSaid : Prop := Claim7.holds Tryd.pinned (.plain (OpenSpec.ofChange partRefinesSpec)) partRefinesCard

/-- THE SECOND FORM's CARD OF 'periscopelaw01.SetOps'. -/
def setOpsUptoCard : Claim7 := { stood := { row := setOpsUptoRow, standIns := [], harness := (true, "1192934098413d19fa8ae6154ecf9969bad805dae2f33a89697c7886cfbc9742"), looks := false }, kinds := [], alts := [], laidByText := true, laidKinds := [.data], laidTests := true, laidLooks := .later }
def SetOpsUptoCardSaid : Prop := Claim7.holds Tryd.pinned (.plain (OpenSpec.upto setOpsSpec)) setOpsUptoCard

/-- THE SECOND FORM's CARD OF 'periscopelaw02.PartRefines'. -/
def partRefinesUptoCard : Claim7 := { stood := { row := partRefinesUptoRow, standIns := [], harness := (true, "1192934098413d19fa8ae6154ecf9969bad805dae2f33a89697c7886cfbc9742"), looks := false }, kinds := [], alts := [], laidByText := true, laidKinds := [.data], laidTests := true, laidLooks := .later }
def PartRefinesUptoCardSaid : Prop := Claim7.holds Tryd.pinned (.plain (OpenSpec.upto partRefinesSpec)) partRefinesUptoCard
end Rows
end Go.Proofs.YtampjjllpdljaaaDoor
