/-
  No cell of these rows narrows 'for every input' (looked for: loops, veiled, ifaces, maps, wideKeys, modest, calm, conditions, laid).
  DERIVED. THE GIVEN ROWS OF THIS SEAT. 5 by the template 'for every input the law returns true; each argument reads behind the call as it read before'; 0 by the template 'total and deterministic' (their statements: YtampjjllpdljaaaTotals.lean).
  GIVEN WITH THE SEED: the statements are not yours to turn. If you find one false, say at which input.
  Laid BY PROGRAM, IN A SANDBOX (cutbox-rows.mjs): the forced cells as the released guide's own fill.sh prints them over the translation 2f339e4319e6f61c… (all of the seat's roots in one cut). By AI agents, Wed Nov 11 2026. No macro, syntax, notation, axiom, sorry.
-/
import Derived.Test.YtampjjllpdljaaaChecked
import GoSem.Claim
import GoSem.ClaimJoined
import GoSem.ClaimMapViews
import Derived.JoinedTies
import Derived.KernelRfl
namespace Go.Proofs.Ytampjjllpdljaaa
/- THE CELL 'sum', in the pinned program and in every row, IS THE sha256 OF THE DUMP (.gsa) THAT YtampjjllpdljaaaProg.lean LOADS. Nothing in Lean hashes anything: it is a label: what it is worth is what the hold of that sum in a sandbox is worth. -/
noncomputable def Try.pinned : Pinned := { name := "ytampjjllpdljaaa", sum := "2f339e4319e6f61c91a9b101213534c2287b056db64527c6b0972f1f765cad7a", checked := Try.checked }
namespace Rows
def none {H : Type} : Left H := { results := [], args := [] }

/-- 'periscopelaw01.SetLaws': WHATEVER THE INPUT: true; the input reads as it did. -/
def setLawsSpec : ChangeSpec := { name := "setLaws", fn := fun _ => fun
  | [d1, d2, d3] => { results := [.lit (.bool true)], args := [d1, d2, d3] }
  | _ => none }
def setLawsRow : OpenClaim := { program := "ytampjjllpdljaaa", sum := "2f339e4319e6f61c91a9b101213534c2287b056db64527c6b0972f1f765cad7a", func := "periscope/periscopelaw01.SetLaws", spec := "setLaws", unfollowed := true, recurses := true, apart := false }
def SetLawsSaid : Prop := setLawsRow.holds Try.pinned (OpenSpec.ofChange setLawsSpec)

/-- ITS FALSE NEIGHBOUR: 'it returns false'. Refute it at one input. -/
def setLawsWrong : ChangeSpec := { name := "setLaws", fn := fun _ => fun
  | [d1, d2, d3] => { results := [.lit (.bool false)], args := [d1, d2, d3] }
  | _ => none }
def SetLawsWrongFalsely : Prop := setLawsRow.holds Try.pinned (OpenSpec.ofChange setLawsWrong)

/-- 'periscopelaw01.SetMakes': WHATEVER THE INPUT: true; the input reads as it did. -/
def setMakesSpec : ChangeSpec := { name := "setMakes", fn := fun _ => fun
  | [d1, d2, d3] => { results := [.lit (.bool true)], args := [d1, d2, d3] }
  | _ => none }
def setMakesRow : OpenClaim := { program := "ytampjjllpdljaaa", sum := "2f339e4319e6f61c91a9b101213534c2287b056db64527c6b0972f1f765cad7a", func := "periscope/periscopelaw01.SetMakes", spec := "setMakes", unfollowed := true, recurses := true, apart := false }
def SetMakesSaid : Prop := setMakesRow.holds Try.pinned (OpenSpec.ofChange setMakesSpec)

/-- ITS FALSE NEIGHBOUR: 'it returns false'. Refute it at one input. -/
def setMakesWrong : ChangeSpec := { name := "setMakes", fn := fun _ => fun
  | [d1, d2, d3] => { results := [.lit (.bool false)], args := [d1, d2, d3] }
  | _ => none }
def SetMakesWrongFalsely : Prop := setMakesRow.holds Try.pinned (OpenSpec.ofChange setMakesWrong)

/-- 'periscopelaw01.SetRuns': WHATEVER THE INPUT: true; the input reads as it did. -/
def setRunsSpec : ChangeSpec := { name := "setRuns", fn := fun _ => fun
  | [d1, d2] => { results := [.lit (.bool true)], args := [d1, d2] }
  | _ => none }
def setRunsRow : OpenClaim := { program := "ytampjjllpdljaaa", sum := "2f339e4319e6f61c91a9b101213534c2287b056db64527c6b0972f1f765cad7a", func := "periscope/periscopelaw01.SetRuns", spec := "setRuns", unfollowed := true, recurses := true, apart := false }
def SetRunsSaid : Prop := setRunsRow.holds Try.pinned (OpenSpec.ofChange setRunsSpec)

/-- ITS FALSE NEIGHBOUR: 'it returns false'. Refute it at one input. -/
def setRunsWrong : ChangeSpec := { name := "setRuns", fn := fun _ => fun
  | [d1, d2] => { results := [.lit (.bool false)], args := [d1, d2] }
  | _ => none }
def SetRunsWrongFalsely : Prop := setRunsRow.holds Try.pinned (OpenSpec.ofChange setRunsWrong)

/-- 'periscopelaw02.PartOrders': WHATEVER THE INPUT: true; the input reads as it did. -/
def partOrdersSpec : ChangeSpec := { name := "partOrders", fn := fun _ => fun
  | [d1, d2] => { results := [.lit (.bool true)], args := [d1, d2] }
  | _ => none }
def partOrdersRow : OpenClaim := { program := "ytampjjllpdljaaa", sum := "2f339e4319e6f61c91a9b101213534c2287b056db64527c6b0972f1f765cad7a", func := "periscope/periscopelaw02.PartOrders", spec := "partOrders", unfollowed := true, recurses := true, apart := false }
def PartOrdersSaid : Prop := partOrdersRow.holds Try.pinned (OpenSpec.ofChange partOrdersSpec)

/-- ITS FALSE NEIGHBOUR: 'it returns false'. Refute it at one input. -/
def partOrdersWrong : ChangeSpec := { name := "partOrders", fn := fun _ => fun
  | [d1, d2] => { results := [.lit (.bool false)], args := [d1, d2] }
  | _ => none }
def PartOrdersWrongFalsely : Prop := partOrdersRow.holds Try.pinned (OpenSpec.ofChange partOrdersWrong)

/-- 'periscopelaw02.PartIndexes': WHATEVER THE INPUT: true; the input reads as it did. -/
def partIndexesSpec : ChangeSpec := { name := "partIndexes", fn := fun _ => fun
  | [d] => { results := [.lit (.bool true)], args := [d] }
  | _ => none }
def partIndexesRow : OpenClaim := { program := "ytampjjllpdljaaa", sum := "2f339e4319e6f61c91a9b101213534c2287b056db64527c6b0972f1f765cad7a", func := "periscope/periscopelaw02.PartIndexes", spec := "partIndexes", unfollowed := true, recurses := true, apart := false }
def PartIndexesSaid : Prop := partIndexesRow.holds Try.pinned (OpenSpec.ofChange partIndexesSpec)

/-- ITS FALSE NEIGHBOUR: 'it returns false'. Refute it at one input. -/
def partIndexesWrong : ChangeSpec := { name := "partIndexes", fn := fun _ => fun
  | [d] => { results := [.lit (.bool false)], args := [d] }
  | _ => none }
def PartIndexesWrongFalsely : Prop := partIndexesRow.holds Try.pinned (OpenSpec.ofChange partIndexesWrong)

/- THE SECOND FORM. 'bulk': how many values and letters a reading holds, each counted each time it is reached (what is shared counts as often as it is met; a slice's spare places count too). A statement '..UptoSaid' is the law's where the arguments, and the package variables that the reading takes, are together of bulk at most 1048576: NARROWER than '..Said'. Prove '..Said' where nothing that the law and all that it calls make is longer than what came in: it says more and counts as full. Else prove '..UptoSaid'. A law counts once. -/
mutual
def uptoBulk {H : Type} : DataW H → Nat
  | .lit (.string bytes) => bytes.length + 1
  | .lit _ => 1
  | .nil => 1
  | .ptr d => uptoBulk d + 1
  | .slice elems spare => uptoBulkAll elems + uptoBulkAll spare + 1
  | .agg parts => uptoBulkAll parts + 1
  | .iface _ d => uptoBulk d + 1
  | .map entries => uptoBulkEntries entries + 1
  | .held _ => 1
def uptoBulkAll {H : Type} : List (DataW H) → Nat
  | [] => 0
  | d :: r => uptoBulk d + uptoBulkAll r
def uptoBulkEntries {H : Type} : List (Lit × DataW H) → Nat
  | [] => 0
  | x :: r => uptoBulkEntry x + uptoBulkEntries r
def uptoBulkEntry {H : Type} : Lit × DataW H → Nat
  | (.string bytes, d) => bytes.length + uptoBulk d + 1
  | (_, d) => uptoBulk d + 1
 end
def uptoSmall : (H : Type) → List (DataW H) → Bool := fun _ ds => decide (uptoBulkAll ds ≤ 1048576)
def OpenSpec.upto (s : _root_.Go.ChangeSpec) : _root_.Go.OpenSpec := { _root_.Go.OpenSpec.ofChange s with cond := some uptoSmall }

/-- 'periscopelaw01.SetLaws', WHERE WHAT IT READS IS OF BULK AT MOST 1048576: true; the input reads as it did. -/
def setLawsUptoRow : OpenClaim := { program := "ytampjjllpdljaaa", sum := "2f339e4319e6f61c91a9b101213534c2287b056db64527c6b0972f1f765cad7a", func := "periscope/periscopelaw01.SetLaws", spec := "setLaws", unfollowed := true, recurses := true, apart := false, narrowed := true }
def SetLawsUptoSaid : Prop := setLawsUptoRow.holds Try.pinned (OpenSpec.upto setLawsSpec)

/-- 'periscopelaw01.SetMakes', WHERE WHAT IT READS IS OF BULK AT MOST 1048576: true; the input reads as it did. -/
def setMakesUptoRow : OpenClaim := { program := "ytampjjllpdljaaa", sum := "2f339e4319e6f61c91a9b101213534c2287b056db64527c6b0972f1f765cad7a", func := "periscope/periscopelaw01.SetMakes", spec := "setMakes", unfollowed := true, recurses := true, apart := false, narrowed := true }
def SetMakesUptoSaid : Prop := setMakesUptoRow.holds Try.pinned (OpenSpec.upto setMakesSpec)

/-- 'periscopelaw01.SetRuns', WHERE WHAT IT READS IS OF BULK AT MOST 1048576: true; the input reads as it did. -/
def setRunsUptoRow : OpenClaim := { program := "ytampjjllpdljaaa", sum := "2f339e4319e6f61c91a9b101213534c2287b056db64527c6b0972f1f765cad7a", func := "periscope/periscopelaw01.SetRuns", spec := "setRuns", unfollowed := true, recurses := true, apart := false, narrowed := true }
def SetRunsUptoSaid : Prop := setRunsUptoRow.holds Try.pinned (OpenSpec.upto setRunsSpec)

/-- 'periscopelaw02.PartOrders', WHERE WHAT IT READS IS OF BULK AT MOST 1048576: true; the input reads as it did. -/
def partOrdersUptoRow : OpenClaim := { program := "ytampjjllpdljaaa", sum := "2f339e4319e6f61c91a9b101213534c2287b056db64527c6b0972f1f765cad7a", func := "periscope/periscopelaw02.PartOrders", spec := "partOrders", unfollowed := true, recurses := true, apart := false, narrowed := true }
def PartOrdersUptoSaid : Prop := partOrdersUptoRow.holds Try.pinned (OpenSpec.upto partOrdersSpec)

/-- 'periscopelaw02.PartIndexes', WHERE WHAT IT READS IS OF BULK AT MOST 1048576: true; the input reads as it did. -/
def partIndexesUptoRow : OpenClaim := { program := "ytampjjllpdljaaa", sum := "2f339e4319e6f61c91a9b101213534c2287b056db64527c6b0972f1f765cad7a", func := "periscope/periscopelaw02.PartIndexes", spec := "partIndexes", unfollowed := true, recurses := true, apart := false, narrowed := true }
def PartIndexesUptoSaid : Prop := partIndexesUptoRow.holds Try.pinned (OpenSpec.upto partIndexesSpec)

end Rows
end Go.Proofs.Ytampjjllpdljaaa
