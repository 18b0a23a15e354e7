/-
  What the listed variable's datum gives the walks: the library's table of 64 small numbers lies as its initialiser lays it.
-/
import Derived.Test.YtampjjllpdljaaaDoorSetT
import Derived.Test.YtampjjllpdljaaaDoorRows
import Derived.Test.YtampjjllpdljaaaDoorTie
import Derived.ProofKit
import Derived.LaidMore
import Derived.OpenShut
import Derived.Stop.Joined
set_option linter.unusedSimpArgs false
set_option linter.unusedVariables false
set_option maxRecDepth 100000
namespace Go.Proofs.YtampjjllpdljaaaDoor
open Go.ChangeShapes Go.WideShapes Go.ChangeAt Go.WideMaps Go.WideElems Go.RowKit

abbrev tabLaid : List (String × DataW Unit) := [("math/bits.deBruijn64tab", Rows.laid_math_bits_deBruijn64tab)]
theorem gTab : Tryd.prog.globalNamed "math/bits.deBruijn64tab" = some (Tryd.lays29_ren.g 1) := by kernel_rfl
theorem door_met (os : Os) (args : Array Value) : laidMetH Tryd.prog tabLaid ((World.doorLaid Tryd.prog 400 os).forCall (fun _ _ => 0) ⟨#[], args, []⟩).memory :=
  laidMetH_of_parts3 (fuel := 8) (laidMet_of_run' 8 (by kernel_rfl) (by kernel_rfl)) (by kernel_rfl) (by kernel_rfl)
theorem tTab : (Tryd.prog.globals[Tryd.lays29_ren.g 1]?).map (·.type) = some 55 := by kernel_rfl
theorem cTab : Tryd.prog.cellsOf 5 = 1 := by kernel_rfl
theorem lTab : (Rows.laid_math_bits_deBruijn64tab : DataW Unit) = .agg (Lib.deBruijn64tab.map fun (n : Nat) => .lit (.int .u8 (n : Int))) := by kernel_rfl
theorem of_laid {W : World} (h : laidMetH Tryd.prog tabLaid W) : Tab W := by
  rw [MakeChecks.laidMetH_plain _ _ _ (by kernel_rfl)] at h
  obtain ⟨ps, ⟨g0, t0, cs0, f0, p0, q0, hg0, ht0, hv0, hd0, _⟩, _, _⟩ := h
  obtain rfl := Option.some.inj (gTab.symm.trans hg0)
  obtain rfl := Option.some.inj (tTab.symm.trans ht0)
  rw [lTab] at hd0
  obtain ⟨xs, m, rfl, hx, hlen, hn, hel⟩ := DataW.trod_array Tryd.underlying55 hd0
  simp only [Prod.mk.injEq, DataW.agg.injEq] at hx
  intro j hj
  have hj64 : j < 64 := hj
  have h0 := hel j hj64
  rw [cTab, Nat.mul_one, List.getElem?_eq_getElem (by omega)] at h0
  obtain ⟨n, e1, e2, _⟩ := DataW.trod_int Tryd.underlying5 h0
  have hm := congrArg (fun l => l[j]?) hx.1
  simp only [List.getElem?_map] at hm
  rw [List.getElem?_eq_getElem (show j < xs.length by omega), List.getElem?_eq_getElem hj] at hm
  simp only [Option.map_some, Option.some.injEq] at hm
  rw [e2] at hm
  simp only [DataW.lit.injEq, Lit.int.injEq, true_and] at hm
  rw [World.var?_cell hg0 hv0 j]
  have e3 := congrArg (fun l => l[0]?) e1
  simp only [List.getElem?_take, List.getElem?_drop] at e3
  simp at e3
  rw [e3, ← hm, List.getD_eq_getElem?_getD, List.getElem?_eq_getElem hj]
  rfl
end Go.Proofs.YtampjjllpdljaaaDoor
