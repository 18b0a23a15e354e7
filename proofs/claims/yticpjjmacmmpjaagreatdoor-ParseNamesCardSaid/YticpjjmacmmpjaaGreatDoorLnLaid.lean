/-
  What the listed variables' data give the walks: the library's table and the ops' words lie as their initialisers lay them.
-/
import Derived.Test.YticpjjmacmmpjaaGreatDoorLnT
import Derived.Test.YticpjjmacmmpjaaGreatDoorSetT
import Derived.Test.YticpjjmacmmpjaaGreatDoorRows
import Derived.Test.YticpjjmacmmpjaaGreatDoorTie
import Derived.ProofKit
import Derived.LaidMore
import Derived.OpenShut
import Derived.Stop.Joined
set_option linter.unusedSimpArgs false
set_option linter.unusedVariables false
set_option maxRecDepth 100000
set_option linter.unnecessarySimpa false
namespace Go.Proofs.YticpjjmacmmpjaaGreatDoor
open Go.ChangeShapes Go.WideShapes Go.ChangeAt Go.WideMaps Go.WideElems Go.RowKit

abbrev allLaid : List (String × DataW Unit) := [("math/bits.deBruijn32tab", Rows.laid_math_bits_deBruijn32tab), ("math/bits.deBruijn64tab", Rows.laid_math_bits_deBruijn64tab), ("internal/strconv.uint64pow10", Rows.laid_internal_strconv_uint64pow10), ("periscope/lens.words", Rows.laid_periscope_lens_words)]
theorem gTab : Tryz.prog.globalNamed "math/bits.deBruijn64tab" = some (Tryz.lays29_ren.g 1) := by kernel_rfl
theorem door_met (os : Os) (args : Array Value) : laidMetH Tryz.prog allLaid ((World.doorLaid Tryz.prog 400 os).forCall (fun _ _ => 0) ⟨#[], args, []⟩).memory :=
  laidMetH_of_parts3 (fuel := 8) (laidMet_of_run' 8 (by kernel_rfl) (by kernel_rfl)) (by kernel_rfl) (by kernel_rfl)
theorem tTab : (Tryz.prog.globals[Tryz.lays29_ren.g 1]?).map (·.type) = some 193 := by kernel_rfl
theorem cTab : Tryz.prog.cellsOf 5 = 1 := by kernel_rfl
theorem lTab : (Rows.laid_math_bits_deBruijn64tab : DataW Unit) = .agg (Lib.deBruijn64tab.map fun (n : Nat) => .lit (.int .u8 (n : Int))) := by kernel_rfl
theorem gWo : Tryz.prog.globalNamed "periscope/lens.words" = some 0 := by kernel_rfl
theorem tWo : (Tryz.prog.globals[0]?).map (·.type) = some 183 := by kernel_rfl
theorem cWo : Tryz.prog.cellsOf 9 = 1 := by kernel_rfl
theorem lWo : (Rows.laid_periscope_lens_words : DataW Unit) = .agg (opWords.map fun l => .lit (.string l)) := by kernel_rfl
theorem of_laid {W : World} (h : laidMetH Tryz.prog allLaid W) : Tab W ∧ WordsAt W := by
  rw [MakeChecks.laidMetH_plain _ _ _ (by kernel_rfl)] at h
  obtain ⟨ps, ⟨g0, t0, cs0, f0, p0, q0, hg0, ht0, hv0, hd0, ⟨g1, t1, cs1, f1, p1, q1, hg1, ht1, hv1, hd1, ⟨g2, t2, cs2, f2, p2, q2, hg2, ht2, hv2, hd2, ⟨g3, t3, cs3, f3, p3, q3, hg3, ht3, hv3, hd3, _⟩, _⟩, _⟩, _⟩, h2, h3⟩ := h
  clear h2 h3 hg0 ht0 hv0 hd0 hg2 ht2 hv2 hd2
  constructor
  · obtain rfl := Option.some.inj (gTab.symm.trans hg1)
    obtain rfl := Option.some.inj (tTab.symm.trans ht1)
    rw [lTab] at hd1
    obtain ⟨xs, m, rfl, hx, hlen, hn, hel⟩ := DataW.trod_array Tryz.underlying193 hd1
    simp only [Prod.mk.injEq, DataW.agg.injEq] at hx
    intro j hj
    have hj64 : j < 64 := hj
    have h0 := hel j hj64
    rw [cTab, Nat.mul_one, List.getElem?_eq_getElem (by omega)] at h0
    obtain ⟨n, e1, e2, _⟩ := DataW.trod_int Tryz.underlying5 h0
    have hm := congrArg (fun l => l[j]?) hx.1
    simp only [List.getElem?_map] at hm
    rw [List.getElem?_eq_getElem (show j < xs.length by omega), List.getElem?_eq_getElem hj] at hm
    simp only [Option.map_some, Option.some.injEq] at hm
    rw [e2] at hm
    simp only [DataW.lit.injEq, Lit.int.injEq, true_and] at hm
    rw [World.var?_cell hg1 hv1 j]
    have e3 := congrArg (fun l => l[0]?) e1
    simp only [List.getElem?_take, List.getElem?_drop] at e3
    simp at e3
    rw [e3, ← hm, List.getD_eq_getElem?_getD, List.getElem?_eq_getElem hj]
    rfl
  · obtain rfl := Option.some.inj (gWo.symm.trans hg3)
    obtain rfl := Option.some.inj (tWo.symm.trans ht3)
    rw [lWo] at hd3
    obtain ⟨xs, m, rfl, hx, hlen, hn, hel⟩ := DataW.trod_array Tryz.underlying183 hd3
    simp only [Prod.mk.injEq, DataW.agg.injEq] at hx
    intro j hj
    have h0 := hel j hj
    rw [cWo, Nat.mul_one, List.getElem?_eq_getElem (by omega)] at h0
    obtain ⟨n, e1, e2, _⟩ := DataW.trod_string Tryz.underlying9 h0
    have hjo : j < opWords.length := hj
    have hm := congrArg (fun l => l[j]?) hx.1
    simp only [List.getElem?_map] at hm
    rw [List.getElem?_eq_getElem (show j < xs.length by omega), List.getElem?_eq_getElem hjo] at hm
    simp only [Option.map_some, Option.some.injEq] at hm
    rw [e2] at hm
    simp only [DataW.lit.injEq, Lit.string.injEq] at hm
    rw [World.var?_cell hg3 hv3 j]
    have e3 := congrArg (fun l => l[0]?) e1
    simp only [List.getElem?_take, List.getElem?_drop] at e3
    simp at e3
    rw [e3, List.getD_eq_getElem?_getD, List.getElem?_eq_getElem hjo, Option.getD_some, hm]
end Go.Proofs.YticpjjmacmmpjaaGreatDoor
