/-
  What a set that comes in as an argument looks like: four words.
-/
import Derived.Test.YtpajpjocakhcdaaGreatDoorSetP
import Derived.Test.YtpajpjocakhcdaaGreatDoorRows
import Derived.ProofKit
import Derived.OpenShut
import Derived.ShutString
import Derived.ChangeOld
import Derived.Below
import Derived.Lib.SmallJoins
set_option linter.unusedSimpArgs false
set_option linter.unusedVariables false
set_option maxRecDepth 100000
set_option linter.unnecessarySimpa false
namespace Go.Proofs.YtpajpjocakhcdaaGreatDoor
open Go.ChangeShapes Go.WideShapes Go.ChangeAt Go.RowKit

theorem own : ownKnob Tryz.prog.godebug = none := by kernel_rfl
theorem laidOut : laidOutB Tryz.prog = true := by kernel_rfl
theorem undS : Tryz.prog.underlying 54 = some (.array 4 52) := by kernel_rfl
theorem cellsW : Tryz.prog.cellsOf 52 = 1 := by kernel_rfl
theorem cellsS : Tryz.prog.cellsOf 54 = 4 := by kernel_rfl
theorem undW : Tryz.prog.underlying 52 = some (.int .u64) := by kernel_rfl

theorem word_of {n : Int} (h : (Lit.int .u64 n).wf = true) : ∃ x : BitVec 64, n = wN x := by
  have hb := bounds_u64 h
  refine ⟨BitVec.ofNat 64 n.toNat, ?_⟩
  unfold wN
  rw [BitVec.toNat_ofNat, Nat.mod_eq_of_lt (by omega)]
  omega
theorem open_set {H : Type} {enc : TypeId × Value → H} {W : World} {base : Nat} {spare : Nat → Bool} {held : Bool} {b0 : Nat} {v : Value} {d : DataW H} {p : List MemPlace}
    (hv : Value.okWide Tryz.prog W .any b0 54 v) (h : DataW.Trod enc Tryz.prog W base spare held 54 v d p) :
    ∃ a0 a1 a2 a3 : BitVec 64, v = .agg #[.int .u64 (wN a0), .int .u64 (wN a1), .int .u64 (wN a2), .int .u64 (wN a3)] := by
  obtain ⟨cs, rfl, hsz, _⟩ : ∃ cs, v = .agg cs ∧ cs.size = Tryz.prog.cellsOf 54 ∧ Row.okWide Tryz.prog W .any b0 54 cs := by
    simpa [Value.okWide, undS] using hv
  rw [cellsS] at hsz
  obtain ⟨c0, c1, c2, c3, rfl⟩ := Go.Joins.array4 hsz
  obtain ⟨fuel, hf⟩ := h
  obtain ⟨xs, m, _, ex, hlen, hl, hel⟩ := DataW.trod_array undS hf
  have g : ∀ i, i < 4 → ∃ y, xs[i]? = some y := fun i hi => ⟨xs[i]'(by omega), List.getElem?_eq_getElem (by omega)⟩
  obtain ⟨y0, g0⟩ := g 0 (by omega); obtain ⟨y1, g1⟩ := g 1 (by omega); obtain ⟨y2, g2⟩ := g 2 (by omega); obtain ⟨y3, g3⟩ := g 3 (by omega)
  have h0 := hel 0 (by omega); have h1 := hel 1 (by omega); have h2 := hel 2 (by omega); have h3 := hel 3 (by omega)
  rw [g0] at h0; rw [g1] at h1; rw [g2] at h2; rw [g3] at h3
  simp only [cellsW, Value.cells] at h0 h1 h2 h3
  obtain ⟨n0, e0, _, w0⟩ := DataW.trod_int undW h0
  obtain ⟨n1, e1, _, w1⟩ := DataW.trod_int undW h1
  obtain ⟨n2, e2, _, w2⟩ := DataW.trod_int undW h2
  obtain ⟨n3, e3, _, w3⟩ := DataW.trod_int undW h3
  simp at e0 e1 e2 e3
  subst e0 e1 e2 e3
  obtain ⟨x0, rfl⟩ := word_of w0; obtain ⟨x1, rfl⟩ := word_of w1; obtain ⟨x2, rfl⟩ := word_of w2; obtain ⟨x3, rfl⟩ := word_of w3
  exact ⟨x0, x1, x2, x3, rfl⟩
end Go.Proofs.YtpajpjocakhcdaaGreatDoor
