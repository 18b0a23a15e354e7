/-
  Plans that come in as arguments, opened.
-/
import Derived.Test.YtpajpjocakhcdaaGreatDoorLnP
import Derived.Lib.SmallJoins
set_option linter.unusedSimpArgs false
set_option linter.unusedVariables false
set_option maxRecDepth 100000
set_option linter.unnecessarySimpa false
namespace Go.Proofs.YtpajpjocakhcdaaGreatDoor
open Go.ChangeShapes Go.WideShapes Go.RowKit Go.Deep Go.Joins
theorem cPlan : Tryz.prog.cellsOf 24 = 4 := by kernel_rfl
theorem flds_plan {H : Type} {enc : TypeId × Value → H} {w : World} {base : Nat} {spare : Nat → Bool} {held : Bool} (n : Nat) (cs : List Value) (hl : cs.length = 3)
    (h : ∀ j, j < 3 → ∃ y, DataW.trod enc Tryz.prog w base spare held n 3 [cs.getD j undef] = some y) : PL.flds cs := by
  have key : ∀ j, j < 3 → ∃ x : Int, cs.getD j undef = .int .i64 x ∧ (Lit.int .i64 x).wf = true := fun j hj => by
    obtain ⟨y, hy⟩ := h j hj
    obtain ⟨x, e1, _, e3⟩ := DataW.trod_int Tryz.underlying3 hy
    exact ⟨x, by simpa using e1, e3⟩
  obtain ⟨a, a1, a2⟩ := key 0 (by omega)
  obtain ⟨b, b1, b2⟩ := key 1 (by omega)
  obtain ⟨c, c1, c2⟩ := key 2 (by omega)
  refine ⟨a, b, c, ?_, a2, b2, c2⟩
  match cs, hl with
  | [x, y, z], _ =>
    simp at a1 b1 c1
    rw [a1, b1, c1]
theorem open_plan {H : Type} {enc : TypeId × Value → H} {w : World} {base : Nat} {spare : Nat → Bool} {held : Bool} {r : Reach} {b0 : Nat} {v : Value} {d : DataW H} {ps : List MemPlace}
    (hv : Value.okWide Tryz.prog w r b0 24 v) (h : DataW.Trod enc Tryz.prog w base spare held 24 v d ps) : ∃ (p : PL) (sv : Value), v = plV p sv ∧ IsPl w sv p.kids := by
  obtain ⟨v0, v1, v2, v3, y0, y1, y2, y3, n, rfl, -, -, h0, h1, h2, h3⟩ := open_agg4 Tryz.underlying24 (by kernel_rfl) cPlan hv h
  obtain ⟨a, e0, -, _⟩ := DataW.trod_int Tryz.underlying3 h0
  obtain ⟨b, e1, -, _⟩ := DataW.trod_int Tryz.underlying3 h1
  obtain ⟨c, e2, -, _⟩ := DataW.trod_int Tryz.underlying3 h2
  simp at e0 e1 e2
  subst e0 e1 e2
  obtain ⟨ks, hk1, hk2⟩ := open_rose (k := 3) Tryz.underlying22 Tryz.underlying24 (by kernel_rfl) cPlan rfl PL.flds ⟨_, rfl, rfl⟩ (fun n cs hl hf => flds_plan n cs hl fun j hj => by
    match j, hj with
    | 0, _ => exact hf 0 _ (by omega) rfl
    | 1, _ => exact hf 1 _ (by omega) rfl
    | 2, _ => exact hf 2 _ (by omega) rfl) n v3 y3 h3
  obtain ⟨l, rfl, _⟩ := PL.of_roses ks ((Rose.okRs_iff _ _).2 hk2)
  exact ⟨PL.node a b c l, v3, rfl, hk1⟩
end Go.Proofs.YtpajpjocakhcdaaGreatDoor
