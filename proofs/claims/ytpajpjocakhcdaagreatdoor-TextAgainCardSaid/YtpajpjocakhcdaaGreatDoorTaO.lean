/-
  Shapes that come in as arguments, opened.
-/
import Derived.Test.YtpajpjocakhcdaaGreatDoorTaC
import Derived.Lib.SmallJoins
set_option linter.unusedSimpArgs false
set_option linter.unusedVariables false
set_option maxRecDepth 100000
set_option linter.unnecessarySimpa false
namespace Go.Proofs.YtpajpjocakhcdaaGreatDoor
open Go.ChangeShapes Go.WideShapes Go.RowKit Go.Deep Go.Joins
section
variable {H : Type} {enc : TypeId × Value → H} {P : Program} {w : World} {base : Nat} {spare : Nat → Bool} {held : Bool}
theorem open_five {r : Reach} {b0 : Nat} {t : TypeId} {f0 f1 f2 f3 f4 : Field} {v : Value} {d : DataW H} {p : List MemPlace} (hs : P.underlying t = some (.struct #[f0, f1, f2, f3, f4])) (hone : oneCellFields P #[f0, f1, f2, f3, f4] = true) (hC : P.cellsOf t = 5)
    (hv : Value.okWide P w r b0 t v) (h : DataW.Trod enc P w base spare held t v d p) :
    ∃ (v0 v1 v2 v3 v4 : Value) (y0 y1 y2 y3 y4 : DataW H × List MemPlace) (n : Nat), v = .agg #[v0, v1, v2, v3, v4] ∧
      DataW.trod enc P w base spare held n f0.type [v0] = some y0 ∧ DataW.trod enc P w base spare held n f1.type [v1] = some y1 ∧ DataW.trod enc P w base spare held n f2.type [v2] = some y2 ∧ DataW.trod enc P w base spare held n f3.type [v3] = some y3 ∧ DataW.trod enc P w base spare held n f4.type [v4] = some y4 := by
  obtain ⟨cs, rfl, hsz⟩ := okWide_struct hs hv
  obtain ⟨l⟩ := cs
  match l, hsz.trans hC with
  | [c0, c1, c2, c3, c4], _ =>
    obtain ⟨fuel, hf⟩ := h
    obtain ⟨xs, n, _, hx, _, hlen, hg⟩ := DataW.trod_struct hs hf
    obtain ⟨o0, k0⟩ := hone_of hone 0 f0 rfl
    obtain ⟨o1, k1⟩ := hone_of hone 1 f1 rfl
    obtain ⟨o2, k2⟩ := hone_of hone 2 f2 rfl
    obtain ⟨o3, k3⟩ := hone_of hone 3 f3 rfl
    obtain ⟨o4, k4⟩ := hone_of hone 4 f4 rfl
    match xs, hlen with
    | [y0, y1, y2, y3, y4], _ =>
      exact ⟨c0, c1, c2, c3, c4, y0, y1, y2, y3, y4, n, rfl, by simpa [Value.cells, o0, k0] using hg 0 f0 rfl, by simpa [Value.cells, o1, k1] using hg 1 f1 rfl, by simpa [Value.cells, o2, k2] using hg 2 f2 rfl, by simpa [Value.cells, o3, k3] using hg 3 f3 rfl, by simpa [Value.cells, o4, k4] using hg 4 f4 rfl⟩
end
theorem cShape : Tryz.prog.cellsOf 74 = 5 := by kernel_rfl
theorem flds_shape {H : Type} {enc : TypeId × Value → H} {w : World} {base : Nat} {spare : Nat → Bool} {held : Bool} (n : Nat) (cs : List Value) (hl : cs.length = 4)
    (h0 : ∃ y, DataW.trod enc Tryz.prog w base spare held n 3 [cs.getD 0 undef] = some y) (h1 : ∃ y, DataW.trod enc Tryz.prog w base spare held n 5 [cs.getD 1 undef] = some y)
    (h2 : ∃ y, DataW.trod enc Tryz.prog w base spare held n 5 [cs.getD 2 undef] = some y) (h3 : ∃ y, DataW.trod enc Tryz.prog w base spare held n 9 [cs.getD 3 undef] = some y) : SH.flds cs := by
  obtain ⟨y0, h0⟩ := h0
  obtain ⟨y1, h1⟩ := h1
  obtain ⟨y2, h2⟩ := h2
  obtain ⟨y3, h3⟩ := h3
  obtain ⟨a, a1, _⟩ := DataW.trod_int Tryz.underlying3 h0
  obtain ⟨b, b1, _⟩ := DataW.trod_int Tryz.underlying5 h1
  obtain ⟨c, c1, _⟩ := DataW.trod_int Tryz.underlying5 h2
  obtain ⟨s, s1, _⟩ := DataW.trod_string Tryz.underlying9 h3
  refine ⟨a, b, c, s, ?_⟩
  match cs, hl with
  | [x, y, z, u], _ =>
    simp at a1 b1 c1 s1
    rw [a1, b1, c1, s1]
theorem open_shape {H : Type} {enc : TypeId × Value → H} {w : World} {base : Nat} {spare : Nat → Bool} {held : Bool} {r : Reach} {b0 : Nat} {v : Value} {d : DataW H} {ps : List MemPlace}
    (hv : Value.okWide Tryz.prog w r b0 74 v) (h : DataW.Trod enc Tryz.prog w base spare held 74 v d ps) : ∃ (p : SH) (sv : Value), v = shV p sv ∧ IsSh w sv p.kids := by
  obtain ⟨v0, v1, v2, v3, v4, y0, y1, y2, y3, y4, n, rfl, h0, h1, h2, h3, h4⟩ := open_five Tryz.underlying74 (by kernel_rfl) cShape hv h
  obtain ⟨a, e0, -, _⟩ := DataW.trod_int Tryz.underlying3 h0
  obtain ⟨b, e1, -, _⟩ := DataW.trod_int Tryz.underlying5 h1
  obtain ⟨c, e2, -, _⟩ := DataW.trod_int Tryz.underlying5 h2
  obtain ⟨s, e3, _⟩ := DataW.trod_string Tryz.underlying9 h3
  simp at e0 e1 e2 e3
  subst e0 e1 e2 e3
  obtain ⟨ks, hk1, hk2⟩ := open_rose (k := 4) Tryz.underlying72 Tryz.underlying74 (by kernel_rfl) cShape rfl SH.flds ⟨_, rfl, rfl⟩ (fun n cs hl hf => flds_shape n cs hl (hf 0 _ (by omega) rfl) (hf 1 _ (by omega) rfl) (hf 2 _ (by omega) rfl) (hf 3 _ (by omega) rfl)) n v4 y4 h4
  obtain ⟨l, rfl⟩ := SH.of_roses ks ((Rose.okRs_iff _ _).2 hk2)
  exact ⟨SH.node a b c s l, v4, rfl, hk1⟩
end Go.Proofs.YtpajpjocakhcdaaGreatDoor
