/-
  LexReads, walked through the program.
-/
import Derived.Test.YticpjjmacmmpjaaGreatDoorLxH
import Derived.Test.YticpjjmacmmpjaaGreatDoorLxR
import Derived.Test.YticpjjmacmmpjaaGreatDoorTbG
import Derived.Deep.DeepCutAuto
set_option linter.unusedSimpArgs false
set_option linter.unusedVariables false
set_option maxRecDepth 100000
set_option linter.unnecessarySimpa false
namespace Go.Proofs.YticpjjmacmmpjaaGreatDoor
open Go.RowKit
abbrev lt0 : LT := ⟨0, [], none, 0⟩
/-- the tokens, as a loop over them reads them -/
structure TkRow (W : World) (g : Nat) (out : List LT) : Prop where
  c0 : ∀ i, i < out.length → W.cell? ⟨g, i * 4, none⟩ = some (.int .i64 ((out.getD i lt0).kind : Nat))
  c1 : ∀ i, i < out.length → W.cell? ⟨g, i * 4 + 1, none⟩ = some (.string ⟨(out.getD i lt0).text.toArray⟩)
  c2 : ∀ i, i < out.length → ∃ v, W.cell? ⟨g, i * 4 + 2, none⟩ = some v ∧ IsReO W v (out.getD i lt0).re
  c3 : ∀ i, i < out.length → W.cell? ⟨g, i * 4 + 3, none⟩ = some (.int .i64 ((out.getD i lt0).at_ : Nat))
theorem flat_at : ∀ (tvs : List (LT × Value)) (i k : Nat), i < tvs.length → k < 4 → (tvs.flatMap cellsT)[i * 4 + k]? = (cellsT (tvs.getD i (lt0, .pointer none)))[k]?
  | [], i, k, h, _ => by simp at h
  | x :: tvs, 0, k, _, hk => by
    rw [List.flatMap_cons, List.getElem?_append_left (by show 0 * 4 + k < 4; omega)]; simp
  | x :: tvs, i + 1, k, h, hk => by
    rw [List.flatMap_cons, List.getElem?_append_right (by show 4 ≤ (i + 1) * 4 + k; omega)]
    have e : (i + 1) * 4 + k - (cellsT x).length = i * 4 + k := by show (i + 1) * 4 + k - 4 = _; omega
    rw [e, flat_at tvs i k (by simpa using h) hk]
    simp [List.getD]
theorem TkRow.of {W : World} {base g cap n : Nat} {out : List LT} (h : ToksAt base (.slice (some ⟨g, 0, none⟩) n cap) out W) : TkRow W g out ∧ n = out.length := by
  obtain ⟨tvs, rfl, hown, hre⟩ := h
  have hl : (tvs.map Prod.fst).length = tvs.length := List.length_map ..
  have hn : n = (tvs.map Prod.fst).length := by
    rcases hown.2 with ⟨e, _⟩ | ⟨g', cap', cur, e, _⟩
    · cases e
    · injection e
  subst hn
  have hg : ∀ i, i < (tvs.map Prod.fst).length → (tvs.map Prod.fst).getD i lt0 = (tvs.getD i (lt0, .pointer none)).1 := fun i hi => by
    simp [List.getD, List.getElem?_map, show i < tvs.length by omega]
  have hc : ∀ i k, i < (tvs.map Prod.fst).length → k < 4 → W.cell? ⟨g, i * 4 + k, none⟩ = (cellsT (tvs.getD i (lt0, .pointer none)))[k]? := fun i k hi hk => by
    rw [hown.cellAt (i * 4 + k) (by omega), flat_at tvs i k (by omega) hk]
  refine ⟨⟨fun i hi => ?_, fun i hi => ?_, fun i hi => ?_, fun i hi => ?_⟩, rfl⟩
  · rw [hg i hi]; exact hc i 0 hi (by omega)
  · rw [hg i hi]; exact hc i 1 hi (by omega)
  · rw [hg i hi]
    refine ⟨(tvs.getD i (lt0, .pointer none)).2, hc i 2 hi (by omega), hre _ ?_⟩
    have : i < tvs.length := by omega
    simp only [List.getD, List.getElem?_eq_getElem this, Option.getD_some]
    exact List.getElem_mem this
  · rw [hg i hi]; exact hc i 3 hi (by omega)
theorem TkRow.later {W W' : World} {g : Nat} {out : List LT} (h : TkRow W g out) (hb : Below W.heap.size W W') : TkRow W' g out :=
  ⟨fun i hi => (hb.cell (p := ⟨g, i * 4, none⟩) (World.block_lt_of_cell? W _ (h.c0 i hi))).trans (h.c0 i hi),
   fun i hi => (hb.cell (p := ⟨g, i * 4 + 1, none⟩) (World.block_lt_of_cell? W _ (h.c1 i hi))).trans (h.c1 i hi),
   fun i hi => by
    obtain ⟨v, h1, h2⟩ := h.c2 i hi
    exact ⟨v, (hb.cell (p := ⟨g, i * 4 + 2, none⟩) (World.block_lt_of_cell? W _ h1)).trans h1, h2.later hb⟩,
   fun i hi => (hb.cell (p := ⟨g, i * 4 + 3, none⟩) (World.block_lt_of_cell? W _ (h.c3 i hi))).trans (h.c3 i hi)⟩
end Go.Proofs.YticpjjmacmmpjaaGreatDoor
