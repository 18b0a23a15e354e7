/-
  The lexer's law: the head.
-/
import Derived.Test.YticpjjmacmmpjaaGreatDoorLxA
import Derived.Test.YticpjjmacmmpjaaGreatDoorLxE
import Derived.Test.YticpjjmacmmpjaaGreatDoorReU
import Derived.Test.YticpjjmacmmpjaaGreatDoorReWord
import Derived.Deep.RegionHeld3
set_option linter.unusedSimpArgs false
set_option linter.unusedVariables false
set_option maxRecDepth 100000
set_option linter.unnecessarySimpa false
namespace Go.Proofs.YticpjjmacmmpjaaGreatDoor
open Go.RowKit
theorem head_same : sameB (some (RE.node 2 (BS.none.add 97) [])) (some (RE.wordL [97])) = true := by kernel_rfl
theorem lens_one {W : World} {v : Value} (h : IsReO W v none) : v = .pointer none := h
theorem eq_nilp (W : World) : (Op.equalIn 9999 37 (.pointer none) (.pointer none)).run Tryz.prog W = .ok true W := by kernel_rfl
structure HdAt (w : World) (g : Nat) (po : Option Addr) (R1 : RE) (W : World) : Prop where
  bel : Below w.heap.size w W
  c1 : W.cell? ⟨g, 1, none⟩ = some (.string ⟨#[99, 111, 112, 121]⟩)
  c4 : W.cell? ⟨g, 4, none⟩ = some (.int .i64 4)
  c6 : W.cell? ⟨g, 6, none⟩ = some (.pointer po)
  c8 : W.cell? ⟨g, 8, none⟩ = some (.int .i64 0)
  c9 : W.cell? ⟨g, 9, none⟩ = some (.string ⟨#[]⟩)
  c10 : W.cell? ⟨g, 10, none⟩ = some (.pointer none)
  c11 : W.cell? ⟨g, 11, none⟩ = some (.int .i64 8)
  re : IsReO W (.pointer po) (some R1)
theorem HdAt.later {w : World} {g : Nat} {po : Option Addr} {R1 : RE} {W W' : World} (h : HdAt w g po R1 W) (hb : Below W.heap.size W W') : HdAt w g po R1 W' :=
  ⟨ext_step h.bel hb, (hb.cell (p := ⟨g, 1, none⟩) (World.block_lt_of_cell? W _ h.c1)).trans h.c1, (hb.cell (p := ⟨g, 4, none⟩) (World.block_lt_of_cell? W _ h.c4)).trans h.c4, (hb.cell (p := ⟨g, 6, none⟩) (World.block_lt_of_cell? W _ h.c6)).trans h.c6, (hb.cell (p := ⟨g, 8, none⟩) (World.block_lt_of_cell? W _ h.c8)).trans h.c8, (hb.cell (p := ⟨g, 9, none⟩) (World.block_lt_of_cell? W _ h.c9)).trans h.c9, (hb.cell (p := ⟨g, 10, none⟩) (World.block_lt_of_cell? W _ h.c10)).trans h.c10, (hb.cell (p := ⟨g, 11, none⟩) (World.block_lt_of_cell? W _ h.c11)).trans h.c11, h.re.later hb⟩
theorem HdAt.conj {w : World} {g : Nat} {po : Option Addr} {R1 : RE} {W' : World} (h : HdAt w g po R1 W') : W'.cell? ⟨g, 1, none⟩ = some (.string ⟨#[99, 111, 112, 121]⟩) ∧ W'.cell? ⟨g, 4, none⟩ = some (.int .i64 4) ∧ W'.cell? ⟨g, 6, none⟩ = some (.pointer po) ∧ W'.cell? ⟨g, 8, none⟩ = some (.int .i64 0) ∧ W'.cell? ⟨g, 9, none⟩ = some (.string ⟨#[]⟩) ∧ W'.cell? ⟨g, 10, none⟩ = some (.pointer none) ∧ W'.cell? ⟨g, 11, none⟩ = some (.int .i64 8) := ⟨h.c1, h.c4, h.c6, h.c8, h.c9, h.c10, h.c11⟩
set_option maxRecDepth 100000 in
set_option maxHeartbeats 1600000 in
theorem lxHead_any (w : World) (hT : Tab w) : Calls Tryz.prog 15 #[] w fun e w' => e = .returned (.bool true) ∧ Below w.heap.size w w' := by
  have HA := Lib.hid (lxAll_any w LX.headT hT (by decide))
  rw [LX.head_lex] at HA
  have HWD : Hid (∀ W, Calls Tryz.prog 49 #[.string ⟨#[97]⟩] W fun e w' => ∃ b, e = .returned (ptr b) ∧ IsRe w' b (RE.wordL [97]) ∧ Below W.heap.size W w') := fun W => Word_any [97] (by decide) W
  have HSM := Lib.hid (fun W v v' (h : IsReO W v (some (RE.node 2 (BS.none.add 97) []))) (h' : IsReO W v' (some (RE.wordL [97]))) => Same_any v v' _ _ W h h')
  rw [head_same] at HSM
  have ht : LX.headT = [99, 111, 112, 121, 32, 47, 97, 47] := rfl
  rw [ht] at HA
  generalize RE.node 2 (BS.none.add 97) [] = R1 at *
  generalize RE.wordL [97] = R2 at *
  clear ht hT
  go_enter Tryz.func15, Tryz.ntmps15
  go_wp2_with fail
  refine HA.out.mono ?_
  rintro e w1 ⟨v, rfl, htk, hb⟩
  obtain ⟨tvs, htv, hown, hre⟩ := htk
  match tvs, htv, hown, hre with
  | [x0, x1, x2], htv, hown, hre =>
  obtain ⟨t0, r0⟩ := x0
  obtain ⟨t1, r1⟩ := x1
  obtain ⟨t2, r2⟩ := x2
  simp only [List.map_cons, List.map_nil, List.cons.injEq, and_true] at htv
  obtain ⟨rfl, rfl, rfl⟩ := htv
  have h0 : r0 = .pointer none := hre _ (List.mem_cons_self ..)
  have h2 : r2 = .pointer none := hre _ (List.mem_cons_of_mem _ (List.mem_cons_of_mem _ (List.mem_cons_self ..)))
  have h1 : IsReO w1 r1 (some R1) := hre _ (List.mem_cons_of_mem _ (List.mem_cons_self ..))
  subst h0 h2
  obtain ⟨po, rfl⟩ := reO_ptr h1
  obtain ⟨g, cap, rfl, _, _⟩ := hown.form (by show 0 < 3; decide)
  have hcell := fun j hj => hown.cellAt j hj
  have HB := Lib.hid hb
  have HR1 := Lib.hid h1
  clear hb h1 hre hown
  have c1 := hcell 1 (by show 1 < 3 * 4; decide)
  have c4 := hcell 4 (by show 4 < 3 * 4; decide)
  have c6 := hcell 6 (by show 6 < 3 * 4; decide)
  have c8 := hcell 8 (by show 8 < 3 * 4; decide)
  have c9 := hcell 9 (by show 9 < 3 * 4; decide)
  have c10 := hcell 10 (by show 10 < 3 * 4; decide)
  have c11 := hcell 11 (by show 11 < 3 * 4; decide)
  simp [cellsT] at c1 c4 c6 c8 c9 c10 c11
  have HBX : HdAt w g po R1 w1 := ⟨HB.out, c1, c4, c6, c8, c9, c10, c11, HR1.out⟩
  clear hcell HA HB HR1 c1 c4 c6 c8 c9 c10 c11
  go_wp2_with fail
  replace HBX := HBX.later (Below.refl _ _).drew
  have hep := eq_nilp
  go_region_held3 (fun W' => W'.cell? ⟨g, 1, none⟩ = some (.string ⟨#[99, 111, 112, 121]⟩) ∧ W'.cell? ⟨g, 4, none⟩ = some (.int .i64 4) ∧ W'.cell? ⟨g, 6, none⟩ = some (.pointer po) ∧ W'.cell? ⟨g, 8, none⟩ = some (.int .i64 0) ∧ W'.cell? ⟨g, 9, none⟩ = some (.string ⟨#[]⟩) ∧ W'.cell? ⟨g, 10, none⟩ = some (.pointer none) ∧ W'.cell? ⟨g, 11, none⟩ = some (.int .i64 8)) (exact HBX.conj) (((first | (go_at_call 49; refine (HWD.out _).mono ?_; rintro e W ⟨b2, rfl, hr2, hb2⟩; replace HBX := HBX.later hb2; have HR2 : IsReO W (ptr b2) (some R2) := ⟨b2, rfl, hr2⟩; clear hb2 hr2) | (go_at_call 21; refine (HSM.out _ _ _ HBX.re HR2).mono ?_; rintro e W ⟨rfl, rfl⟩))))
  all_goals (
    go_wp2_with fail
    go_ret
    exact ⟨rfl, HBX.bel⟩)
end Go.Proofs.YticpjjmacmmpjaaGreatDoor
