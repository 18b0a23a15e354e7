/-
  The expression of one byte as it is written, walked through the program.
-/
import Derived.Test.YticpjjmacmmpjaaGreatDoorLnQ
import Derived.Test.YticpjjmacmmpjaaGreatDoorSetT
import Derived.Test.YticpjjmacmmpjaaGreatDoorReM
set_option linter.unusedSimpArgs false
set_option linter.unusedVariables false
set_option maxRecDepth 100000
set_option linter.unnecessarySimpa false
namespace Go.Proofs.YticpjjmacmmpjaaGreatDoor
open Go.RowKit
theorem SetAt0 (w : World) (s0 s1 s2 s3 : BitVec 64) (w1 : World) (hb : Below (w.alloc (.cells #[.int .u64 (wN s0), .int .u64 (wN s1), .int .u64 (wN s2), .int .u64 (wN s3)] 112)).heap.size (w.alloc (.cells #[.int .u64 (wN s0), .int .u64 (wN s1), .int .u64 (wN s2), .int .u64 (wN s3)] 112)) w1) : w1.cell? ⟨w.heap.size, 0, none⟩ = some (.int .u64 (wN s0)) ∧ w1.cell? ⟨w.heap.size, 1, none⟩ = some (.int .u64 (wN s1)) ∧ w1.cell? ⟨w.heap.size, 2, none⟩ = some (.int .u64 (wN s2)) ∧ w1.cell? ⟨w.heap.size, 3, none⟩ = some (.int .u64 (wN s3)) := by
  have h : w1.heap[w.heap.size]? = some (.cells #[.int .u64 (wN s0), .int .u64 (wN s1), .int .u64 (wN s2), .int .u64 (wN s3)] 112) := (hb.block _ (by simp)).trans (heap_alloc_last _ _)
  refine ⟨?_, ?_, ?_, ?_⟩ <;> (rw [cell_of_row _ _ _ _ _ _ h]; rfl)
set_option maxRecDepth 100000 in
set_option maxHeartbeats 2000000 in
theorem class_one (s0 s1 s2 s3 : BitVec 64) (x : Nat) (hx : x < 256) (hl : (⟨s0, s1, s2, s3⟩ : BS).len = 1) (hle : (⟨s0, s1, s2, s3⟩ : BS).least = x) (w : World) (hT : Tab w) :
    Calls Tryz.prog 58 #[.agg #[.int .u64 (wN s0), .int .u64 (wN s1), .int .u64 (wN s2), .int .u64 (wN s3)]] w fun e w' => e = .returned (.string ⟨(byteW x).toArray⟩) ∧ Below w.heap.size w w' := by
  have HT := Lib.hid (hT.alloc (.cells #[.int .u64 (wN s0), .int .u64 (wN s1), .int .u64 (wN s2), .int .u64 (wN s3)] 112))
  have HLE := Lib.hid hle
  have HL := Lib.hid hl
  clear hT hle hl
  have hc := SetAt0 w s0 s1 s2 s3
  go_enter Tryz.func58, Tryz.ntmps58
  go_wp2_with fail
  refine (Least_any s0 s1 s2 s3 _ HT.out).mono ?_
  rintro e w1 ⟨rfl, hb1⟩
  rw [HLE.out]
  generalize decide ((⟨s0, s1, s2, s3⟩ : BS) ≠ BS.none) = d
  obtain ⟨c0, c1, c2, c3⟩ := hc w1 hb1
  have hB1 : Below w.heap.size w w1 := by repeat (first | exact Below.refl _ _ | assumption | refine Below.drew ?_ | refine ext_drewN ?_ _ | refine ext_alloc ?_ _ | refine Below.setCell ?_ (by (try simp only [World.size_alloc, World.size_setCell, World.size_drew]); omega) _ | refine ext_step ?_ (by assumption))
  clear hb1
  go_wp2_with fail
  refine (Len_any s0 s1 s2 s3 _).mono ?_
  rintro e w2 ⟨rfl, rfl⟩
  rw [HL.out]
  go_wp2_with fail
  refine (Byte_any x hx _).mono ?_
  rintro e w3 ⟨rfl, hb3⟩
  have hB3 : Below w.heap.size w w3 := by repeat (first | exact Below.refl _ _ | assumption | refine Below.drew ?_ | refine ext_drewN ?_ _ | refine ext_alloc ?_ _ | refine Below.setCell ?_ (by (try simp only [World.size_alloc, World.size_setCell, World.size_drew]); omega) _ | refine ext_step ?_ (by assumption))
  go_wp2_with fail
  go_ret
  exact ⟨rfl, hB3⟩
set_option maxRecDepth 100000 in
set_option maxHeartbeats 2000000 in
theorem Of_one (s0 s1 s2 s3 : BitVec 64) (x : Nat) (hx : x < 256) (hl : (⟨s0, s1, s2, s3⟩ : BS).len = 1) (hle : (⟨s0, s1, s2, s3⟩ : BS).least = x) (b : Nat) (w : World) (hT : Tab w) (hb : IsRe w b (RE.node 2 ⟨s0, s1, s2, s3⟩ [])) :
    Calls Tryz.prog 24 #[.pointer (some ⟨b, 0, none⟩)] w fun e w' => e = .returned (.string ⟨(byteW x).toArray⟩) ∧ Below w.heap.size w w' := by
  have HC := Lib.hid (class_one s0 s1 s2 s3 x hx hl hle w hT)
  clear hl hle hT
  obtain ⟨kp1, cap1, bs1, hnode, _, _⟩ := hb.open
  have h0 : w.cell? ⟨b, 0, none⟩ = some (.int .i64 2) := by rw [cell_of_row _ _ _ _ _ _ hnode]; rfl
  have h1 : w.cell? ⟨b, 1, none⟩ = some (.int .u64 (wN s0)) := by rw [cell_of_row _ _ _ _ _ _ hnode]; rfl
  have h2 : w.cell? ⟨b, 2, none⟩ = some (.int .u64 (wN s1)) := by rw [cell_of_row _ _ _ _ _ _ hnode]; rfl
  have h3 : w.cell? ⟨b, 3, none⟩ = some (.int .u64 (wN s2)) := by rw [cell_of_row _ _ _ _ _ _ hnode]; rfl
  have h4 : w.cell? ⟨b, 4, none⟩ = some (.int .u64 (wN s3)) := by rw [cell_of_row _ _ _ _ _ _ hnode]; rfl
  clear hnode hb
  go_enter Tryz.func24, Tryz.ntmps24
  go_wp2_with fail
  refine HC.out.mono ?_
  rintro e w1 ⟨rfl, hb1⟩
  go_wp2_with fail
  go_ret
  exact ⟨rfl, hb1⟩
end Go.Proofs.YticpjjmacmmpjaaGreatDoor
