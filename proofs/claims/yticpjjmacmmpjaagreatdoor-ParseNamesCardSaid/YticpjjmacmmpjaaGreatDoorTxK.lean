/-
  A set as it is written, walked through the program.
-/
import Derived.Test.YticpjjmacmmpjaaGreatDoorTxC
import Derived.Test.YticpjjmacmmpjaaGreatDoorLnQ
import Derived.Test.YticpjjmacmmpjaaGreatDoorSetX
import Derived.Test.YticpjjmacmmpjaaGreatDoorMix
set_option linter.unusedSimpArgs false
set_option linter.unusedVariables false
set_option maxRecDepth 100000
set_option linter.unnecessarySimpa false
namespace Go.Proofs.YticpjjmacmmpjaaGreatDoor
open Go.RowKit
attribute [local go_sem] Oper.semAt_some wide_fn wide_depth
def runW (r : Rn) : List UInt8 := byteW r.a ++ (if r.a < r.b then 45 :: byteW r.b else [])
def runsW (l : List Rn) : List UInt8 := l.flatMap runW
def notS (s : BS) : BS := ⟨~~~s.a, ~~~s.b, ~~~s.c, ~~~s.d⟩
def setW (s : BS) : List UInt8 := if 128 < s.len then [91, 94] ++ runsW (notS s).runs ++ [93] else [91] ++ runsW s.runs ++ [93]
/-- a set as it is written -/
def classW (s : BS) : List UInt8 := if s.len = 1 then byteW s.least else if s = BS.all then [46] else setW s
theorem runsW_len (l : List Rn) : (runsW l).length ≤ 9 * l.length := by
  induction l with
  | nil => simp [runsW]
  | cons r l ih =>
    have h1 := byteW_len r.a
    have h2 := byteW_len r.b
    have h3 : (runW r).length ≤ 9 := by unfold runW; split <;> simp <;> omega
    simp only [runsW, List.flatMap_cons, List.length_append, List.length_cons] at *
    omega
/-- in a round of the loop: the text put together so far -/
structure OutAt (w S : World) (B out : Nat) (W W' : World) (l : List UInt8) : Prop where
  ko : KeepsOthers W W'
  kb : KeepB B W W'
  c : W'.cell? ⟨out, 0, none⟩ = some (.string ⟨l.toArray⟩)
  f : W'.frozen? ⟨out, 0, none⟩ = false
  bw : Below w.heap.size w W'
  b0 : Below 0 S W'
theorem OutAt.call {w S : World} {B out : Nat} {W W' W'' : World} {l : List UInt8} (h : OutAt w S B out W W' l) (hB : B < W.heap.size) (hb : Below W'.heap.size W' W'') : OutAt w S B out W W'' l :=
  have ho := World.block_lt_of_cell? W' _ h.c
  ⟨h.ko.trans ⟨hb.size, fun k o hk _ => (hb.block k (Array.getElem?_eq_some_iff.1 hk).1).trans hk⟩, h.kb.step hB hb, (hb.cell (p := ⟨out, 0, none⟩) ho).trans h.c, (hb.frozen (p := ⟨out, 0, none⟩) ho).trans h.f, ext_step h.bw hb, h.b0.trans (hb.mono (Nat.zero_le _))⟩
theorem OutAt.put {w S : World} {B out : Nat} {W W' : World} {l : List UInt8} (h : OutAt w S B out W W' l) (hB : B ≠ out) (ho : w.heap.size ≤ out) (l2 : List UInt8) : OutAt w S B out W (W'.setCell ⟨out, 0, none⟩ (.string ⟨l2.toArray⟩)) l2 :=
  ⟨h.ko.trans (KeepsOthers.setCell _ _ _), h.kb.setCell hB _, World.cell?_setCell_same' _ _ _ (by rw [h.c]; rfl), by rw [World.frozen?_setCell]; exact h.f, h.bw.setCell ho _, h.b0.setCell (Nat.zero_le _) _⟩
theorem all_words (s0 s1 s2 s3 : BitVec 64) : (wN s0 == wN fullW && (wN s1 == wN fullW && (wN s2 == wN fullW && wN s3 == wN fullW))) = decide ((⟨s0, s1, s2, s3⟩ : BS) = BS.all) := by
  rw [wN_beq, wN_beq, wN_beq, wN_beq]
  simp [BS.all, Bool.decide_and]
set_option maxRecDepth 100000 in
set_option maxHeartbeats 4000000 in
theorem class_all (s0 s1 s2 s3 : BitVec 64) (hl : (⟨s0, s1, s2, s3⟩ : BS).len ≠ 1) (ha : (⟨s0, s1, s2, s3⟩ : BS) = BS.all) (w : World) (hT : Tab w) :
    Calls Tryz.prog 58 #[.agg #[.int .u64 (wN s0), .int .u64 (wN s1), .int .u64 (wN s2), .int .u64 (wN s3)]] w fun e w' => e = .returned (.string ⟨#[46]⟩) ∧ Below w.heap.size w w' := by
  have HT := Lib.hid (hT.alloc (.cells #[.int .u64 (wN s0), .int .u64 (wN s1), .int .u64 (wN s2), .int .u64 (wN s3)] 112))
  have hl' : ((((⟨s0, s1, s2, s3⟩ : BS).len : Nat) : Int) == 1) = false := by rw [beq_eq_false_iff_ne]; omega
  have haw := all_words s0 s1 s2 s3
  rw [decide_eq_true ha] at haw
  have heq := fun w => eq_words (wN s0) (wN s1) (wN s2) (wN s3) (wN fullW) (wN fullW) (wN fullW) (wN fullW) w
  rw [haw] at heq
  clear hT hl ha haw
  have hc := SetAt0 w s0 s1 s2 s3
  have hlt : w.heap.size < (w.alloc (.cells #[.int .u64 (wN s0), .int .u64 (wN s1), .int .u64 (wN s2), .int .u64 (wN s3)] 112)).heap.size := by simp
  have hle := ext_alloc (Below.refl w.heap.size w) (.cells #[.int .u64 (wN s0), .int .u64 (wN s1), .int .u64 (wN s2), .int .u64 (wN s3)] 112)
  go_enter Tryz.func58, Tryz.ntmps58
  go_wp2_with fail
  refine (Least_any s0 s1 s2 s3 _ HT.out).mono ?_
  rintro e w1 ⟨rfl, hb1⟩
  generalize decide ((⟨s0, s1, s2, s3⟩ : BS) ≠ BS.none) = d
  generalize (⟨s0, s1, s2, s3⟩ : BS).least = lst
  have hB1 : Below (w.alloc (.cells #[.int .u64 (wN s0), .int .u64 (wN s1), .int .u64 (wN s2), .int .u64 (wN s3)] 112)).heap.size (w.alloc (.cells #[.int .u64 (wN s0), .int .u64 (wN s1), .int .u64 (wN s2), .int .u64 (wN s3)] 112)) w1 := hb1
  obtain ⟨c0, c1, c2, c3⟩ := hc w1 hB1
  clear hb1
  go_wp2_with fail
  refine (Len_any s0 s1 s2 s3 _).mono ?_
  rintro e w2 ⟨rfl, rfl⟩
  generalize (⟨s0, s1, s2, s3⟩ : BS).len = ln at *
  have hB2 : Below (w.alloc (.cells #[.int .u64 (wN s0), .int .u64 (wN s1), .int .u64 (wN s2), .int .u64 (wN s3)] 112)).heap.size (w.alloc (.cells #[.int .u64 (wN s0), .int .u64 (wN s1), .int .u64 (wN s2), .int .u64 (wN s3)] 112)) (w1.alloc (.cells #[.int .u64 (wN s0), .int .u64 (wN s1), .int .u64 (wN s2), .int .u64 (wN s3)] 112)) := ext_alloc hB1 _
  have hSl : ∀ W', Below (w.alloc (.cells #[.int .u64 (wN s0), .int .u64 (wN s1), .int .u64 (wN s2), .int .u64 (wN s3)] 112)).heap.size (w.alloc (.cells #[.int .u64 (wN s0), .int .u64 (wN s1), .int .u64 (wN s2), .int .u64 (wN s3)] 112)) W' → BoxS W' w.heap.size ⟨s0, s1, s2, s3⟩ := fun W' hb => hc W' hb
  have HC := Lib.hid hSl
  clear hc c0 c1 c2 c3 hB1
  generalize w1.alloc (.cells #[.int .u64 (wN s0), .int .u64 (wN s1), .int .u64 (wN s2), .int .u64 (wN s3)] 112) = W1 at *
  clear hSl
  have hS0 : BoxS W1.drew w.heap.size ⟨s0, s1, s2, s3⟩ := HC.out _ hB2.drew
  have cs : ∀ p : InC (fun W' => BoxS W' w.heap.size ⟨s0, s1, s2, s3⟩), p.w.cell? ⟨w.heap.size, 0, none⟩ = some (.int .u64 (wN s0)) ∧ p.w.cell? ⟨w.heap.size, 1, none⟩ = some (.int .u64 (wN s1)) ∧ p.w.cell? ⟨w.heap.size, 2, none⟩ = some (.int .u64 (wN s2)) ∧ p.w.cell? ⟨w.heap.size, 3, none⟩ = some (.int .u64 (wN s3)) := fun p => p.h
  have hne : Nonempty (InC (fun W' => BoxS W' w.heap.size ⟨s0, s1, s2, s3⟩)) := ⟨⟨_, hS0⟩⟩
  go_wp2_with fail
  refine wp_region_mix (fun W' => BoxS W' w.heap.size ⟨s0, s1, s2, s3⟩) [0, 2] [0, 1, 2] (by kernel_rfl) (by kernel_rfl) hS0 ?_
  (repeat (refine wpMix_read rfl rfl ?_; go_big_quiet_step (fail); refine wpQuiet_nil ?_))
  refine wpMix_eff (k := true) rfl rfl (by kernel_rfl) ?_
  go_wp2_with fail
  refine (All_any _).mono ?_
  rintro e w3 ⟨rfl, hb3⟩
  have hB3 := ext_step hB2.drew hb3
  go_wp2_with fail
  refine mixPost_keep (HC.out _ hB3) ?_
  (repeat (refine wpMix_read rfl rfl ?_; go_big_quiet_step (fail); refine wpQuiet_nil ?_))
  refine wpMix_nil ?_
  have hB4 : Below w.heap.size w w3 := hle.trans (hB3.mono (by simp))
  go_wp2_with fail
  go_ret
  exact ⟨rfl, hB4⟩
set_option maxRecDepth 100000 in
set_option maxHeartbeats 4000000 in
theorem class_runs (s0 s1 s2 s3 : BitVec 64) (hl : (⟨s0, s1, s2, s3⟩ : BS).len ≠ 1) (ha : (⟨s0, s1, s2, s3⟩ : BS) ≠ BS.all) (w : World) (hT : Tab w) :
    Calls Tryz.prog 58 #[.agg #[.int .u64 (wN s0), .int .u64 (wN s1), .int .u64 (wN s2), .int .u64 (wN s3)]] w fun e w' => e = .returned (.string ⟨(setW ⟨s0, s1, s2, s3⟩).toArray⟩) ∧ Below w.heap.size w w' := by
  have HT := Lib.hid (hT.alloc (.cells #[.int .u64 (wN s0), .int .u64 (wN s1), .int .u64 (wN s2), .int .u64 (wN s3)] 112))
  have hl' : ((((⟨s0, s1, s2, s3⟩ : BS).len : Nat) : Int) == 1) = false := by rw [beq_eq_false_iff_ne]; omega
  have haw := all_words s0 s1 s2 s3
  rw [decide_eq_false ha] at haw
  have heq := fun w => eq_words (wN s0) (wN s1) (wN s2) (wN s3) (wN fullW) (wN fullW) (wN fullW) (wN fullW) w
  rw [haw] at heq
  have HW : Hid (setW ⟨s0, s1, s2, s3⟩ = if 128 < (⟨s0, s1, s2, s3⟩ : BS).len then [91, 94] ++ runsW (notS ⟨s0, s1, s2, s3⟩).runs ++ [93] else [91] ++ runsW (⟨s0, s1, s2, s3⟩ : BS).runs ++ [93]) := rfl
  generalize setW ⟨s0, s1, s2, s3⟩ = out at *
  clear hT hl ha haw
  have hc := SetAt0 w s0 s1 s2 s3
  have hlt : w.heap.size < (w.alloc (.cells #[.int .u64 (wN s0), .int .u64 (wN s1), .int .u64 (wN s2), .int .u64 (wN s3)] 112)).heap.size := by simp
  have hle := ext_alloc (Below.refl w.heap.size w) (.cells #[.int .u64 (wN s0), .int .u64 (wN s1), .int .u64 (wN s2), .int .u64 (wN s3)] 112)
  refine (callsIn_wide (n := 5)).1 ?_
  refine callsIn_of_wp_marks Tryz.func58 rfl trivial ?_ rfl
  simp only [Tryz.ntmps58, List.size_toArray, List.length_cons, List.length_nil, Nat.reduceAdd, Nat.reduceSub, Array.replicate_succ, Array.replicate_zero, List.push_toArray, List.append_toArray, List.nil_append, List.cons_append]
  gi_wp2_with fail
  refine (callsIn_wide.2 (Least_any s0 s1 s2 s3 _ HT.out)).mono ?_
  rintro e w1 ⟨rfl, hb1⟩
  generalize decide ((⟨s0, s1, s2, s3⟩ : BS) ≠ BS.none) = d
  generalize (⟨s0, s1, s2, s3⟩ : BS).least = lst
  have hB1 : Below (w.alloc (.cells #[.int .u64 (wN s0), .int .u64 (wN s1), .int .u64 (wN s2), .int .u64 (wN s3)] 112)).heap.size (w.alloc (.cells #[.int .u64 (wN s0), .int .u64 (wN s1), .int .u64 (wN s2), .int .u64 (wN s3)] 112)) w1 := hb1
  obtain ⟨c0, c1, c2, c3⟩ := hc w1 hB1
  clear hb1
  gi_wp2_with fail
  refine (callsIn_wide.2 (Len_any s0 s1 s2 s3 _)).mono ?_
  rintro e w2 ⟨rfl, rfl⟩
  have hB2 : Below (w.alloc (.cells #[.int .u64 (wN s0), .int .u64 (wN s1), .int .u64 (wN s2), .int .u64 (wN s3)] 112)).heap.size (w.alloc (.cells #[.int .u64 (wN s0), .int .u64 (wN s1), .int .u64 (wN s2), .int .u64 (wN s3)] 112)) (w1.alloc (.cells #[.int .u64 (wN s0), .int .u64 (wN s1), .int .u64 (wN s2), .int .u64 (wN s3)] 112)) := ext_alloc hB1 _
  have hSl : ∀ W', Below (w.alloc (.cells #[.int .u64 (wN s0), .int .u64 (wN s1), .int .u64 (wN s2), .int .u64 (wN s3)] 112)).heap.size (w.alloc (.cells #[.int .u64 (wN s0), .int .u64 (wN s1), .int .u64 (wN s2), .int .u64 (wN s3)] 112)) W' → BoxS W' w.heap.size ⟨s0, s1, s2, s3⟩ := fun W' hb => hc W' hb
  have HC := Lib.hid hSl
  clear hc c0 c1 c2 c3 hB1
  generalize w1.alloc (.cells #[.int .u64 (wN s0), .int .u64 (wN s1), .int .u64 (wN s2), .int .u64 (wN s3)] 112) = W1 at *
  have hS0 : BoxS W1.drew w.heap.size ⟨s0, s1, s2, s3⟩ := HC.out _ hB2.drew
  have cs : ∀ p : InC (fun W' => BoxS W' w.heap.size ⟨s0, s1, s2, s3⟩), p.w.cell? ⟨w.heap.size, 0, none⟩ = some (.int .u64 (wN s0)) ∧ p.w.cell? ⟨w.heap.size, 1, none⟩ = some (.int .u64 (wN s1)) ∧ p.w.cell? ⟨w.heap.size, 2, none⟩ = some (.int .u64 (wN s2)) ∧ p.w.cell? ⟨w.heap.size, 3, none⟩ = some (.int .u64 (wN s3)) := fun p => p.h
  have hne : Nonempty (InC (fun W' => BoxS W' w.heap.size ⟨s0, s1, s2, s3⟩)) := ⟨⟨_, hS0⟩⟩
  clear hSl
  gi_wp2_with fail
  refine wpIn_wide.2 ?_
  refine wp_region_mix (fun W' => BoxS W' w.heap.size ⟨s0, s1, s2, s3⟩) [0, 2] [0, 1, 2] (by kernel_rfl) (by kernel_rfl) hS0 ?_
  (repeat (refine wpMix_read rfl rfl ?_; go_big_quiet_step (fail); refine wpQuiet_nil ?_))
  refine wpMix_eff (k := true) rfl rfl (by kernel_rfl) ?_
  go_wp2_with fail
  refine (All_any _).mono ?_
  rintro e w3 ⟨rfl, hb3⟩
  have hB3 := ext_step hB2.drew hb3
  go_wp2_with fail
  refine mixPost_keep (HC.out _ hB3) ?_
  (repeat (refine wpMix_read rfl rfl ?_; go_big_quiet_step (fail); refine wpQuiet_nil ?_))
  refine wpMix_nil ?_
  obtain ⟨c0, c1, c2, c3⟩ := HC.out _ hB3
  clear cs hne hS0 hb3 hB2
  generalize hln : (⟨s0, s1, s2, s3⟩ : BS).len = ln at *
  have hsz3 := hB3.size
  have hlt3 : w.heap.size < w3.heap.size := by omega
  have hwo0 : w.heap.size ≤ w3.heap.size := by omega
  dsimp only at c0 c1 c2 c3
  have hblk : w3.heap[w.heap.size]? = some (.cells #[.int .u64 (wN s0), .int .u64 (wN s1), .int .u64 (wN s2), .int .u64 (wN s3)] 112) := (hB3.block _ hlt).trans (heap_alloc_last _ _)
  have hf0 : ∀ j, w3.frozen? ⟨w.heap.size, j, none⟩ = false := fun j => frozen_of_row _ _ _ _ _ hblk
  by_cases hneg : 128 < ln
  · gi_wp2_with fail
    refine (callsIn_wide.2 (Len_any s0 s1 s2 s3 _)).mono ?_
    rintro e w2 ⟨rfl, rfl⟩
    rw [hln]
    gi_wp2_with fail
    refine (callsIn_wide.2 (Not_any s0 s1 s2 s3 _)).mono ?_
    rintro e w4 ⟨rfl, hb4⟩
    have hB4 : Below w3.heap.size w3 w4 := by repeat (first | exact Below.refl _ _ | assumption | refine Below.drew ?_ | refine ext_drewN ?_ _ | refine ext_alloc ?_ _ | refine Below.setCell ?_ (by (try simp only [World.size_alloc, World.size_setCell, World.size_drew]); omega) _ | refine ext_step ?_ (by assumption))
    have hblk4 : w4.heap[w.heap.size]? = some (.cells #[.int .u64 (wN s0), .int .u64 (wN s1), .int .u64 (wN s2), .int .u64 (wN s3)] 112) := (hB4.block _ hlt3).trans hblk
    have hf4 : ∀ j, w4.frozen? ⟨w.heap.size, j, none⟩ = false := fun j => frozen_of_row _ _ _ _ _ hblk4
    have d0 : w4.cell? ⟨w.heap.size, 0, none⟩ = some (.int .u64 (wN s0)) := by rw [cell_of_row _ _ _ _ _ _ hblk4]; rfl
    have d1 : w4.cell? ⟨w.heap.size, 1, none⟩ = some (.int .u64 (wN s1)) := by rw [cell_of_row _ _ _ _ _ _ hblk4]; rfl
    have d2 : w4.cell? ⟨w.heap.size, 2, none⟩ = some (.int .u64 (wN s2)) := by rw [cell_of_row _ _ _ _ _ _ hblk4]; rfl
    have d3 : w4.cell? ⟨w.heap.size, 3, none⟩ = some (.int .u64 (wN s3)) := by rw [cell_of_row _ _ _ _ _ _ hblk4]; rfl
    have hBo : Below (w3.heap.size + 1) (w3.alloc (.cells #[.string ⟨#[91]⟩] 9)) w4 := ((Below.refl (w3.heap.size + 1) (w3.alloc (.cells #[.string ⟨#[91]⟩] 9))).alloc (by simp) (.cells #[.int .u64 (wN s0), .int .u64 (wN s1), .int .u64 (wN s2), .int .u64 (wN s3)] 112)).trans (hb4.mono (by simp))
    have hbo : w4.heap[w3.heap.size]? = some (.cells #[.string ⟨#[91]⟩] 9) := (hBo.block _ (by omega)).trans (heap_alloc_last _ _)
    have o0 : w4.cell? ⟨w3.heap.size, 0, none⟩ = some (.string ⟨#[91]⟩) := by rw [cell_of_row _ _ _ _ _ _ hbo]; rfl
    have of : w4.frozen? ⟨w3.heap.size, 0, none⟩ = false := frozen_of_row _ _ _ _ _ hbo
    gi_wp2_with fail
    have HQ : Hid (out = ([91, 94] : List UInt8) ++ runsW (⟨~~~s0, ~~~s1, ~~~s2, ~~~s3⟩ : BS).runs ++ [93]) := by show _ = _; rw [HW.out, if_pos hneg]; rfl
    have hB5 : Below w.heap.size w (((((w4.setCell ⟨w.heap.size, 0, none⟩ (.int .u64 (wN (~~~s0)))).setCell ⟨w.heap.size, 1, none⟩ (.int .u64 (wN (~~~s1)))).setCell ⟨w.heap.size, 2, none⟩ (.int .u64 (wN (~~~s2)))).setCell ⟨w.heap.size, 3, none⟩ (.int .u64 (wN (~~~s3)))).setCell ⟨w3.heap.size, 0, none⟩ (.string (⟨#[91]⟩ ++ ⟨#[94]⟩))) := by
      have h3 : Below w.heap.size w w3 := hle.trans (hB3.mono (by simp))
      refine (ext_step h3 hB4).trans ?_
      repeat (first | exact Below.refl _ _ | refine Below.setCell ?_ (by (try simp only [World.size_setCell]); omega) _)
    have ho5 : (((((w4.setCell ⟨w.heap.size, 0, none⟩ (.int .u64 (wN (~~~s0)))).setCell ⟨w.heap.size, 1, none⟩ (.int .u64 (wN (~~~s1)))).setCell ⟨w.heap.size, 2, none⟩ (.int .u64 (wN (~~~s2)))).setCell ⟨w.heap.size, 3, none⟩ (.int .u64 (wN (~~~s3)))).setCell ⟨w3.heap.size, 0, none⟩ (.string (⟨#[91]⟩ ++ ⟨#[94]⟩))).heap[w3.heap.size]? = some (.cells #[.string ⟨([91, 94] : List UInt8).toArray⟩] 9) := by
      rw [heap_setCell_same _ _ _ _ _ _ (by rw [Below.heap_setCell _ _ _ _ (by show w3.heap.size ≠ w.heap.size; omega), Below.heap_setCell _ _ _ _ (by show w3.heap.size ≠ w.heap.size; omega), Below.heap_setCell _ _ _ _ (by show w3.heap.size ≠ w.heap.size; omega), Below.heap_setCell _ _ _ _ (by show w3.heap.size ≠ w.heap.size; omega)]; exact hbo)]
      rfl
    generalize (((((w4.setCell ⟨w.heap.size, 0, none⟩ (.int .u64 (wN (~~~s0)))).setCell ⟨w.heap.size, 1, none⟩ (.int .u64 (wN (~~~s1)))).setCell ⟨w.heap.size, 2, none⟩ (.int .u64 (wN (~~~s2)))).setCell ⟨w.heap.size, 3, none⟩ (.int .u64 (wN (~~~s3)))).setCell ⟨w3.heap.size, 0, none⟩ (.string (⟨#[91]⟩ ++ ⟨#[94]⟩))) = W5 at *
    generalize ~~~s0 = q0 at *
    generalize ~~~s1 = q1 at *
    generalize ~~~s2 = q2 at *
    generalize ~~~s3 = q3 at *
    obtain ⟨pf, hpf⟩ : ∃ pf : List UInt8, pf = [91, 94] := ⟨_, rfl⟩
    rw [← hpf] at HQ ho5
    have hpl : pf.length ≤ 2 := by rw [hpf]; simp
    clear hpf d0 d1 d2 d3 o0 of hbo hBo hf4 hblk4 hB4 hb4 HW hneg
    refine (callsIn_wide.2 (Runs_any q0 q1 q2 q3 _)).mono ?_
    rintro e w' ⟨rfl, rfl⟩
    gi_wp2_with fail
    clear c0 c1 c2 c3 hf0 hblk heq hle hB3 hsz3 HT HC hlt hl' hlt3
    have hlo : w3.heap.size < W5.heap.size := (Array.getElem?_eq_some_iff.1 ho5).1
    have hBox : BoxS (W5.alloc (.cells #[.int .u64 (wN q0), .int .u64 (wN q1), .int .u64 (wN q2), .int .u64 (wN q3)] 112)) W5.heap.size ⟨q0, q1, q2, q3⟩ := BoxS.new W5 q0 q1 q2 q3
    have ho6 : (W5.alloc (.cells #[.int .u64 (wN q0), .int .u64 (wN q1), .int .u64 (wN q2), .int .u64 (wN q3)] 112)).heap[w3.heap.size]? = some (.cells #[.string ⟨pf.toArray⟩] 9) := (Below.heap_alloc _ _ _ hlo).trans ho5
    have hc6 : (W5.alloc (.cells #[.int .u64 (wN q0), .int .u64 (wN q1), .int .u64 (wN q2), .int .u64 (wN q3)] 112)).cell? ⟨w3.heap.size, 0, none⟩ = some (.string ⟨(pf ++ runsW []).toArray⟩) := by rw [cell_of_row _ _ _ _ _ _ ho6]; simp [runsW]
    have hf6 : (W5.alloc (.cells #[.int .u64 (wN q0), .int .u64 (wN q1), .int .u64 (wN q2), .int .u64 (wN q3)] 112)).frozen? ⟨w3.heap.size, 0, none⟩ = false := frozen_of_row _ _ _ _ _ ho6
    have hB6 : Below w.heap.size w (W5.alloc (.cells #[.int .u64 (wN q0), .int .u64 (wN q1), .int .u64 (wN q2), .int .u64 (wN q3)] 112)) := ext_alloc hB5 _
    have hwo : w.heap.size ≤ w3.heap.size := hwo0
    refine wpIn_rangeFunc_ownF rfl (by omega) (gf := 140) (lb := #[.pointer (some ⟨W5.heap.size, 0, none⟩)]) rfl trivial (enters_of Tryz.func140 (by kernel_rfl) rfl)
      (Runs_stops _ W5.heap.size ⟨q0, q1, q2, q3⟩ _ (by simp) hBox) keepB_t (keepB_b (by simp)) (Below.refl _ _) (fun _ => rfl)
      (fun pre W => (W.cell? ⟨w3.heap.size, 0, none⟩ = some (.string ⟨(pf ++ runsW pre).toArray⟩) ∧ W.frozen? ⟨w3.heap.size, 0, none⟩ = false) ∧ (Below w.heap.size w W ∧ (Below 0 (W5.alloc (.cells #[.int .u64 (wN q0), .int .u64 (wN q1), .int .u64 (wN q2), .int .u64 (wN q3)] 112)) W ∧ pre.length ≤ 256)))
      (fun _ _ _ => False)
      (OwnFrom.and (Own.from (fun s A B row hs hg hr => ⟨cell_kept hs.1 hg hr, (frozen_kept hs.1 hg hr).trans hs.2⟩) _) (OwnFrom.and (ownFrom_below (Nat.le_refl _) (by simp; omega)) (OwnFrom.and (ownFrom_below (Nat.zero_le _) (Nat.zero_le _)) (fun _ _ _ _ hs _ _ => hs))))
      (fun _ _ _ _ _ hs _ _ => hs)
      ⟨⟨hc6, hf6⟩, hB6, Below.refl _ _, by simp⟩
      ?a1 ?assign ?body ?done ?stop
    case assign =>
      intro l x W K hK
      gi_wp2
      exact hK
    case body =>
      rintro l pre x W ⟨⟨hc, hf⟩, hB, hZ, _⟩ hlen
      have hbk : W5.heap.size < W.heap.size := by have := hZ.size; simp at this; omega
      have hlt := World.block_lt_of_cell? W _ hc
      dsimp only at hlt
      have hm : Tryz.prog.follows .mixedOrders = true := by kernel_rfl
      have hrl := runsW_len pre
      have hba := byteW_len x.a
      have hbb := byteW_len x.b
      have HY := Lib.hid (fun W => ((callsIn_wide (n := 2)).2 (Byte_any x.a x.ha W)).inRound l)
      have HZ2 := Lib.hid (fun W => ((callsIn_wide (n := 2)).2 (Byte_any x.b x.hb W)).inRound l)
      have HR : Hid (runsW (pre ++ [x]) = runsW pre ++ (byteW x.a ++ if x.a < x.b then 45 :: byteW x.b else [])) := by show _ = _; simp [runsW, runW]
      generalize hcur : pf ++ runsW pre = cur at *
      have hcl : cur.length ≤ 2306 := by rw [← hcur]; simp; omega
      have HCU := Lib.hid hcur
      generalize byteW x.a = ba at *
      generalize byteW x.b = bb at *
      clear hcur hrl
      gi_wp2_with fail
      gi_region_with_o ((refine (HY.out _).mono ?_; rintro e W1 ⟨rfl, hb1⟩; have hc1 : W1.cell? ⟨w3.heap.size, 0, none⟩ = some (.string ⟨cur.toArray⟩) := (hb1.cell (p := ⟨w3.heap.size, 0, none⟩) hlt).trans hc; have hf1 : W1.frozen? ⟨w3.heap.size, 0, none⟩ = false := (hb1.frozen (p := ⟨w3.heap.size, 0, none⟩) hlt).trans hf))
      all_goals
        have hB1 : Below W.heap.size W W1 := by repeat (first | exact Below.refl _ _ | assumption | refine Below.drew ?_ | refine ext_drewN ?_ _ | refine ext_alloc ?_ _ | refine Below.setCell ?_ (by (try simp only [World.size_alloc, World.size_setCell, World.size_drew]); omega) _ | refine ext_step ?_ (by assumption))
        have hO1 := ((OutAt.mk (KeepsOthers.refl W) (KeepB.refl W5.heap.size W) hc hf hB hZ : OutAt w (W5.alloc (.cells #[.int .u64 (wN q0), .int .u64 (wN q1), .int .u64 (wN q2), .int .u64 (wN q3)] 112)) W5.heap.size w3.heap.size W W cur).call hbk hB1).put (by omega) hwo (cur ++ ba)
        rw [show (⟨cur.toArray⟩ ++ ⟨ba.toArray⟩ : ByteArray) = ⟨(cur ++ ba).toArray⟩ from ByteArray.ext (by simp)]
        generalize W1.setCell ⟨w3.heap.size, 0, none⟩ (.string ⟨(cur ++ ba).toArray⟩) = W2 at *
        have hl2 : (cur ++ ba).length ≤ 2310 := by simp; omega
        have HC2 : Hid (cur ++ ba = pf ++ (runsW pre ++ ba)) := by show _ = _; rw [← HCU.out]; simp
        generalize hcb : cur ++ ba = cb at *
        clear hb1 hB1 hc1 hf1 hc hf hcb
        have hc2 := hO1.c
        have hf2 := hO1.f
        have hlt2 := World.block_lt_of_cell? W2 _ hc2
        dsimp only at hlt2
        have HO1 := Lib.hid hO1
        clear hO1
        by_cases hx : x.a < x.b
        · have hx' : (x.a : Int) < (x.b : Int) := by omega
          rw [if_pos hx] at HR
          gi_wp2_with fail
          gi_region_with_o ((refine (HZ2.out _).mono ?_; rintro e W3 ⟨rfl, hb3⟩; have hc3 : W3.cell? ⟨w3.heap.size, 0, none⟩ = some (.string ⟨cb.toArray⟩) := (hb3.cell (p := ⟨w3.heap.size, 0, none⟩) hlt2).trans hc2; have hf3 : W3.frozen? ⟨w3.heap.size, 0, none⟩ = false := (hb3.frozen (p := ⟨w3.heap.size, 0, none⟩) hlt2).trans hf2))
          all_goals
            have hB3 : Below W2.heap.size W2 W3 := by repeat (first | exact Below.refl _ _ | assumption | refine Below.drew ?_ | refine ext_drewN ?_ _ | refine ext_alloc ?_ _ | refine Below.setCell ?_ (by (try simp only [World.size_alloc, World.size_setCell, World.size_drew]); omega) _ | refine ext_step ?_ (by assumption))
            have hO3 := (HO1.out.call hbk hB3).put (by omega) hwo (cb ++ (45 :: bb))
            rw [show (⟨cb.toArray⟩ ++ (⟨#[45]⟩ ++ ⟨bb.toArray⟩) : ByteArray) = ⟨(cb ++ (45 :: bb)).toArray⟩ from ByteArray.ext (by simp)]
            generalize W3.setCell ⟨w3.heap.size, 0, none⟩ (.string ⟨(cb ++ (45 :: bb)).toArray⟩) = W4 at *
            rw [show cb ++ (45 :: bb) = pf ++ runsW (pre ++ [x]) by rw [HC2.out, HR.out]; simp] at hO3
            have HO3 := Lib.hid hO3
            clear hO3 hB3 hb3 hc3 hf3 hc2 hf2
            gi_wp2
            exact ⟨HO3.out.ko, HO3.out.kb, ⟨HO3.out.c, HO3.out.f⟩, HO3.out.bw, HO3.out.b0, by simp; omega⟩
        · have hx' : ¬ (x.a : Int) < (x.b : Int) := by omega
          rw [if_neg hx, List.append_nil] at HR
          have HO3 : Hid (OutAt w (W5.alloc (.cells #[.int .u64 (wN q0), .int .u64 (wN q1), .int .u64 (wN q2), .int .u64 (wN q3)] 112)) W5.heap.size w3.heap.size W W2 (pf ++ runsW (pre ++ [x]))) := by
            show OutAt _ _ _ _ _ _ _
            rw [HR.out, ← HC2.out]; exact HO1.out
          clear hc2 hf2
          gi_wp2
          exact ⟨HO3.out.ko, HO3.out.kb, ⟨HO3.out.c, HO3.out.f⟩, HO3.out.bw, HO3.out.b0, by simp; omega⟩
    case done =>
      rintro D xs W hD rfl ⟨⟨hc, hf⟩, hB, hZ, hxl⟩ hK
      have hrl := runsW_len (⟨q0, q1, q2, q3⟩ : BS).runs
      have HL : Hid (pf ++ runsW (⟨q0, q1, q2, q3⟩ : BS).runs ++ [93] = out) := HQ.out.symm
      generalize hcur : pf ++ runsW (⟨q0, q1, q2, q3⟩ : BS).runs = cur at *
      have hcl : cur.length ≤ 2306 := by rw [← hcur]; simp; omega
      clear hcur hrl
      gi_wp2
      refine ⟨by simp, .inl ⟨_, _, rfl, run_takeDeferred hK, ?_⟩⟩
      refine ⟨_, results_tmp rfl _ _ _, ⟨?_, hB.trans (belowK_b (w := w) (Nat.le_refl _) W D _ _ (by simp at hD; omega) hK rfl rfl)⟩⟩
      exact congrArg (fun s => Ending.returned (.string s)) (ByteArray.ext (by rw [← HL.out]; simp))
    case stop =>
      rintro D c pre W _ _ h _
      exact h.elim
  · have hneg' : ¬ (128 : Int) < (ln : Int) := by omega
    gi_wp2_with fail
    refine (callsIn_wide.2 (Len_any s0 s1 s2 s3 _)).mono ?_
    rintro e w2 ⟨rfl, rfl⟩
    rw [hln]
    have hbo : ((w3.alloc (.cells #[.string ⟨#[91]⟩] 9)).alloc (.cells #[.int .u64 (wN s0), .int .u64 (wN s1), .int .u64 (wN s2), .int .u64 (wN s3)] 112)).heap[w3.heap.size]? = some (.cells #[.string ⟨#[91]⟩] 9) := (Below.heap_alloc _ _ _ (by simp)).trans (heap_alloc_last _ _)
    gi_wp2_with fail
    have HQ : Hid (out = ([91] : List UInt8) ++ runsW (⟨s0, s1, s2, s3⟩ : BS).runs ++ [93]) := by show _ = _; rw [HW.out, if_neg hneg]
    have hB5 : Below w.heap.size w ((w3.alloc (.cells #[.string (⟨#[91]⟩ ++ ⟨#[]⟩)] 9)).alloc (.cells #[.int .u64 (wN s0), .int .u64 (wN s1), .int .u64 (wN s2), .int .u64 (wN s3)] 112)) := by
      have h3 : Below w.heap.size w w3 := hle.trans (hB3.mono (by simp))
      exact ext_alloc (ext_alloc h3 _) _
    have ho5 : ((w3.alloc (.cells #[.string (⟨#[91]⟩ ++ ⟨#[]⟩)] 9)).alloc (.cells #[.int .u64 (wN s0), .int .u64 (wN s1), .int .u64 (wN s2), .int .u64 (wN s3)] 112)).heap[w3.heap.size]? = some (.cells #[.string ⟨([91] : List UInt8).toArray⟩] 9) := (Below.heap_alloc _ _ _ (by simp)).trans (heap_alloc_last _ _)
    generalize ((w3.alloc (.cells #[.string (⟨#[91]⟩ ++ ⟨#[]⟩)] 9)).alloc (.cells #[.int .u64 (wN s0), .int .u64 (wN s1), .int .u64 (wN s2), .int .u64 (wN s3)] 112)) = W5 at *
    obtain ⟨q0, hq0⟩ : ∃ q, q = s0 := ⟨_, rfl⟩
    obtain ⟨q1, hq1⟩ : ∃ q, q = s1 := ⟨_, rfl⟩
    obtain ⟨q2, hq2⟩ : ∃ q, q = s2 := ⟨_, rfl⟩
    obtain ⟨q3, hq3⟩ : ∃ q, q = s3 := ⟨_, rfl⟩
    rw [← hq0, ← hq1, ← hq2, ← hq3] at HQ
    rw [← hq0, ← hq1, ← hq2, ← hq3]
    obtain ⟨pf, hpf⟩ : ∃ pf : List UInt8, pf = [91] := ⟨_, rfl⟩
    rw [← hpf] at HQ ho5
    have hpl : pf.length ≤ 2 := by rw [hpf]; simp
    clear hpf hbo HW hneg hq0 hq1 hq2 hq3
    refine (callsIn_wide.2 (Runs_any q0 q1 q2 q3 _)).mono ?_
    rintro e w' ⟨rfl, rfl⟩
    gi_wp2_with fail
    clear c0 c1 c2 c3 hf0 hblk heq hle hB3 hsz3 HT HC hlt hl' hlt3
    have hlo : w3.heap.size < W5.heap.size := (Array.getElem?_eq_some_iff.1 ho5).1
    have hBox : BoxS (W5.alloc (.cells #[.int .u64 (wN q0), .int .u64 (wN q1), .int .u64 (wN q2), .int .u64 (wN q3)] 112)) W5.heap.size ⟨q0, q1, q2, q3⟩ := BoxS.new W5 q0 q1 q2 q3
    have ho6 : (W5.alloc (.cells #[.int .u64 (wN q0), .int .u64 (wN q1), .int .u64 (wN q2), .int .u64 (wN q3)] 112)).heap[w3.heap.size]? = some (.cells #[.string ⟨pf.toArray⟩] 9) := (Below.heap_alloc _ _ _ hlo).trans ho5
    have hc6 : (W5.alloc (.cells #[.int .u64 (wN q0), .int .u64 (wN q1), .int .u64 (wN q2), .int .u64 (wN q3)] 112)).cell? ⟨w3.heap.size, 0, none⟩ = some (.string ⟨(pf ++ runsW []).toArray⟩) := by rw [cell_of_row _ _ _ _ _ _ ho6]; simp [runsW]
    have hf6 : (W5.alloc (.cells #[.int .u64 (wN q0), .int .u64 (wN q1), .int .u64 (wN q2), .int .u64 (wN q3)] 112)).frozen? ⟨w3.heap.size, 0, none⟩ = false := frozen_of_row _ _ _ _ _ ho6
    have hB6 : Below w.heap.size w (W5.alloc (.cells #[.int .u64 (wN q0), .int .u64 (wN q1), .int .u64 (wN q2), .int .u64 (wN q3)] 112)) := ext_alloc hB5 _
    have hwo : w.heap.size ≤ w3.heap.size := hwo0
    refine wpIn_rangeFunc_ownF rfl (by omega) (gf := 140) (lb := #[.pointer (some ⟨W5.heap.size, 0, none⟩)]) rfl trivial (enters_of Tryz.func140 (by kernel_rfl) rfl)
      (Runs_stops _ W5.heap.size ⟨q0, q1, q2, q3⟩ _ (by simp) hBox) keepB_t (keepB_b (by simp)) (Below.refl _ _) (fun _ => rfl)
      (fun pre W => (W.cell? ⟨w3.heap.size, 0, none⟩ = some (.string ⟨(pf ++ runsW pre).toArray⟩) ∧ W.frozen? ⟨w3.heap.size, 0, none⟩ = false) ∧ (Below w.heap.size w W ∧ (Below 0 (W5.alloc (.cells #[.int .u64 (wN q0), .int .u64 (wN q1), .int .u64 (wN q2), .int .u64 (wN q3)] 112)) W ∧ pre.length ≤ 256)))
      (fun _ _ _ => False)
      (OwnFrom.and (Own.from (fun s A B row hs hg hr => ⟨cell_kept hs.1 hg hr, (frozen_kept hs.1 hg hr).trans hs.2⟩) _) (OwnFrom.and (ownFrom_below (Nat.le_refl _) (by simp; omega)) (OwnFrom.and (ownFrom_below (Nat.zero_le _) (Nat.zero_le _)) (fun _ _ _ _ hs _ _ => hs))))
      (fun _ _ _ _ _ hs _ _ => hs)
      ⟨⟨hc6, hf6⟩, hB6, Below.refl _ _, by simp⟩
      ?a12 ?assign2 ?body2 ?done2 ?stop2
    case assign2 =>
      intro l x W K hK
      gi_wp2
      exact hK
    case body2 =>
      rintro l pre x W ⟨⟨hc, hf⟩, hB, hZ, _⟩ hlen
      have hbk : W5.heap.size < W.heap.size := by have := hZ.size; simp at this; omega
      have hlt := World.block_lt_of_cell? W _ hc
      dsimp only at hlt
      have hm : Tryz.prog.follows .mixedOrders = true := by kernel_rfl
      have hrl := runsW_len pre
      have hba := byteW_len x.a
      have hbb := byteW_len x.b
      have HY := Lib.hid (fun W => ((callsIn_wide (n := 2)).2 (Byte_any x.a x.ha W)).inRound l)
      have HZ2 := Lib.hid (fun W => ((callsIn_wide (n := 2)).2 (Byte_any x.b x.hb W)).inRound l)
      have HR : Hid (runsW (pre ++ [x]) = runsW pre ++ (byteW x.a ++ if x.a < x.b then 45 :: byteW x.b else [])) := by show _ = _; simp [runsW, runW]
      generalize hcur : pf ++ runsW pre = cur at *
      have hcl : cur.length ≤ 2306 := by rw [← hcur]; simp; omega
      have HCU := Lib.hid hcur
      generalize byteW x.a = ba at *
      generalize byteW x.b = bb at *
      clear hcur hrl
      gi_wp2_with fail
      gi_region_with_o ((refine (HY.out _).mono ?_; rintro e W1 ⟨rfl, hb1⟩; have hc1 : W1.cell? ⟨w3.heap.size, 0, none⟩ = some (.string ⟨cur.toArray⟩) := (hb1.cell (p := ⟨w3.heap.size, 0, none⟩) hlt).trans hc; have hf1 : W1.frozen? ⟨w3.heap.size, 0, none⟩ = false := (hb1.frozen (p := ⟨w3.heap.size, 0, none⟩) hlt).trans hf))
      all_goals
        have hB1 : Below W.heap.size W W1 := by repeat (first | exact Below.refl _ _ | assumption | refine Below.drew ?_ | refine ext_drewN ?_ _ | refine ext_alloc ?_ _ | refine Below.setCell ?_ (by (try simp only [World.size_alloc, World.size_setCell, World.size_drew]); omega) _ | refine ext_step ?_ (by assumption))
        have hO1 := ((OutAt.mk (KeepsOthers.refl W) (KeepB.refl W5.heap.size W) hc hf hB hZ : OutAt w (W5.alloc (.cells #[.int .u64 (wN q0), .int .u64 (wN q1), .int .u64 (wN q2), .int .u64 (wN q3)] 112)) W5.heap.size w3.heap.size W W cur).call hbk hB1).put (by omega) hwo (cur ++ ba)
        rw [show (⟨cur.toArray⟩ ++ ⟨ba.toArray⟩ : ByteArray) = ⟨(cur ++ ba).toArray⟩ from ByteArray.ext (by simp)]
        generalize W1.setCell ⟨w3.heap.size, 0, none⟩ (.string ⟨(cur ++ ba).toArray⟩) = W2 at *
        have hl2 : (cur ++ ba).length ≤ 2310 := by simp; omega
        have HC2 : Hid (cur ++ ba = pf ++ (runsW pre ++ ba)) := by show _ = _; rw [← HCU.out]; simp
        generalize hcb : cur ++ ba = cb at *
        clear hb1 hB1 hc1 hf1 hc hf hcb
        have hc2 := hO1.c
        have hf2 := hO1.f
        have hlt2 := World.block_lt_of_cell? W2 _ hc2
        dsimp only at hlt2
        have HO1 := Lib.hid hO1
        clear hO1
        by_cases hx : x.a < x.b
        · have hx' : (x.a : Int) < (x.b : Int) := by omega
          rw [if_pos hx] at HR
          gi_wp2_with fail
          gi_region_with_o ((refine (HZ2.out _).mono ?_; rintro e W3 ⟨rfl, hb3⟩; have hc3 : W3.cell? ⟨w3.heap.size, 0, none⟩ = some (.string ⟨cb.toArray⟩) := (hb3.cell (p := ⟨w3.heap.size, 0, none⟩) hlt2).trans hc2; have hf3 : W3.frozen? ⟨w3.heap.size, 0, none⟩ = false := (hb3.frozen (p := ⟨w3.heap.size, 0, none⟩) hlt2).trans hf2))
          all_goals
            have hB3 : Below W2.heap.size W2 W3 := by repeat (first | exact Below.refl _ _ | assumption | refine Below.drew ?_ | refine ext_drewN ?_ _ | refine ext_alloc ?_ _ | refine Below.setCell ?_ (by (try simp only [World.size_alloc, World.size_setCell, World.size_drew]); omega) _ | refine ext_step ?_ (by assumption))
            have hO3 := (HO1.out.call hbk hB3).put (by omega) hwo (cb ++ (45 :: bb))
            rw [show (⟨cb.toArray⟩ ++ (⟨#[45]⟩ ++ ⟨bb.toArray⟩) : ByteArray) = ⟨(cb ++ (45 :: bb)).toArray⟩ from ByteArray.ext (by simp)]
            generalize W3.setCell ⟨w3.heap.size, 0, none⟩ (.string ⟨(cb ++ (45 :: bb)).toArray⟩) = W4 at *
            rw [show cb ++ (45 :: bb) = pf ++ runsW (pre ++ [x]) by rw [HC2.out, HR.out]; simp] at hO3
            have HO3 := Lib.hid hO3
            clear hO3 hB3 hb3 hc3 hf3 hc2 hf2
            gi_wp2
            exact ⟨HO3.out.ko, HO3.out.kb, ⟨HO3.out.c, HO3.out.f⟩, HO3.out.bw, HO3.out.b0, by simp; omega⟩
        · have hx' : ¬ (x.a : Int) < (x.b : Int) := by omega
          rw [if_neg hx, List.append_nil] at HR
          have HO3 : Hid (OutAt w (W5.alloc (.cells #[.int .u64 (wN q0), .int .u64 (wN q1), .int .u64 (wN q2), .int .u64 (wN q3)] 112)) W5.heap.size w3.heap.size W W2 (pf ++ runsW (pre ++ [x]))) := by
            show OutAt _ _ _ _ _ _ _
            rw [HR.out, ← HC2.out]; exact HO1.out
          clear hc2 hf2
          gi_wp2
          exact ⟨HO3.out.ko, HO3.out.kb, ⟨HO3.out.c, HO3.out.f⟩, HO3.out.bw, HO3.out.b0, by simp; omega⟩
    case done2 =>
      rintro D xs W hD rfl ⟨⟨hc, hf⟩, hB, hZ, hxl⟩ hK
      have hrl := runsW_len (⟨q0, q1, q2, q3⟩ : BS).runs
      have HL : Hid (pf ++ runsW (⟨q0, q1, q2, q3⟩ : BS).runs ++ [93] = out) := HQ.out.symm
      generalize hcur : pf ++ runsW (⟨q0, q1, q2, q3⟩ : BS).runs = cur at *
      have hcl : cur.length ≤ 2306 := by rw [← hcur]; simp; omega
      clear hcur hrl
      gi_wp2
      refine ⟨by simp, .inl ⟨_, _, rfl, run_takeDeferred hK, ?_⟩⟩
      refine ⟨_, results_tmp rfl _ _ _, ⟨?_, hB.trans (belowK_b (w := w) (Nat.le_refl _) W D _ _ (by simp at hD; omega) hK rfl rfl)⟩⟩
      exact congrArg (fun s => Ending.returned (.string s)) (ByteArray.ext (by rw [← HL.out]; simp))
    case stop2 =>
      rintro D c pre W _ _ h _
      exact h.elim
/-- a set as it is written -/
theorem class_any (s0 s1 s2 s3 : BitVec 64) (w : World) (hT : Tab w) (hle : (⟨s0, s1, s2, s3⟩ : BS).least < 256) :
    Calls Tryz.prog 58 #[.agg #[.int .u64 (wN s0), .int .u64 (wN s1), .int .u64 (wN s2), .int .u64 (wN s3)]] w fun e w' => e = .returned (.string ⟨(classW ⟨s0, s1, s2, s3⟩).toArray⟩) ∧ Below w.heap.size w w' := by
  unfold classW
  split
  · rename_i h
    exact class_one s0 s1 s2 s3 _ hle h rfl w hT
  · split
    · rename_i h1 h2; exact class_all s0 s1 s2 s3 h1 h2 w hT
    · rename_i h1 h2; exact class_runs s0 s1 s2 s3 h1 h2 w hT
end Go.Proofs.YticpjjmacmmpjaaGreatDoor
