/-
  The expression of one byte as it is written, walked through the program. A set as it is written, walked through the program. 'made', walked through the program: a node, and what is known of it. Expressions as they are written, walked through the program. What is written is read, plain: an expression within another one, and the whole. The lexer, plain. 'flat', walked through the program: the kids of those of an op in their places, in a new row.
-/
import Derived.Deep.AppendLies
import Derived.Deep.WholeRow
import Derived.Test.YtgamknphlmcgnaaGreatDoorZlA
import Derived.Test.YtgamknphlmcgnaaGreatDoorZlB
section
set_option linter.unusedSimpArgs false
set_option linter.unusedVariables false
set_option maxRecDepth 100000
set_option linter.unnecessarySimpa false
namespace Go.Proofs.YtgamknphlmcgnaaGreatDoor
open Go.RowKit
theorem SetAt0 (w : World) (s0 s1 s2 s3 : BitVec 64) (w1 : World) (hb : Below (w.alloc (.cells #[.int .u64 (wN s0), .int .u64 (wN s1), .int .u64 (wN s2), .int .u64 (wN s3)] 109)).heap.size (w.alloc (.cells #[.int .u64 (wN s0), .int .u64 (wN s1), .int .u64 (wN s2), .int .u64 (wN s3)] 109)) w1) : w1.cell? ⟨w.heap.size, 0, none⟩ = some (.int .u64 (wN s0)) ∧ w1.cell? ⟨w.heap.size, 1, none⟩ = some (.int .u64 (wN s1)) ∧ w1.cell? ⟨w.heap.size, 2, none⟩ = some (.int .u64 (wN s2)) ∧ w1.cell? ⟨w.heap.size, 3, none⟩ = some (.int .u64 (wN s3)) := by
  have h : w1.heap[w.heap.size]? = some (.cells #[.int .u64 (wN s0), .int .u64 (wN s1), .int .u64 (wN s2), .int .u64 (wN s3)] 109) := (hb.block _ (by simp)).trans (heap_alloc_last _ _)
  refine ⟨?_, ?_, ?_, ?_⟩ <;> (rw [cell_of_row _ _ _ _ _ _ h]; rfl)
set_option maxRecDepth 100000 in
set_option maxHeartbeats 2000000 in
theorem class_one (s0 s1 s2 s3 : BitVec 64) (x : Nat) (hx : x < 256) (hl : (⟨s0, s1, s2, s3⟩ : BS).len = 1) (hle : (⟨s0, s1, s2, s3⟩ : BS).least = x) (w : World) (hT : Tab w) :
    Calls Tryz.prog 64 #[.agg #[.int .u64 (wN s0), .int .u64 (wN s1), .int .u64 (wN s2), .int .u64 (wN s3)]] w fun e w' => e = .returned (.string ⟨(byteW x).toArray⟩) ∧ Below w.heap.size w w' := by
  have HT := Lib.hid (hT.alloc (.cells #[.int .u64 (wN s0), .int .u64 (wN s1), .int .u64 (wN s2), .int .u64 (wN s3)] 109))
  have HLE := Lib.hid hle
  have HL := Lib.hid hl
  clear hT hle hl
  have hc := SetAt0 w s0 s1 s2 s3
  go_enter Tryz.func64, Tryz.ntmps64
  go_wp2_with fail
  refine (Least_any s0 s1 s2 s3 _ HT.out).mono ?_
  rintro e w1 ⟨rfl, hb1⟩
  rw [HLE.out]
  generalize decide ((⟨s0, s1, s2, s3⟩ : BS) ≠ BS.none) = d
  obtain ⟨c0, c1, c2, c3⟩ := hc w1 hb1
  have hB1 : Below w.heap.size w w1 := by repeat (first | exact Below.refl _ _ | assumption | refine Below.drew ?_ | refine ext_drewN ?_ _ | refine ext_alloc ?_ _ | refine Below.setCell ?_ (by (try simp only [World.size_alloc, World.size_setCell, World.size_drew]); omega) _ | refine ext_step ?_ (by assumption))
  clear hb1
  go_wp2_with fail
  refine (Len_any s0 s1 s2 s3 _).mono ?_
  rintro e w2 ⟨rfl, rfl⟩
  rw [HL.out]
  go_wp2_with fail
  refine (Byte_any x hx _).mono ?_
  rintro e w3 ⟨rfl, hb3⟩
  have hB3 : Below w.heap.size w w3 := by repeat (first | exact Below.refl _ _ | assumption | refine Below.drew ?_ | refine ext_drewN ?_ _ | refine ext_alloc ?_ _ | refine Below.setCell ?_ (by (try simp only [World.size_alloc, World.size_setCell, World.size_drew]); omega) _ | refine ext_step ?_ (by assumption))
  go_wp2_with fail
  go_ret
  exact ⟨rfl, hB3⟩
end Go.Proofs.YtgamknphlmcgnaaGreatDoor
end
section
set_option linter.unusedSimpArgs false
set_option linter.unusedVariables false
set_option maxRecDepth 100000
set_option linter.unnecessarySimpa false
namespace Go.Proofs.YtgamknphlmcgnaaGreatDoor
open Go.RowKit
attribute [local go_sem] Oper.semAt_some wide_fn wide_depth
def runW (r : Rn) : List UInt8 := byteW r.a ++ (if r.a < r.b then 45 :: byteW r.b else [])
def runsW (l : List Rn) : List UInt8 := l.flatMap runW
def notS (s : BS) : BS := ⟨~~~s.a, ~~~s.b, ~~~s.c, ~~~s.d⟩
def setW (s : BS) : List UInt8 := if 128 < s.len then [91, 94] ++ runsW (notS s).runs ++ [93] else [91] ++ runsW s.runs ++ [93]
/-- a set as it is written -/
def classW (s : BS) : List UInt8 := if s.len = 1 then byteW s.least else if s = BS.all then [46] else setW s
theorem runsW_len (l : List Rn) : (runsW l).length ≤ 9 * l.length := by
  induction l with
  | nil => simp [runsW]
  | cons r l ih =>
    have h1 := byteW_len r.a
    have h2 := byteW_len r.b
    have h3 : (runW r).length ≤ 9 := by unfold runW; split <;> simp <;> omega
    simp only [runsW, List.flatMap_cons, List.length_append, List.length_cons] at *
    omega
/-- in a round of the loop: the text put together so far -/
structure OutAt (w S : World) (B out : Nat) (W W' : World) (l : List UInt8) : Prop where
  ko : KeepsOthers W W'
  kb : KeepB B W W'
  c : W'.cell? ⟨out, 0, none⟩ = some (.string ⟨l.toArray⟩)
  f : W'.frozen? ⟨out, 0, none⟩ = false
  bw : Below w.heap.size w W'
  b0 : Below 0 S W'
theorem OutAt.call {w S : World} {B out : Nat} {W W' W'' : World} {l : List UInt8} (h : OutAt w S B out W W' l) (hB : B < W.heap.size) (hb : Below W'.heap.size W' W'') : OutAt w S B out W W'' l :=
  have ho := World.block_lt_of_cell? W' _ h.c
  ⟨h.ko.trans ⟨hb.size, fun k o hk _ => (hb.block k (Array.getElem?_eq_some_iff.1 hk).1).trans hk⟩, h.kb.step hB hb, (hb.cell (p := ⟨out, 0, none⟩) ho).trans h.c, (hb.frozen (p := ⟨out, 0, none⟩) ho).trans h.f, ext_step h.bw hb, h.b0.trans (hb.mono (Nat.zero_le _))⟩
theorem OutAt.put {w S : World} {B out : Nat} {W W' : World} {l : List UInt8} (h : OutAt w S B out W W' l) (hB : B ≠ out) (ho : w.heap.size ≤ out) (l2 : List UInt8) : OutAt w S B out W (W'.setCell ⟨out, 0, none⟩ (.string ⟨l2.toArray⟩)) l2 :=
  ⟨h.ko.trans (KeepsOthers.setCell _ _ _), h.kb.setCell hB _, World.cell?_setCell_same' _ _ _ (by rw [h.c]; rfl), by rw [World.frozen?_setCell]; exact h.f, h.bw.setCell ho _, h.b0.setCell (Nat.zero_le _) _⟩
theorem all_words (s0 s1 s2 s3 : BitVec 64) : (wN s0 == wN fullW && (wN s1 == wN fullW && (wN s2 == wN fullW && wN s3 == wN fullW))) = decide ((⟨s0, s1, s2, s3⟩ : BS) = BS.all) := by
  rw [wN_beq, wN_beq, wN_beq, wN_beq]
  simp [BS.all, Bool.decide_and]
set_option maxRecDepth 100000 in
set_option maxHeartbeats 4000000 in
theorem class_all (s0 s1 s2 s3 : BitVec 64) (hl : (⟨s0, s1, s2, s3⟩ : BS).len ≠ 1) (ha : (⟨s0, s1, s2, s3⟩ : BS) = BS.all) (w : World) (hT : Tab w) :
    Calls Tryz.prog 64 #[.agg #[.int .u64 (wN s0), .int .u64 (wN s1), .int .u64 (wN s2), .int .u64 (wN s3)]] w fun e w' => e = .returned (.string ⟨#[46]⟩) ∧ Below w.heap.size w w' := by
  have HT := Lib.hid (hT.alloc (.cells #[.int .u64 (wN s0), .int .u64 (wN s1), .int .u64 (wN s2), .int .u64 (wN s3)] 109))
  have hl' : ((((⟨s0, s1, s2, s3⟩ : BS).len : Nat) : Int) == 1) = false := by rw [beq_eq_false_iff_ne]; omega
  have haw := all_words s0 s1 s2 s3
  rw [decide_eq_true ha] at haw
  have heq := fun w => eq_words (wN s0) (wN s1) (wN s2) (wN s3) (wN fullW) (wN fullW) (wN fullW) (wN fullW) w
  rw [haw] at heq
  clear hT hl ha haw
  have hc := SetAt0 w s0 s1 s2 s3
  have hlt : w.heap.size < (w.alloc (.cells #[.int .u64 (wN s0), .int .u64 (wN s1), .int .u64 (wN s2), .int .u64 (wN s3)] 109)).heap.size := by simp
  have hle := ext_alloc (Below.refl w.heap.size w) (.cells #[.int .u64 (wN s0), .int .u64 (wN s1), .int .u64 (wN s2), .int .u64 (wN s3)] 109)
  go_enter Tryz.func64, Tryz.ntmps64
  go_wp2_with fail
  refine (Least_any s0 s1 s2 s3 _ HT.out).mono ?_
  rintro e w1 ⟨rfl, hb1⟩
  generalize decide ((⟨s0, s1, s2, s3⟩ : BS) ≠ BS.none) = d
  generalize (⟨s0, s1, s2, s3⟩ : BS).least = lst
  have hB1 : Below (w.alloc (.cells #[.int .u64 (wN s0), .int .u64 (wN s1), .int .u64 (wN s2), .int .u64 (wN s3)] 109)).heap.size (w.alloc (.cells #[.int .u64 (wN s0), .int .u64 (wN s1), .int .u64 (wN s2), .int .u64 (wN s3)] 109)) w1 := hb1
  obtain ⟨c0, c1, c2, c3⟩ := hc w1 hB1
  clear hb1
  go_wp2_with fail
  refine (Len_any s0 s1 s2 s3 _).mono ?_
  rintro e w2 ⟨rfl, rfl⟩
  generalize (⟨s0, s1, s2, s3⟩ : BS).len = ln at *
  have hB2 : Below (w.alloc (.cells #[.int .u64 (wN s0), .int .u64 (wN s1), .int .u64 (wN s2), .int .u64 (wN s3)] 109)).heap.size (w.alloc (.cells #[.int .u64 (wN s0), .int .u64 (wN s1), .int .u64 (wN s2), .int .u64 (wN s3)] 109)) (w1.alloc (.cells #[.int .u64 (wN s0), .int .u64 (wN s1), .int .u64 (wN s2), .int .u64 (wN s3)] 109)) := ext_alloc hB1 _
  have hSl : ∀ W', Below (w.alloc (.cells #[.int .u64 (wN s0), .int .u64 (wN s1), .int .u64 (wN s2), .int .u64 (wN s3)] 109)).heap.size (w.alloc (.cells #[.int .u64 (wN s0), .int .u64 (wN s1), .int .u64 (wN s2), .int .u64 (wN s3)] 109)) W' → BoxS W' w.heap.size ⟨s0, s1, s2, s3⟩ := fun W' hb => hc W' hb
  have HC := Lib.hid hSl
  clear hc c0 c1 c2 c3 hB1
  generalize w1.alloc (.cells #[.int .u64 (wN s0), .int .u64 (wN s1), .int .u64 (wN s2), .int .u64 (wN s3)] 109) = W1 at *
  clear hSl
  have hS0 : BoxS W1.drew w.heap.size ⟨s0, s1, s2, s3⟩ := HC.out _ hB2.drew
  have cs : ∀ p : InC (fun W' => BoxS W' w.heap.size ⟨s0, s1, s2, s3⟩), p.w.cell? ⟨w.heap.size, 0, none⟩ = some (.int .u64 (wN s0)) ∧ p.w.cell? ⟨w.heap.size, 1, none⟩ = some (.int .u64 (wN s1)) ∧ p.w.cell? ⟨w.heap.size, 2, none⟩ = some (.int .u64 (wN s2)) ∧ p.w.cell? ⟨w.heap.size, 3, none⟩ = some (.int .u64 (wN s3)) := fun p => p.h
  have hne : Nonempty (InC (fun W' => BoxS W' w.heap.size ⟨s0, s1, s2, s3⟩)) := ⟨⟨_, hS0⟩⟩
  go_wp2_with fail
  refine wp_region_mix (fun W' => BoxS W' w.heap.size ⟨s0, s1, s2, s3⟩) [0, 2] [0, 1, 2] (by kernel_rfl) (by kernel_rfl) hS0 ?_
  (repeat (refine wpMix_read rfl rfl ?_; go_big_quiet_step (fail); refine wpQuiet_nil ?_))
  refine wpMix_eff (k := true) rfl rfl (by kernel_rfl) ?_
  go_wp2_with fail
  refine (All_any _).mono ?_
  rintro e w3 ⟨rfl, hb3⟩
  have hB3 := ext_step hB2.drew hb3
  go_wp2_with fail
  refine mixPost_keep (HC.out _ hB3) ?_
  (repeat (refine wpMix_read rfl rfl ?_; go_big_quiet_step (fail); refine wpQuiet_nil ?_))
  refine wpMix_nil ?_
  have hB4 : Below w.heap.size w w3 := hle.trans (hB3.mono (by simp))
  go_wp2_with fail
  go_ret
  exact ⟨rfl, hB4⟩
set_option maxRecDepth 100000 in
set_option maxHeartbeats 4000000 in
theorem class_runs (s0 s1 s2 s3 : BitVec 64) (hl : (⟨s0, s1, s2, s3⟩ : BS).len ≠ 1) (ha : (⟨s0, s1, s2, s3⟩ : BS) ≠ BS.all) (w : World) (hT : Tab w) :
    Calls Tryz.prog 64 #[.agg #[.int .u64 (wN s0), .int .u64 (wN s1), .int .u64 (wN s2), .int .u64 (wN s3)]] w fun e w' => e = .returned (.string ⟨(setW ⟨s0, s1, s2, s3⟩).toArray⟩) ∧ Below w.heap.size w w' := by
  have HT := Lib.hid (hT.alloc (.cells #[.int .u64 (wN s0), .int .u64 (wN s1), .int .u64 (wN s2), .int .u64 (wN s3)] 109))
  have hl' : ((((⟨s0, s1, s2, s3⟩ : BS).len : Nat) : Int) == 1) = false := by rw [beq_eq_false_iff_ne]; omega
  have haw := all_words s0 s1 s2 s3
  rw [decide_eq_false ha] at haw
  have heq := fun w => eq_words (wN s0) (wN s1) (wN s2) (wN s3) (wN fullW) (wN fullW) (wN fullW) (wN fullW) w
  rw [haw] at heq
  have HW : Hid (setW ⟨s0, s1, s2, s3⟩ = if 128 < (⟨s0, s1, s2, s3⟩ : BS).len then [91, 94] ++ runsW (notS ⟨s0, s1, s2, s3⟩).runs ++ [93] else [91] ++ runsW (⟨s0, s1, s2, s3⟩ : BS).runs ++ [93]) := rfl
  generalize setW ⟨s0, s1, s2, s3⟩ = out at *
  clear hT hl ha haw
  have hc := SetAt0 w s0 s1 s2 s3
  have hlt : w.heap.size < (w.alloc (.cells #[.int .u64 (wN s0), .int .u64 (wN s1), .int .u64 (wN s2), .int .u64 (wN s3)] 109)).heap.size := by simp
  have hle := ext_alloc (Below.refl w.heap.size w) (.cells #[.int .u64 (wN s0), .int .u64 (wN s1), .int .u64 (wN s2), .int .u64 (wN s3)] 109)
  refine (callsIn_wide (n := 5)).1 ?_
  refine callsIn_of_wp_marks Tryz.func64 rfl trivial ?_ rfl
  simp only [Tryz.ntmps64, List.size_toArray, List.length_cons, List.length_nil, Nat.reduceAdd, Nat.reduceSub, Array.replicate_succ, Array.replicate_zero, List.push_toArray, List.append_toArray, List.nil_append, List.cons_append]
  gi_wp2_with fail
  refine (callsIn_wide.2 (Least_any s0 s1 s2 s3 _ HT.out)).mono ?_
  rintro e w1 ⟨rfl, hb1⟩
  generalize decide ((⟨s0, s1, s2, s3⟩ : BS) ≠ BS.none) = d
  generalize (⟨s0, s1, s2, s3⟩ : BS).least = lst
  have hB1 : Below (w.alloc (.cells #[.int .u64 (wN s0), .int .u64 (wN s1), .int .u64 (wN s2), .int .u64 (wN s3)] 109)).heap.size (w.alloc (.cells #[.int .u64 (wN s0), .int .u64 (wN s1), .int .u64 (wN s2), .int .u64 (wN s3)] 109)) w1 := hb1
  obtain ⟨c0, c1, c2, c3⟩ := hc w1 hB1
  clear hb1
  gi_wp2_with fail
  refine (callsIn_wide.2 (Len_any s0 s1 s2 s3 _)).mono ?_
  rintro e w2 ⟨rfl, rfl⟩
  have hB2 : Below (w.alloc (.cells #[.int .u64 (wN s0), .int .u64 (wN s1), .int .u64 (wN s2), .int .u64 (wN s3)] 109)).heap.size (w.alloc (.cells #[.int .u64 (wN s0), .int .u64 (wN s1), .int .u64 (wN s2), .int .u64 (wN s3)] 109)) (w1.alloc (.cells #[.int .u64 (wN s0), .int .u64 (wN s1), .int .u64 (wN s2), .int .u64 (wN s3)] 109)) := ext_alloc hB1 _
  have hSl : ∀ W', Below (w.alloc (.cells #[.int .u64 (wN s0), .int .u64 (wN s1), .int .u64 (wN s2), .int .u64 (wN s3)] 109)).heap.size (w.alloc (.cells #[.int .u64 (wN s0), .int .u64 (wN s1), .int .u64 (wN s2), .int .u64 (wN s3)] 109)) W' → BoxS W' w.heap.size ⟨s0, s1, s2, s3⟩ := fun W' hb => hc W' hb
  have HC := Lib.hid hSl
  clear hc c0 c1 c2 c3 hB1
  generalize w1.alloc (.cells #[.int .u64 (wN s0), .int .u64 (wN s1), .int .u64 (wN s2), .int .u64 (wN s3)] 109) = W1 at *
  have hS0 : BoxS W1.drew w.heap.size ⟨s0, s1, s2, s3⟩ := HC.out _ hB2.drew
  have cs : ∀ p : InC (fun W' => BoxS W' w.heap.size ⟨s0, s1, s2, s3⟩), p.w.cell? ⟨w.heap.size, 0, none⟩ = some (.int .u64 (wN s0)) ∧ p.w.cell? ⟨w.heap.size, 1, none⟩ = some (.int .u64 (wN s1)) ∧ p.w.cell? ⟨w.heap.size, 2, none⟩ = some (.int .u64 (wN s2)) ∧ p.w.cell? ⟨w.heap.size, 3, none⟩ = some (.int .u64 (wN s3)) := fun p => p.h
  have hne : Nonempty (InC (fun W' => BoxS W' w.heap.size ⟨s0, s1, s2, s3⟩)) := ⟨⟨_, hS0⟩⟩
  clear hSl
  gi_wp2_with fail
  refine wpIn_wide.2 ?_
  refine wp_region_mix (fun W' => BoxS W' w.heap.size ⟨s0, s1, s2, s3⟩) [0, 2] [0, 1, 2] (by kernel_rfl) (by kernel_rfl) hS0 ?_
  (repeat (refine wpMix_read rfl rfl ?_; go_big_quiet_step (fail); refine wpQuiet_nil ?_))
  refine wpMix_eff (k := true) rfl rfl (by kernel_rfl) ?_
  go_wp2_with fail
  refine (All_any _).mono ?_
  rintro e w3 ⟨rfl, hb3⟩
  have hB3 := ext_step hB2.drew hb3
  go_wp2_with fail
  refine mixPost_keep (HC.out _ hB3) ?_
  (repeat (refine wpMix_read rfl rfl ?_; go_big_quiet_step (fail); refine wpQuiet_nil ?_))
  refine wpMix_nil ?_
  obtain ⟨c0, c1, c2, c3⟩ := HC.out _ hB3
  clear cs hne hS0 hb3 hB2
  generalize hln : (⟨s0, s1, s2, s3⟩ : BS).len = ln at *
  have hsz3 := hB3.size
  have hlt3 : w.heap.size < w3.heap.size := by omega
  have hwo0 : w.heap.size ≤ w3.heap.size := by omega
  dsimp only at c0 c1 c2 c3
  have hblk : w3.heap[w.heap.size]? = some (.cells #[.int .u64 (wN s0), .int .u64 (wN s1), .int .u64 (wN s2), .int .u64 (wN s3)] 109) := (hB3.block _ hlt).trans (heap_alloc_last _ _)
  have hf0 : ∀ j, w3.frozen? ⟨w.heap.size, j, none⟩ = false := fun j => frozen_of_row _ _ _ _ _ hblk
  by_cases hneg : 128 < ln
  · gi_wp2_with fail
    refine (callsIn_wide.2 (Len_any s0 s1 s2 s3 _)).mono ?_
    rintro e w2 ⟨rfl, rfl⟩
    rw [hln]
    gi_wp2_with fail
    refine (callsIn_wide.2 (Not_any s0 s1 s2 s3 _)).mono ?_
    rintro e w4 ⟨rfl, hb4⟩
    have hB4 : Below w3.heap.size w3 w4 := by repeat (first | exact Below.refl _ _ | assumption | refine Below.drew ?_ | refine ext_drewN ?_ _ | refine ext_alloc ?_ _ | refine Below.setCell ?_ (by (try simp only [World.size_alloc, World.size_setCell, World.size_drew]); omega) _ | refine ext_step ?_ (by assumption))
    have hblk4 : w4.heap[w.heap.size]? = some (.cells #[.int .u64 (wN s0), .int .u64 (wN s1), .int .u64 (wN s2), .int .u64 (wN s3)] 109) := (hB4.block _ hlt3).trans hblk
    have hf4 : ∀ j, w4.frozen? ⟨w.heap.size, j, none⟩ = false := fun j => frozen_of_row _ _ _ _ _ hblk4
    have d0 : w4.cell? ⟨w.heap.size, 0, none⟩ = some (.int .u64 (wN s0)) := by rw [cell_of_row _ _ _ _ _ _ hblk4]; rfl
    have d1 : w4.cell? ⟨w.heap.size, 1, none⟩ = some (.int .u64 (wN s1)) := by rw [cell_of_row _ _ _ _ _ _ hblk4]; rfl
    have d2 : w4.cell? ⟨w.heap.size, 2, none⟩ = some (.int .u64 (wN s2)) := by rw [cell_of_row _ _ _ _ _ _ hblk4]; rfl
    have d3 : w4.cell? ⟨w.heap.size, 3, none⟩ = some (.int .u64 (wN s3)) := by rw [cell_of_row _ _ _ _ _ _ hblk4]; rfl
    have hBo : Below (w3.heap.size + 1) (w3.alloc (.cells #[.string ⟨#[91]⟩] 9)) w4 := ((Below.refl (w3.heap.size + 1) (w3.alloc (.cells #[.string ⟨#[91]⟩] 9))).alloc (by simp) (.cells #[.int .u64 (wN s0), .int .u64 (wN s1), .int .u64 (wN s2), .int .u64 (wN s3)] 109)).trans (hb4.mono (by simp))
    have hbo : w4.heap[w3.heap.size]? = some (.cells #[.string ⟨#[91]⟩] 9) := (hBo.block _ (by omega)).trans (heap_alloc_last _ _)
    have o0 : w4.cell? ⟨w3.heap.size, 0, none⟩ = some (.string ⟨#[91]⟩) := by rw [cell_of_row _ _ _ _ _ _ hbo]; rfl
    have of : w4.frozen? ⟨w3.heap.size, 0, none⟩ = false := frozen_of_row _ _ _ _ _ hbo
    gi_wp2_with fail
    have HQ : Hid (out = ([91, 94] : List UInt8) ++ runsW (⟨~~~s0, ~~~s1, ~~~s2, ~~~s3⟩ : BS).runs ++ [93]) := by show _ = _; rw [HW.out, if_pos hneg]; rfl
    have hB5 : Below w.heap.size w (((((w4.setCell ⟨w.heap.size, 0, none⟩ (.int .u64 (wN (~~~s0)))).setCell ⟨w.heap.size, 1, none⟩ (.int .u64 (wN (~~~s1)))).setCell ⟨w.heap.size, 2, none⟩ (.int .u64 (wN (~~~s2)))).setCell ⟨w.heap.size, 3, none⟩ (.int .u64 (wN (~~~s3)))).setCell ⟨w3.heap.size, 0, none⟩ (.string (⟨#[91]⟩ ++ ⟨#[94]⟩))) := by
      have h3 : Below w.heap.size w w3 := hle.trans (hB3.mono (by simp))
      refine (ext_step h3 hB4).trans ?_
      repeat (first | exact Below.refl _ _ | refine Below.setCell ?_ (by (try simp only [World.size_setCell]); omega) _)
    have ho5 : (((((w4.setCell ⟨w.heap.size, 0, none⟩ (.int .u64 (wN (~~~s0)))).setCell ⟨w.heap.size, 1, none⟩ (.int .u64 (wN (~~~s1)))).setCell ⟨w.heap.size, 2, none⟩ (.int .u64 (wN (~~~s2)))).setCell ⟨w.heap.size, 3, none⟩ (.int .u64 (wN (~~~s3)))).setCell ⟨w3.heap.size, 0, none⟩ (.string (⟨#[91]⟩ ++ ⟨#[94]⟩))).heap[w3.heap.size]? = some (.cells #[.string ⟨([91, 94] : List UInt8).toArray⟩] 9) := by
      rw [heap_setCell_same _ _ _ _ _ _ (by rw [Below.heap_setCell _ _ _ _ (by show w3.heap.size ≠ w.heap.size; omega), Below.heap_setCell _ _ _ _ (by show w3.heap.size ≠ w.heap.size; omega), Below.heap_setCell _ _ _ _ (by show w3.heap.size ≠ w.heap.size; omega), Below.heap_setCell _ _ _ _ (by show w3.heap.size ≠ w.heap.size; omega)]; exact hbo)]
      rfl
    generalize (((((w4.setCell ⟨w.heap.size, 0, none⟩ (.int .u64 (wN (~~~s0)))).setCell ⟨w.heap.size, 1, none⟩ (.int .u64 (wN (~~~s1)))).setCell ⟨w.heap.size, 2, none⟩ (.int .u64 (wN (~~~s2)))).setCell ⟨w.heap.size, 3, none⟩ (.int .u64 (wN (~~~s3)))).setCell ⟨w3.heap.size, 0, none⟩ (.string (⟨#[91]⟩ ++ ⟨#[94]⟩))) = W5 at *
    generalize ~~~s0 = q0 at *
    generalize ~~~s1 = q1 at *
    generalize ~~~s2 = q2 at *
    generalize ~~~s3 = q3 at *
    obtain ⟨pf, hpf⟩ : ∃ pf : List UInt8, pf = [91, 94] := ⟨_, rfl⟩
    rw [← hpf] at HQ ho5
    have hpl : pf.length ≤ 2 := by rw [hpf]; simp
    clear hpf d0 d1 d2 d3 o0 of hbo hBo hf4 hblk4 hB4 hb4 HW hneg
    refine (callsIn_wide.2 (Runs_any q0 q1 q2 q3 _)).mono ?_
    rintro e w' ⟨rfl, rfl⟩
    gi_wp2_with fail
    clear c0 c1 c2 c3 hf0 hblk heq hle hB3 hsz3 HT HC hlt hl' hlt3
    have hlo : w3.heap.size < W5.heap.size := (Array.getElem?_eq_some_iff.1 ho5).1
    have hBox : BoxS (W5.alloc (.cells #[.int .u64 (wN q0), .int .u64 (wN q1), .int .u64 (wN q2), .int .u64 (wN q3)] 109)) W5.heap.size ⟨q0, q1, q2, q3⟩ := BoxS.new W5 q0 q1 q2 q3
    have ho6 : (W5.alloc (.cells #[.int .u64 (wN q0), .int .u64 (wN q1), .int .u64 (wN q2), .int .u64 (wN q3)] 109)).heap[w3.heap.size]? = some (.cells #[.string ⟨pf.toArray⟩] 9) := (Below.heap_alloc _ _ _ hlo).trans ho5
    have hc6 : (W5.alloc (.cells #[.int .u64 (wN q0), .int .u64 (wN q1), .int .u64 (wN q2), .int .u64 (wN q3)] 109)).cell? ⟨w3.heap.size, 0, none⟩ = some (.string ⟨(pf ++ runsW []).toArray⟩) := by rw [cell_of_row _ _ _ _ _ _ ho6]; simp [runsW]
    have hf6 : (W5.alloc (.cells #[.int .u64 (wN q0), .int .u64 (wN q1), .int .u64 (wN q2), .int .u64 (wN q3)] 109)).frozen? ⟨w3.heap.size, 0, none⟩ = false := frozen_of_row _ _ _ _ _ ho6
    have hB6 : Below w.heap.size w (W5.alloc (.cells #[.int .u64 (wN q0), .int .u64 (wN q1), .int .u64 (wN q2), .int .u64 (wN q3)] 109)) := ext_alloc hB5 _
    have hwo : w.heap.size ≤ w3.heap.size := hwo0
    refine wpIn_rangeFunc_ownF rfl (by omega) (gf := 150) (lb := #[.pointer (some ⟨W5.heap.size, 0, none⟩)]) rfl trivial (enters_of Tryz.func150 (by kernel_rfl) rfl)
      (Runs_stops _ W5.heap.size ⟨q0, q1, q2, q3⟩ _ (by simp) hBox) keepB_t (keepB_b (by simp)) (Below.refl _ _) (fun _ => rfl)
      (fun pre W => (W.cell? ⟨w3.heap.size, 0, none⟩ = some (.string ⟨(pf ++ runsW pre).toArray⟩) ∧ W.frozen? ⟨w3.heap.size, 0, none⟩ = false) ∧ (Below w.heap.size w W ∧ (Below 0 (W5.alloc (.cells #[.int .u64 (wN q0), .int .u64 (wN q1), .int .u64 (wN q2), .int .u64 (wN q3)] 109)) W ∧ pre.length ≤ 256)))
      (fun _ _ _ => False)
      (OwnFrom.and (Own.from (fun s A B row hs hg hr => ⟨cell_kept hs.1 hg hr, (frozen_kept hs.1 hg hr).trans hs.2⟩) _) (OwnFrom.and (ownFrom_below (Nat.le_refl _) (by simp; omega)) (OwnFrom.and (ownFrom_below (Nat.zero_le _) (Nat.zero_le _)) (fun _ _ _ _ hs _ _ => hs))))
      (fun _ _ _ _ _ hs _ _ => hs)
      ⟨⟨hc6, hf6⟩, hB6, Below.refl _ _, by simp⟩
      ?a1 ?assign ?body ?done ?stop
    case assign =>
      intro l x W K hK
      gi_wp2
      exact hK
    case body =>
      rintro l pre x W ⟨⟨hc, hf⟩, hB, hZ, _⟩ hlen
      have hbk : W5.heap.size < W.heap.size := by have := hZ.size; simp at this; omega
      have hlt := World.block_lt_of_cell? W _ hc
      dsimp only at hlt
      have hm : Tryz.prog.follows .mixedOrders = true := by kernel_rfl
      have hrl := runsW_len pre
      have hba := byteW_len x.a
      have hbb := byteW_len x.b
      have HY := Lib.hid (fun W => ((callsIn_wide (n := 2)).2 (Byte_any x.a x.ha W)).inRound l)
      have HZ2 := Lib.hid (fun W => ((callsIn_wide (n := 2)).2 (Byte_any x.b x.hb W)).inRound l)
      have HR : Hid (runsW (pre ++ [x]) = runsW pre ++ (byteW x.a ++ if x.a < x.b then 45 :: byteW x.b else [])) := by show _ = _; simp [runsW, runW]
      generalize hcur : pf ++ runsW pre = cur at *
      have hcl : cur.length ≤ 2306 := by rw [← hcur]; simp; omega
      have HCU := Lib.hid hcur
      generalize byteW x.a = ba at *
      generalize byteW x.b = bb at *
      clear hcur hrl
      gi_wp2_with fail
      gi_region_with_o ((refine (HY.out _).mono ?_; rintro e W1 ⟨rfl, hb1⟩; have hc1 : W1.cell? ⟨w3.heap.size, 0, none⟩ = some (.string ⟨cur.toArray⟩) := (hb1.cell (p := ⟨w3.heap.size, 0, none⟩) hlt).trans hc; have hf1 : W1.frozen? ⟨w3.heap.size, 0, none⟩ = false := (hb1.frozen (p := ⟨w3.heap.size, 0, none⟩) hlt).trans hf))
      all_goals
        have hB1 : Below W.heap.size W W1 := by repeat (first | exact Below.refl _ _ | assumption | refine Below.drew ?_ | refine ext_drewN ?_ _ | refine ext_alloc ?_ _ | refine Below.setCell ?_ (by (try simp only [World.size_alloc, World.size_setCell, World.size_drew]); omega) _ | refine ext_step ?_ (by assumption))
        have hO1 := ((OutAt.mk (KeepsOthers.refl W) (KeepB.refl W5.heap.size W) hc hf hB hZ : OutAt w (W5.alloc (.cells #[.int .u64 (wN q0), .int .u64 (wN q1), .int .u64 (wN q2), .int .u64 (wN q3)] 109)) W5.heap.size w3.heap.size W W cur).call hbk hB1).put (by omega) hwo (cur ++ ba)
        rw [show (⟨cur.toArray⟩ ++ ⟨ba.toArray⟩ : ByteArray) = ⟨(cur ++ ba).toArray⟩ from ByteArray.ext (by simp)]
        generalize W1.setCell ⟨w3.heap.size, 0, none⟩ (.string ⟨(cur ++ ba).toArray⟩) = W2 at *
        have hl2 : (cur ++ ba).length ≤ 2310 := by simp; omega
        have HC2 : Hid (cur ++ ba = pf ++ (runsW pre ++ ba)) := by show _ = _; rw [← HCU.out]; simp
        generalize hcb : cur ++ ba = cb at *
        clear hb1 hB1 hc1 hf1 hc hf hcb
        have hc2 := hO1.c
        have hf2 := hO1.f
        have hlt2 := World.block_lt_of_cell? W2 _ hc2
        dsimp only at hlt2
        have HO1 := Lib.hid hO1
        clear hO1
        by_cases hx : x.a < x.b
        · have hx' : (x.a : Int) < (x.b : Int) := by omega
          rw [if_pos hx] at HR
          gi_wp2_with fail
          gi_region_with_o ((refine (HZ2.out _).mono ?_; rintro e W3 ⟨rfl, hb3⟩; have hc3 : W3.cell? ⟨w3.heap.size, 0, none⟩ = some (.string ⟨cb.toArray⟩) := (hb3.cell (p := ⟨w3.heap.size, 0, none⟩) hlt2).trans hc2; have hf3 : W3.frozen? ⟨w3.heap.size, 0, none⟩ = false := (hb3.frozen (p := ⟨w3.heap.size, 0, none⟩) hlt2).trans hf2))
          all_goals
            have hB3 : Below W2.heap.size W2 W3 := by repeat (first | exact Below.refl _ _ | assumption | refine Below.drew ?_ | refine ext_drewN ?_ _ | refine ext_alloc ?_ _ | refine Below.setCell ?_ (by (try simp only [World.size_alloc, World.size_setCell, World.size_drew]); omega) _ | refine ext_step ?_ (by assumption))
            have hO3 := (HO1.out.call hbk hB3).put (by omega) hwo (cb ++ (45 :: bb))
            rw [show (⟨cb.toArray⟩ ++ (⟨#[45]⟩ ++ ⟨bb.toArray⟩) : ByteArray) = ⟨(cb ++ (45 :: bb)).toArray⟩ from ByteArray.ext (by simp)]
            generalize W3.setCell ⟨w3.heap.size, 0, none⟩ (.string ⟨(cb ++ (45 :: bb)).toArray⟩) = W4 at *
            rw [show cb ++ (45 :: bb) = pf ++ runsW (pre ++ [x]) by rw [HC2.out, HR.out]; simp] at hO3
            have HO3 := Lib.hid hO3
            clear hO3 hB3 hb3 hc3 hf3 hc2 hf2
            gi_wp2
            exact ⟨HO3.out.ko, HO3.out.kb, ⟨HO3.out.c, HO3.out.f⟩, HO3.out.bw, HO3.out.b0, by simp; omega⟩
        · have hx' : ¬ (x.a : Int) < (x.b : Int) := by omega
          rw [if_neg hx, List.append_nil] at HR
          have HO3 : Hid (OutAt w (W5.alloc (.cells #[.int .u64 (wN q0), .int .u64 (wN q1), .int .u64 (wN q2), .int .u64 (wN q3)] 109)) W5.heap.size w3.heap.size W W2 (pf ++ runsW (pre ++ [x]))) := by
            show OutAt _ _ _ _ _ _ _
            rw [HR.out, ← HC2.out]; exact HO1.out
          clear hc2 hf2
          gi_wp2
          exact ⟨HO3.out.ko, HO3.out.kb, ⟨HO3.out.c, HO3.out.f⟩, HO3.out.bw, HO3.out.b0, by simp; omega⟩
    case done =>
      rintro D xs W hD rfl ⟨⟨hc, hf⟩, hB, hZ, hxl⟩ hK
      have hrl := runsW_len (⟨q0, q1, q2, q3⟩ : BS).runs
      have HL : Hid (pf ++ runsW (⟨q0, q1, q2, q3⟩ : BS).runs ++ [93] = out) := HQ.out.symm
      generalize hcur : pf ++ runsW (⟨q0, q1, q2, q3⟩ : BS).runs = cur at *
      have hcl : cur.length ≤ 2306 := by rw [← hcur]; simp; omega
      clear hcur hrl
      gi_wp2
      refine ⟨by simp, .inl ⟨_, _, rfl, run_takeDeferred hK, ?_⟩⟩
      refine ⟨_, results_tmp rfl _ _ _, ⟨?_, hB.trans (belowK_b (w := w) (Nat.le_refl _) W D _ _ (by simp at hD; omega) hK rfl rfl)⟩⟩
      exact congrArg (fun s => Ending.returned (.string s)) (ByteArray.ext (by rw [← HL.out]; simp))
    case stop =>
      rintro D c pre W _ _ h _
      exact h.elim
  · have hneg' : ¬ (128 : Int) < (ln : Int) := by omega
    gi_wp2_with fail
    refine (callsIn_wide.2 (Len_any s0 s1 s2 s3 _)).mono ?_
    rintro e w2 ⟨rfl, rfl⟩
    rw [hln]
    have hbo : ((w3.alloc (.cells #[.string ⟨#[91]⟩] 9)).alloc (.cells #[.int .u64 (wN s0), .int .u64 (wN s1), .int .u64 (wN s2), .int .u64 (wN s3)] 109)).heap[w3.heap.size]? = some (.cells #[.string ⟨#[91]⟩] 9) := (Below.heap_alloc _ _ _ (by simp)).trans (heap_alloc_last _ _)
    gi_wp2_with fail
    have HQ : Hid (out = ([91] : List UInt8) ++ runsW (⟨s0, s1, s2, s3⟩ : BS).runs ++ [93]) := by show _ = _; rw [HW.out, if_neg hneg]
    have hB5 : Below w.heap.size w ((w3.alloc (.cells #[.string (⟨#[91]⟩ ++ ⟨#[]⟩)] 9)).alloc (.cells #[.int .u64 (wN s0), .int .u64 (wN s1), .int .u64 (wN s2), .int .u64 (wN s3)] 109)) := by
      have h3 : Below w.heap.size w w3 := hle.trans (hB3.mono (by simp))
      exact ext_alloc (ext_alloc h3 _) _
    have ho5 : ((w3.alloc (.cells #[.string (⟨#[91]⟩ ++ ⟨#[]⟩)] 9)).alloc (.cells #[.int .u64 (wN s0), .int .u64 (wN s1), .int .u64 (wN s2), .int .u64 (wN s3)] 109)).heap[w3.heap.size]? = some (.cells #[.string ⟨([91] : List UInt8).toArray⟩] 9) := (Below.heap_alloc _ _ _ (by simp)).trans (heap_alloc_last _ _)
    generalize ((w3.alloc (.cells #[.string (⟨#[91]⟩ ++ ⟨#[]⟩)] 9)).alloc (.cells #[.int .u64 (wN s0), .int .u64 (wN s1), .int .u64 (wN s2), .int .u64 (wN s3)] 109)) = W5 at *
    obtain ⟨q0, hq0⟩ : ∃ q, q = s0 := ⟨_, rfl⟩
    obtain ⟨q1, hq1⟩ : ∃ q, q = s1 := ⟨_, rfl⟩
    obtain ⟨q2, hq2⟩ : ∃ q, q = s2 := ⟨_, rfl⟩
    obtain ⟨q3, hq3⟩ : ∃ q, q = s3 := ⟨_, rfl⟩
    rw [← hq0, ← hq1, ← hq2, ← hq3] at HQ
    rw [← hq0, ← hq1, ← hq2, ← hq3]
    obtain ⟨pf, hpf⟩ : ∃ pf : List UInt8, pf = [91] := ⟨_, rfl⟩
    rw [← hpf] at HQ ho5
    have hpl : pf.length ≤ 2 := by rw [hpf]; simp
    clear hpf hbo HW hneg hq0 hq1 hq2 hq3
    refine (callsIn_wide.2 (Runs_any q0 q1 q2 q3 _)).mono ?_
    rintro e w' ⟨rfl, rfl⟩
    gi_wp2_with fail
    clear c0 c1 c2 c3 hf0 hblk heq hle hB3 hsz3 HT HC hlt hl' hlt3
    have hlo : w3.heap.size < W5.heap.size := (Array.getElem?_eq_some_iff.1 ho5).1
    have hBox : BoxS (W5.alloc (.cells #[.int .u64 (wN q0), .int .u64 (wN q1), .int .u64 (wN q2), .int .u64 (wN q3)] 109)) W5.heap.size ⟨q0, q1, q2, q3⟩ := BoxS.new W5 q0 q1 q2 q3
    have ho6 : (W5.alloc (.cells #[.int .u64 (wN q0), .int .u64 (wN q1), .int .u64 (wN q2), .int .u64 (wN q3)] 109)).heap[w3.heap.size]? = some (.cells #[.string ⟨pf.toArray⟩] 9) := (Below.heap_alloc _ _ _ hlo).trans ho5
    have hc6 : (W5.alloc (.cells #[.int .u64 (wN q0), .int .u64 (wN q1), .int .u64 (wN q2), .int .u64 (wN q3)] 109)).cell? ⟨w3.heap.size, 0, none⟩ = some (.string ⟨(pf ++ runsW []).toArray⟩) := by rw [cell_of_row _ _ _ _ _ _ ho6]; simp [runsW]
    have hf6 : (W5.alloc (.cells #[.int .u64 (wN q0), .int .u64 (wN q1), .int .u64 (wN q2), .int .u64 (wN q3)] 109)).frozen? ⟨w3.heap.size, 0, none⟩ = false := frozen_of_row _ _ _ _ _ ho6
    have hB6 : Below w.heap.size w (W5.alloc (.cells #[.int .u64 (wN q0), .int .u64 (wN q1), .int .u64 (wN q2), .int .u64 (wN q3)] 109)) := ext_alloc hB5 _
    have hwo : w.heap.size ≤ w3.heap.size := hwo0
    refine wpIn_rangeFunc_ownF rfl (by omega) (gf := 150) (lb := #[.pointer (some ⟨W5.heap.size, 0, none⟩)]) rfl trivial (enters_of Tryz.func150 (by kernel_rfl) rfl)
      (Runs_stops _ W5.heap.size ⟨q0, q1, q2, q3⟩ _ (by simp) hBox) keepB_t (keepB_b (by simp)) (Below.refl _ _) (fun _ => rfl)
      (fun pre W => (W.cell? ⟨w3.heap.size, 0, none⟩ = some (.string ⟨(pf ++ runsW pre).toArray⟩) ∧ W.frozen? ⟨w3.heap.size, 0, none⟩ = false) ∧ (Below w.heap.size w W ∧ (Below 0 (W5.alloc (.cells #[.int .u64 (wN q0), .int .u64 (wN q1), .int .u64 (wN q2), .int .u64 (wN q3)] 109)) W ∧ pre.length ≤ 256)))
      (fun _ _ _ => False)
      (OwnFrom.and (Own.from (fun s A B row hs hg hr => ⟨cell_kept hs.1 hg hr, (frozen_kept hs.1 hg hr).trans hs.2⟩) _) (OwnFrom.and (ownFrom_below (Nat.le_refl _) (by simp; omega)) (OwnFrom.and (ownFrom_below (Nat.zero_le _) (Nat.zero_le _)) (fun _ _ _ _ hs _ _ => hs))))
      (fun _ _ _ _ _ hs _ _ => hs)
      ⟨⟨hc6, hf6⟩, hB6, Below.refl _ _, by simp⟩
      ?a12 ?assign2 ?body2 ?done2 ?stop2
    case assign2 =>
      intro l x W K hK
      gi_wp2
      exact hK
    case body2 =>
      rintro l pre x W ⟨⟨hc, hf⟩, hB, hZ, _⟩ hlen
      have hbk : W5.heap.size < W.heap.size := by have := hZ.size; simp at this; omega
      have hlt := World.block_lt_of_cell? W _ hc
      dsimp only at hlt
      have hm : Tryz.prog.follows .mixedOrders = true := by kernel_rfl
      have hrl := runsW_len pre
      have hba := byteW_len x.a
      have hbb := byteW_len x.b
      have HY := Lib.hid (fun W => ((callsIn_wide (n := 2)).2 (Byte_any x.a x.ha W)).inRound l)
      have HZ2 := Lib.hid (fun W => ((callsIn_wide (n := 2)).2 (Byte_any x.b x.hb W)).inRound l)
      have HR : Hid (runsW (pre ++ [x]) = runsW pre ++ (byteW x.a ++ if x.a < x.b then 45 :: byteW x.b else [])) := by show _ = _; simp [runsW, runW]
      generalize hcur : pf ++ runsW pre = cur at *
      have hcl : cur.length ≤ 2306 := by rw [← hcur]; simp; omega
      have HCU := Lib.hid hcur
      generalize byteW x.a = ba at *
      generalize byteW x.b = bb at *
      clear hcur hrl
      gi_wp2_with fail
      gi_region_with_o ((refine (HY.out _).mono ?_; rintro e W1 ⟨rfl, hb1⟩; have hc1 : W1.cell? ⟨w3.heap.size, 0, none⟩ = some (.string ⟨cur.toArray⟩) := (hb1.cell (p := ⟨w3.heap.size, 0, none⟩) hlt).trans hc; have hf1 : W1.frozen? ⟨w3.heap.size, 0, none⟩ = false := (hb1.frozen (p := ⟨w3.heap.size, 0, none⟩) hlt).trans hf))
      all_goals
        have hB1 : Below W.heap.size W W1 := by repeat (first | exact Below.refl _ _ | assumption | refine Below.drew ?_ | refine ext_drewN ?_ _ | refine ext_alloc ?_ _ | refine Below.setCell ?_ (by (try simp only [World.size_alloc, World.size_setCell, World.size_drew]); omega) _ | refine ext_step ?_ (by assumption))
        have hO1 := ((OutAt.mk (KeepsOthers.refl W) (KeepB.refl W5.heap.size W) hc hf hB hZ : OutAt w (W5.alloc (.cells #[.int .u64 (wN q0), .int .u64 (wN q1), .int .u64 (wN q2), .int .u64 (wN q3)] 109)) W5.heap.size w3.heap.size W W cur).call hbk hB1).put (by omega) hwo (cur ++ ba)
        rw [show (⟨cur.toArray⟩ ++ ⟨ba.toArray⟩ : ByteArray) = ⟨(cur ++ ba).toArray⟩ from ByteArray.ext (by simp)]
        generalize W1.setCell ⟨w3.heap.size, 0, none⟩ (.string ⟨(cur ++ ba).toArray⟩) = W2 at *
        have hl2 : (cur ++ ba).length ≤ 2310 := by simp; omega
        have HC2 : Hid (cur ++ ba = pf ++ (runsW pre ++ ba)) := by show _ = _; rw [← HCU.out]; simp
        generalize hcb : cur ++ ba = cb at *
        clear hb1 hB1 hc1 hf1 hc hf hcb
        have hc2 := hO1.c
        have hf2 := hO1.f
        have hlt2 := World.block_lt_of_cell? W2 _ hc2
        dsimp only at hlt2
        have HO1 := Lib.hid hO1
        clear hO1
        by_cases hx : x.a < x.b
        · have hx' : (x.a : Int) < (x.b : Int) := by omega
          rw [if_pos hx] at HR
          gi_wp2_with fail
          gi_region_with_o ((refine (HZ2.out _).mono ?_; rintro e W3 ⟨rfl, hb3⟩; have hc3 : W3.cell? ⟨w3.heap.size, 0, none⟩ = some (.string ⟨cb.toArray⟩) := (hb3.cell (p := ⟨w3.heap.size, 0, none⟩) hlt2).trans hc2; have hf3 : W3.frozen? ⟨w3.heap.size, 0, none⟩ = false := (hb3.frozen (p := ⟨w3.heap.size, 0, none⟩) hlt2).trans hf2))
          all_goals
            have hB3 : Below W2.heap.size W2 W3 := by repeat (first | exact Below.refl _ _ | assumption | refine Below.drew ?_ | refine ext_drewN ?_ _ | refine ext_alloc ?_ _ | refine Below.setCell ?_ (by (try simp only [World.size_alloc, World.size_setCell, World.size_drew]); omega) _ | refine ext_step ?_ (by assumption))
            have hO3 := (HO1.out.call hbk hB3).put (by omega) hwo (cb ++ (45 :: bb))
            rw [show (⟨cb.toArray⟩ ++ (⟨#[45]⟩ ++ ⟨bb.toArray⟩) : ByteArray) = ⟨(cb ++ (45 :: bb)).toArray⟩ from ByteArray.ext (by simp)]
            generalize W3.setCell ⟨w3.heap.size, 0, none⟩ (.string ⟨(cb ++ (45 :: bb)).toArray⟩) = W4 at *
            rw [show cb ++ (45 :: bb) = pf ++ runsW (pre ++ [x]) by rw [HC2.out, HR.out]; simp] at hO3
            have HO3 := Lib.hid hO3
            clear hO3 hB3 hb3 hc3 hf3 hc2 hf2
            gi_wp2
            exact ⟨HO3.out.ko, HO3.out.kb, ⟨HO3.out.c, HO3.out.f⟩, HO3.out.bw, HO3.out.b0, by simp; omega⟩
        · have hx' : ¬ (x.a : Int) < (x.b : Int) := by omega
          rw [if_neg hx, List.append_nil] at HR
          have HO3 : Hid (OutAt w (W5.alloc (.cells #[.int .u64 (wN q0), .int .u64 (wN q1), .int .u64 (wN q2), .int .u64 (wN q3)] 109)) W5.heap.size w3.heap.size W W2 (pf ++ runsW (pre ++ [x]))) := by
            show OutAt _ _ _ _ _ _ _
            rw [HR.out, ← HC2.out]; exact HO1.out
          clear hc2 hf2
          gi_wp2
          exact ⟨HO3.out.ko, HO3.out.kb, ⟨HO3.out.c, HO3.out.f⟩, HO3.out.bw, HO3.out.b0, by simp; omega⟩
    case done2 =>
      rintro D xs W hD rfl ⟨⟨hc, hf⟩, hB, hZ, hxl⟩ hK
      have hrl := runsW_len (⟨q0, q1, q2, q3⟩ : BS).runs
      have HL : Hid (pf ++ runsW (⟨q0, q1, q2, q3⟩ : BS).runs ++ [93] = out) := HQ.out.symm
      generalize hcur : pf ++ runsW (⟨q0, q1, q2, q3⟩ : BS).runs = cur at *
      have hcl : cur.length ≤ 2306 := by rw [← hcur]; simp; omega
      clear hcur hrl
      gi_wp2
      refine ⟨by simp, .inl ⟨_, _, rfl, run_takeDeferred hK, ?_⟩⟩
      refine ⟨_, results_tmp rfl _ _ _, ⟨?_, hB.trans (belowK_b (w := w) (Nat.le_refl _) W D _ _ (by simp at hD; omega) hK rfl rfl)⟩⟩
      exact congrArg (fun s => Ending.returned (.string s)) (ByteArray.ext (by rw [← HL.out]; simp))
    case stop2 =>
      rintro D c pre W _ _ h _
      exact h.elim
/-- a set as it is written -/
theorem class_any (s0 s1 s2 s3 : BitVec 64) (w : World) (hT : Tab w) (hle : (⟨s0, s1, s2, s3⟩ : BS).least < 256) :
    Calls Tryz.prog 64 #[.agg #[.int .u64 (wN s0), .int .u64 (wN s1), .int .u64 (wN s2), .int .u64 (wN s3)]] w fun e w' => e = .returned (.string ⟨(classW ⟨s0, s1, s2, s3⟩).toArray⟩) ∧ Below w.heap.size w w' := by
  unfold classW
  split
  · rename_i h
    exact class_one s0 s1 s2 s3 _ hle h rfl w hT
  · split
    · rename_i h1 h2; exact class_all s0 s1 s2 s3 h1 h2 w hT
    · rename_i h1 h2; exact class_runs s0 s1 s2 s3 h1 h2 w hT
end Go.Proofs.YtgamknphlmcgnaaGreatDoor
end
section
set_option linter.unusedSimpArgs false
set_option linter.unusedVariables false
set_option maxRecDepth 100000
set_option linter.unnecessarySimpa false
namespace Go.Proofs.YtgamknphlmcgnaaGreatDoor
open Go.RowKit
theorem re_grownBy {W W' : World} (hb : Below W.heap.size W W') : W.grownBy W' none := ⟨hb.os, hb.tape, hb.output, hb.size, fun k hk _ => hb.block k hk⟩
theorem re_alloc (W : World) (o : Obj) : Below W.heap.size W (W.alloc o) := ext_alloc (Below.refl _ W) o
theorem infoStr : (Tryz.prog.info? 9).map (fun i => (i.zero, i.size, i.bytes)) = some (some (.string ⟨#[]⟩), 1, 16) := by kernel_rfl
def strV (l : List UInt8) : Value := .string ⟨l.toArray⟩
theorem strV_one (l : List (List UInt8)) : ∀ u ∈ l.map strV, u.oneCell' = true := by intro u hu; obtain ⟨x, _, rfl⟩ := List.mem_map.1 hu; rfl
/-- the cells of a node that is being made -/
def nodeOf (o : Nat) (s : BS) (kp : Option Addr) (n cap : Nat) (nl : Bool) (key : List UInt8) (sz : Nat) : Array Value :=
  #[.int .i64 o, .int .u64 (wN s.a), .int .u64 (wN s.b), .int .u64 (wN s.c), .int .u64 (wN s.d), .slice kp n cap, .bool nl, .string ⟨key.toArray⟩, .int .i64 sz]
/-- between two rounds: the parts so far, and the node so far -/
structure MadeW (w : World) (N o : Nat) (s : BS) (kp : Option Addr) (n cap : Nat) (nl : Bool) (ps : List (List UInt8)) (sz : Nat) (v : Value) (wr : World) : Prop where
  own : wr.ownsRow w.heap.size 9 1 v ps.length (ps.map strV)
  ne : v.ownBlock ≠ some N
  node : wr.heap[N]? = some (.cells (nodeOf o s kp n cap nl [] sz) 117 (0, 0))
  bel : Below w.heap.size w wr
  lo : w.heap.size ≤ N
theorem MadeW.lt {w wr : World} {N o : Nat} {s : BS} {kp : Option Addr} {n cap : Nat} {nl : Bool} {ps : List (List UInt8)} {sz : Nat} {v : Value} (h : MadeW w N o s kp n cap nl ps sz v wr) : N < wr.heap.size := (Array.getElem?_eq_some_iff.1 h.node).1
theorem MadeW.later {w wr wr' : World} {N o : Nat} {s : BS} {kp : Option Addr} {n cap : Nat} {nl : Bool} {ps : List (List UInt8)} {sz : Nat} {v : Value} (h : MadeW w N o s kp n cap nl ps sz v wr) (hb : Below wr.heap.size wr wr') : MadeW w N o s kp n cap nl ps sz v wr' :=
  ⟨h.own.kept (re_grownBy hb) (by cases v.ownBlock <;> simp), h.ne, by rw [hb.block _ h.lt]; exact h.node, ext_step h.bel hb, h.lo⟩
theorem MadeW.appended {w wr Wa W' : World} {N o : Nat} {s : BS} {kp : Option Addr} {n cap : Nat} {nl : Bool} {ps : List (List UInt8)} {sz : Nat} {v : Value} {k : List UInt8} {g cp H : Nat} (h : MadeW w N o s kp n cap nl ps sz v wr) (hb : Below wr.heap.size wr Wa) (hH : wr.heap.size ≤ H)
   (hown : W'.ownsRow w.heap.size 9 1 (.slice (some ⟨g, 0, none⟩) (ps.length + 1) cp) (ps.length + 1) (ps.map strV ++ [strV k])) (hg : Wa.grownBy W' v.ownBlock) (hat : v.ownBlock = some g ∨ g = H) :
    MadeW w N o s kp n cap nl (ps ++ [k]) sz (.slice (some ⟨g, 0, none⟩) (ps.length + 1) cp) W' := by
  have hW := h.later hb
  have h1 := h.lt
  refine ⟨by rw [List.length_append, List.map_append]; exact hown, ?_, ?_, hW.bel.grown hg hW.bel.size (fun k e => (h.own.lt k e).1), h.lo⟩
  · simp only [Value.ownBlock, ne_eq, Option.map_some, Option.some.injEq]
    rcases hat with e | e
    · intro e'; exact h.ne (by rw [e]; simpa using e')
    · intro e'; have : g = N := by simpa using e'
      omega
  · rw [hg.block N hW.lt (fun e => h.ne e.symm)]; exact hW.node
theorem MadeW.setSize {w wr : World} {N o : Nat} {s : BS} {kp : Option Addr} {n cap : Nat} {nl : Bool} {ps : List (List UInt8)} {sz sz' : Nat} {v : Value} (h : MadeW w N o s kp n cap nl ps sz v wr) : MadeW w N o s kp n cap nl ps sz' v (wr.setCell ⟨N, 8, none⟩ (.int .i64 (sz' : Nat))) := by
  have hg : wr.grownBy (wr.setCell ⟨N, 8, none⟩ (.int .i64 (sz' : Nat))) (some N) := ⟨rfl, rfl, rfl, by simp, fun k hk hne => Below.heap_setCell _ _ _ _ (fun e => hne (by rw [e]))⟩
  refine ⟨h.own.kept hg (.inr h.ne), h.ne, ?_, h.bel.setCell h.lo _, h.lo⟩
  rw [heap_setCell_same _ _ _ _ _ _ h.node]; rfl
def MadeAt (w : World) (N o : Nat) (s : BS) (kp : Option Addr) (ks : List RE) (cap : Nat) (nl : Bool) (v i : Value) (wr : World) : Prop :=
  ∃ k : Nat, k ≤ ks.length ∧ i = .int .i64 k ∧ MadeW w N o s kp ks.length cap nl (RE.parts o s (RE.keys (ks.take k))) (1 + RE.sizes (ks.take k)) v wr
set_option maxRecDepth 100000 in
set_option maxHeartbeats 4000000 in
theorem made_other (o : Nat) (ho : o < 8) (ho2 : o ≠ 2) (s0 s1 s2 s3 : BitVec 64) (nl : Bool) (kp : Option Addr) (cap : Nat) (bs : List Nat) (ks : List RE) (w : World) (hr : PtrsAt w kp bs) (hk : AreRe w bs ks) (hnl : nl = (RE.node o ⟨s0, s1, s2, s3⟩ ks).null) (hsz : RE.sizes ks ≤ 1099511627776) :
    Calls Tryz.prog 59 #[.int .i64 o, .agg #[.int .u64 (wN s0), .int .u64 (wN s1), .int .u64 (wN s2), .int .u64 (wN s3)], .bool nl, .slice kp ks.length cap] w fun e w' => ∃ b, e = .returned (ptr b) ∧ w.heap.size ≤ b ∧ w'.heap[b]? = some (.cells (nodeCells (RE.node o ⟨s0, s1, s2, s3⟩ ks) kp cap) 117 (0, 0)) ∧ Below w.heap.size w w' := by
  have HR := Lib.hid hr
  have HK := Lib.hid hk
  have HNL := Lib.hid hnl
  clear hr hk hnl
  obtain ⟨i0, hi, hz0, hz1, hz2⟩ := info_parts infoStr
  have HI := Lib.hid hi; have HZ0 := Lib.hid hz0; have HZ1 := Lib.hid hz1; have HZ2 := Lib.hid hz2
  clear hi hz0 hz1 hz2
  have hls := RE.len_sizes ks
  have ho2' : ¬ (o : Int) = 2 := by omega
  have hob : ((o : Int) == 2) = false := by simpa using ho2'
  obtain ⟨d, hd⟩ : ∃ d : UInt8, d = (48 + o).toUInt8 := ⟨_, rfl⟩
  have hIt := Itoa_op o ho
  rw [← hd] at hIt
  have HIT := Lib.hid hIt
  have HD := Lib.hid hd
  clear hIt hd
  go_enter Tryz.func59, Tryz.ntmps59
  go_wp2_with (go_at_call 107; refine (HIT.out _).mono ?_; rintro e w' ⟨rfl, rfl⟩)
  go_loopw [10, 38] (fun v i wr => MadeAt w (w.heap.size + 1) o ⟨s0, s1, s2, s3⟩ kp ks cap nl v i wr) (fun _ i _ => ks.length - (intOf i).toNat)
  case atStart =>
    refine ⟨0, by omega, rfl, ?_, ?_, ?_, ?_, by omega⟩
    · have hp : RE.parts o ⟨s0, s1, s2, s3⟩ (RE.keys (ks.take 0)) = [[d]] := by rw [HD.out]; simp [RE.parts, RE.keys, ho2]
      rw [hp]
      have hl := World.ownsRow_lit (base := w.heap.size) (e := 9) (size := 1) ((w.alloc (.cells #[.int .u64 (wN s0), .int .u64 (wN s1), .int .u64 (wN s2), .int .u64 (wN s3)] 109)).alloc (.cells (nodeOf o ⟨s0, s1, s2, s3⟩ kp ks.length cap nl [] 1) 117)) #[strV [d]] 1 (by simp; omega) (by unfold maxLen; omega) rfl
      rw [World.size_alloc, World.size_alloc] at hl
      exact hl
    · simp [Value.ownBlock]
    · refine ((re_alloc _ _).block (w.heap.size + 1) ?_).trans (heap_alloc2_new w _ _)
      simp
    · repeat (first | exact Below.refl _ _ | assumption | refine Below.drew ?_ | refine ext_drewN ?_ _ | refine ext_alloc ?_ _ | refine Below.setCell ?_ (by (try simp only [World.size_alloc, World.size_setCell, World.size_drew]); omega) _ | refine ext_step ?_ (by assumption))
  case round =>
    obtain ⟨k, hk, rfl, hW⟩ := hrel
    by_cases hlt : k < ks.length
    · obtain ⟨hbl, hkids⟩ := HK.out
      rcases HR.out with h0 | ⟨kb, ko, rfl, hrow⟩
      · rw [h0] at hbl; simp at hbl; omega
      have hptr : w.cell? ⟨kb, ko + k, none⟩ = some (.pointer (some ⟨bs.getD k 0, 0, none⟩)) := hrow k (by omega)
      have hkbl := World.block_lt_of_cell? w _ hptr
      rw [← hW.bel.cell (p := ⟨kb, ko + k, none⟩) hkbl] at hptr
      have hkid := hkids k hlt
      have HPS : Hid (RE.parts o ⟨s0, s1, s2, s3⟩ (RE.keys (ks.take (k + 1))) = RE.parts o ⟨s0, s1, s2, s3⟩ (RE.keys (ks.take k)) ++ [(ks.getD k RE.nothing).key]) := by
        show _ = _
        rw [RE.take_snoc ks k hlt, RE.keys_append, ← RE.parts_snoc]; rfl
      have HSZ : Hid (1 + RE.sizes (ks.take (k + 1)) = 1 + RE.sizes (ks.take k) + (ks.getD k RE.nothing).size) := by
        show _ = _
        rw [RE.take_snoc ks k hlt, RE.sizes_append]; simp [RE.sizes]; omega
      have hsz1 := RE.sizes_take ks (k + 1)
      have hpl : (RE.parts o ⟨s0, s1, s2, s3⟩ (RE.keys (ks.take k))).length ≤ 5 + ks.length := by
        simp [RE.parts, ho2, RE.keys_map]; omega
      have hsz2 := HSZ.out
      generalize RE.parts o ⟨s0, s1, s2, s3⟩ (RE.keys (ks.take k)) = ps at *
      generalize 1 + RE.sizes (ks.take k) = sz at *
      generalize ks.getD k RE.nothing = r at *
      generalize bs.getD k 0 = b at *
      obtain ⟨kp1, cap1, bs1, hnode, _, _⟩ := hkid.open
      have hbk := hkid.lt
      have hnode1 := (hW.bel.block b hbk).trans hnode
      have hkey : wr.cell? ⟨b, 7, none⟩ = some (.string ⟨r.key.toArray⟩) := by rw [cell_of_row _ _ _ _ _ _ hnode1]; rfl
      have hksz : wr.cell? ⟨b, 8, none⟩ = some (.int .i64 (r.size : Nat)) := by rw [cell_of_row _ _ _ _ _ _ hnode1]; rfl
      have hnsz : wr.cell? ⟨w.heap.size + 1, 8, none⟩ = some (.int .i64 (sz : Nat)) := by rw [cell_of_row _ _ _ _ _ _ hW.node]; rfl
      clear hsz2 hnode hnode1 hkid hkids hrow
      go_wp2_with (at_builtin; refine wpList_append_lies _ rfl _ _ _ rfl w.heap.size 9 i0 _ 1 16 Tryz.underlying50 HI.out HZ0.out HZ1.out HZ2.out rfl (by omega) u10 ps.length (ps.map strV) rfl (hW.own.alloc _) ⟨wr.heap.size, 0, none⟩ 1 1 [strV r.key] rfl rfl (World.news_of_block (cs := #[strV r.key]) (t := 9) (fr := (0, 0)) (heap_alloc_last wr _)) (strV_one [r.key]) (by omega) (by unfold maxLen; omega) (by omega) (by have := hW.bel.size; simp; omega) (wr.heap.size + 1) (by simp) ?_; intro g5 cp5 W9 hown9 hg9 hat9 hlt9)
      have hW9 := hW.appended (re_alloc wr _) (by omega) hown9 hg9 hat9
      have hb9 : W9.heap[b]? = wr.heap[b]? := by
        have h1 := hW.bel.size
        rw [hg9.block b (by simp; omega) (fun e => by have := (hW.own.lt b e.symm).1; omega), Below.heap_alloc _ _ _ (by omega)]
      obtain ⟨S, hS⟩ : ∃ S : World → Prop, ∀ W', S W' ↔ (W'.cell? ⟨w.heap.size + 1, 8, none⟩ = some (.int .i64 (sz : Nat)) ∧ W'.cell? ⟨b, 8, none⟩ = some (.int .i64 (r.size : Nat))) := ⟨_, fun _ => Iff.rfl⟩
      have HS := Lib.hid hS
      clear hS
      have cs : ∀ p : InC S, p.w.cell? ⟨w.heap.size + 1, 8, none⟩ = some (.int .i64 (sz : Nat)) ∧ p.w.cell? ⟨b, 8, none⟩ = some (.int .i64 (r.size : Nat)) := fun p => (HS.out p.w).1 p.h
      have hS0 : S W9.drew := (HS.out _).2 ⟨by show W9.cell? _ = _; rw [cell_of_row _ _ _ _ _ _ hW9.node]; rfl, by show W9.cell? _ = _; rw [World.cell?_of_block (w := wr) (a := ⟨b, 8, none⟩) hb9]; exact hksz⟩
      have hne : Nonempty (InC S) := ⟨⟨_, hS0⟩⟩
      clear hown9 hg9 hat9 hb9 hW hptr hkey hksz hnsz
      have hszr : sz + r.size ≤ 1099511627777 := by have := HSZ.out; omega
      have hfr : W9.frozen? ⟨w.heap.size + 1, 8, none⟩ = false := frozen_of_row _ _ _ _ _ hW9.node
      have hcc : W9.cell? ⟨w.heap.size + 1, 8, none⟩ = some (.int .i64 (sz : Nat)) := by rw [cell_of_row _ _ _ _ _ _ hW9.node]; rfl
      refine wp_region_mix S [0, 1, 2, 3, 4, 5, 6, 7, 8, 9, 10] [0, 1, 2, 3, 4, 5, 6, 7, 8, 9, 10, 11] (by kernel_rfl) (by kernel_rfl) hS0 ?_
      (repeat (refine wpMix_read rfl rfl ?_; go_big_quiet_step (fail); refine wpQuiet_nil ?_))
      refine wpMix_eff (k := false) rfl rfl (by kernel_rfl) ?_
      go_wp2_with fail
      refine mixPost_last (wpMix_nil ?_)
      have hW10 := (hW9.setSize (sz' := sz + r.size)).later (Below.refl _ _).drew
      rw [Int.natCast_add, ← HPS.out, ← HSZ.out] at hW10
      have HW10 := Lib.hid hW10
      clear hW10 hW9 hS0 hne cs hfr hcc
      go_wp2
      go_roundw
      case rel => exact ⟨k + 1, by omega, by go_num, HW10.out⟩
      case measure => simp [intOf]; omega
    · obtain rfl : k = ks.length := by omega
      rw [List.take_length] at hW
      have hjl := RE.join_len o ⟨s0, s1, s2, s3⟩ ks
      have hpn : 0 < (RE.parts o ⟨s0, s1, s2, s3⟩ (RE.keys ks)).length := by simp [RE.parts]
      have HKEY : Hid ((RE.node o ⟨s0, s1, s2, s3⟩ ks).key = [40] ++ Lib.join (RE.parts o ⟨s0, s1, s2, s3⟩ (RE.keys ks)) [32] ++ [41]) := by show _ = _; rw [RE.key]
      have hpl : (RE.parts o ⟨s0, s1, s2, s3⟩ (RE.keys ks)).length ≤ 5 + ks.length := by
        simp [RE.parts, ho2, RE.keys_map]; omega
      have HN : Hid (1 + RE.sizes ks = (RE.node o ⟨s0, s1, s2, s3⟩ ks).size) := by show _ = _; rw [RE.size]
      have hszn : 1 + RE.sizes ks ≤ 1099511627777 := by omega
      generalize RE.parts o ⟨s0, s1, s2, s3⟩ (RE.keys ks) = ps at *
      rcases hW.own.2 with ⟨_, h0⟩ | ⟨g, cp, cur, rfl, hgB, hgb, hnc, _, _, _⟩
      · omega
      have hJ := Join_any g 0 cp (ps.map fun l => ⟨l.toArray⟩) ⟨#[32]⟩ wr (fun j x hx => by
        rw [Nat.zero_add, hW.own.cellAt j (by have := (List.getElem?_eq_some_iff.1 hx).1; simpa using this)]
        simp at hx ⊢
        obtain ⟨y, h1, h2⟩ := hx
        exact ⟨y, h1, by rw [← h2]; rfl⟩) (Array.getElem?_eq_some_iff.1 hgb).1 (by simp; omega) (by simpa using hnc) (by simp [Function.comp_def]; omega)
      simp only [List.length_map, List.map_map, Function.comp_def, List.map_id'] at hJ
      generalize Lib.join ps [32] = jo at *
      have HJ := Lib.hid hJ
      clear hJ
      go_wp2_with fail
      refine HJ.out.mono ?_
      rintro e w1 ⟨rfl, hb1⟩
      have hW1 := hW.later hb1
      have hfr : w1.frozen? ⟨w.heap.size + 1, 7, none⟩ = false := frozen_of_row _ _ _ _ _ hW1.node
      have hcc : w1.cell? ⟨w.heap.size + 1, 7, none⟩ = some (.string ⟨#[]⟩) := by rw [cell_of_row _ _ _ _ _ _ hW1.node]; rfl
      go_wp2_with fail
      go_ret
      refine ⟨w.heap.size + 1, rfl, by omega, ?_, hW1.bel.setCell hW1.lo _⟩
      · rw [heap_setCell_same _ _ _ _ _ _ hW1.node]
        rw [show (⟨#[40]⟩ ++ ⟨jo.toArray⟩ ++ ⟨#[41]⟩ : ByteArray) = ⟨(RE.node o ⟨s0, s1, s2, s3⟩ ks).key.toArray⟩ by rw [HKEY.out]; exact ByteArray.ext (by simp)]
        unfold nodeCells
        rw [← HN.out, ← HNL.out]
        rfl
theorem FmtWord_any (x : BitVec 64) (w : World) : Calls Tryz.prog 108 #[.int .u64 (wN x), .int .i64 36] w fun e w' => e = .returned (.string ⟨(fmt36 x.toNat).toArray⟩) ∧ Below w.heap.size w w' := FormatUint_any x.toNat x.isLt w
def wordAt (s : BS) (k : Nat) : BitVec 64 := if k = 0 then s.a else if k = 1 then s.b else if k = 2 then s.c else s.d
theorem idxWord (s0 s1 s2 s3 : BitVec 64) (k : Nat) (h : k < 4) (w : World) : (Instr.index 109 (.agg #[.int .u64 (wN s0), .int .u64 (wN s1), .int .u64 (wN s2), .int .u64 (wN s3)]) (.int .i64 (k : Int))).run Tryz.prog w = .ok (.int .u64 (wN (wordAt ⟨s0, s1, s2, s3⟩ k))) w := by
  have i0 : ∀ w, (Instr.index 109 (.agg #[.int .u64 (wN s0), .int .u64 (wN s1), .int .u64 (wN s2), .int .u64 (wN s3)]) (.int .i64 0)).run Tryz.prog w = .ok (.int .u64 (wN s0)) w := fun _ => by kernel_rfl
  have i1 : ∀ w, (Instr.index 109 (.agg #[.int .u64 (wN s0), .int .u64 (wN s1), .int .u64 (wN s2), .int .u64 (wN s3)]) (.int .i64 1)).run Tryz.prog w = .ok (.int .u64 (wN s1)) w := fun _ => by kernel_rfl
  have i2 : ∀ w, (Instr.index 109 (.agg #[.int .u64 (wN s0), .int .u64 (wN s1), .int .u64 (wN s2), .int .u64 (wN s3)]) (.int .i64 2)).run Tryz.prog w = .ok (.int .u64 (wN s2)) w := fun _ => by kernel_rfl
  have i3 : ∀ w, (Instr.index 109 (.agg #[.int .u64 (wN s0), .int .u64 (wN s1), .int .u64 (wN s2), .int .u64 (wN s3)]) (.int .i64 3)).run Tryz.prog w = .ok (.int .u64 (wN s3)) w := fun _ => by kernel_rfl
  match k, h with
  | 0, _ => exact i0 w
  | 1, _ => exact i1 w
  | 2, _ => exact i2 w
  | 3, _ => exact i3 w
theorem words36_take (s : BS) (k : Nat) (h : k < 4) : (RE.words36 s).take (k + 1) = (RE.words36 s).take k ++ [fmt36 (wordAt s k).toNat] := by
  match k, h with
  | 0, _ => rfl
  | 1, _ => rfl
  | 2, _ => rfl
  | 3, _ => rfl
def ClsAt (w : World) (N : Nat) (s : BS) (nl : Bool) (v i : Value) (wr : World) : Prop :=
  ∃ k : Nat, k ≤ 4 ∧ i = .int .i64 k ∧ MadeW w N 2 s none 0 0 nl ([50] :: (RE.words36 s).take k) 1 v wr
set_option maxRecDepth 100000 in
set_option maxHeartbeats 4000000 in
theorem made_class (s0 s1 s2 s3 : BitVec 64) (w : World) :
    Calls Tryz.prog 59 #[.int .i64 2, .agg #[.int .u64 (wN s0), .int .u64 (wN s1), .int .u64 (wN s2), .int .u64 (wN s3)], .bool false, .slice none 0 0] w fun e w' => ∃ b, e = .returned (ptr b) ∧ w.heap.size ≤ b ∧ w'.heap[b]? = some (.cells (nodeCells (RE.node 2 ⟨s0, s1, s2, s3⟩ []) none 0) 117 (0, 0)) ∧ Below w.heap.size w w' := by
  obtain ⟨i0, hi, hz0, hz1, hz2⟩ := info_parts infoStr
  have HI := Lib.hid hi; have HZ0 := Lib.hid hz0; have HZ1 := Lib.hid hz1; have HZ2 := Lib.hid hz2
  clear hi hz0 hz1 hz2
  have HIT := Lib.hid (Itoa_op 2 (by omega))
  go_enter Tryz.func59, Tryz.ntmps59
  go_wp2_with (go_at_call 107; refine (HIT.out _).mono ?_; rintro e w' ⟨rfl, rfl⟩)
  go_loopw [10, 27] (fun v i wr => ClsAt w (w.heap.size + 1) ⟨s0, s1, s2, s3⟩ false v i wr) (fun _ i _ => 4 - (intOf i).toNat)
  case atStart =>
    refine ⟨0, by omega, rfl, ?_, ?_, ?_, ?_, by omega⟩
    · have hl := World.ownsRow_lit (base := w.heap.size) (e := 9) (size := 1) ((w.alloc (.cells #[.int .u64 (wN s0), .int .u64 (wN s1), .int .u64 (wN s2), .int .u64 (wN s3)] 109)).alloc (.cells (nodeOf 2 ⟨s0, s1, s2, s3⟩ none 0 0 false [] 1) 117)) #[strV [50]] 1 (by simp; omega) (by unfold maxLen; omega) rfl
      rw [World.size_alloc, World.size_alloc] at hl
      exact hl
    · simp [Value.ownBlock]
    · refine ((re_alloc _ _).block (w.heap.size + 1) ?_).trans (heap_alloc2_new w _ _)
      simp
    · repeat (first | exact Below.refl _ _ | assumption | refine Below.drew ?_ | refine ext_drewN ?_ _ | refine ext_alloc ?_ _ | refine Below.setCell ?_ (by (try simp only [World.size_alloc, World.size_setCell, World.size_drew]); omega) _ | refine ext_step ?_ (by assumption))
  case round =>
    obtain ⟨k, hk, rfl, hW⟩ := hrel
    by_cases hlt : k < 4
    · have hix := idxWord s0 s1 s2 s3 k hlt
      have HF := Lib.hid (FmtWord_any (wordAt ⟨s0, s1, s2, s3⟩ k))
      have HPS : Hid ([50] :: (RE.words36 ⟨s0, s1, s2, s3⟩).take (k + 1) = ([50] :: (RE.words36 ⟨s0, s1, s2, s3⟩).take k) ++ [fmt36 (wordAt ⟨s0, s1, s2, s3⟩ k).toNat]) := by
        show _ = _
        rw [words36_take _ k hlt]; rfl
      have hpl : (([50] : List UInt8) :: (RE.words36 ⟨s0, s1, s2, s3⟩).take k).length ≤ 5 := by simp; omega
      generalize [50] :: (RE.words36 ⟨s0, s1, s2, s3⟩).take k = ps at *
      generalize wordAt ⟨s0, s1, s2, s3⟩ k = x at *
      generalize fmt36 x.toNat = f at *
      go_wp2_with (first | (go_at_call 108; refine (HF.out _).mono ?_; rintro e w1 ⟨rfl, hb1⟩) | (at_builtin; refine wpList_append_lies _ rfl _ _ _ rfl w.heap.size 9 i0 _ 1 16 Tryz.underlying50 HI.out HZ0.out HZ1.out HZ2.out rfl (by omega) u10 ps.length (ps.map strV) rfl ((hW.later hb1).own.alloc _) ⟨w1.heap.size, 0, none⟩ 1 1 [strV f] rfl rfl (World.news_of_block (cs := #[strV f]) (t := 9) (fr := (0, 0)) (heap_alloc_last w1 _)) (strV_one [f]) (by omega) (by unfold maxLen; omega) (by omega) (by have := (hW.later hb1).bel.size; simp; omega) (w1.heap.size + 1) (by simp) ?_; intro g5 cp5 W9 hown9 hg9 hat9 hlt9))
      have hW9 := (hW.later hb1).appended (re_alloc w1 _) (by omega) hown9 hg9 hat9
      rw [← HPS.out] at hW9
      go_roundw
      case rel => exact ⟨k + 1, by omega, by go_num, hW9⟩
      case measure => simp [intOf]; omega
    · obtain rfl : k = 4 := by omega
      go_wp2_with fail
      refine wp_loop_rounds 1 ?_
      rw [rounds_succ]
      have hps : [50] :: (RE.words36 ⟨s0, s1, s2, s3⟩).take 4 = RE.parts 2 ⟨s0, s1, s2, s3⟩ (RE.keys []) := rfl
      rw [hps] at hW
      have hjl := RE.join_len 2 ⟨s0, s1, s2, s3⟩ []
      have hpn : 0 < (RE.parts 2 ⟨s0, s1, s2, s3⟩ (RE.keys [])).length := by simp [RE.parts]
      have HKEY : Hid ((RE.node 2 ⟨s0, s1, s2, s3⟩ []).key = [40] ++ Lib.join (RE.parts 2 ⟨s0, s1, s2, s3⟩ (RE.keys [])) [32] ++ [41]) := by show _ = _; rw [RE.key]
      have hpl : (RE.parts 2 ⟨s0, s1, s2, s3⟩ (RE.keys [])).length ≤ 5 := by simp [RE.parts, RE.words36, RE.keys_map]
      rw [show RE.sizes [] = 0 from rfl] at hjl
      clear hps
      generalize RE.parts 2 ⟨s0, s1, s2, s3⟩ (RE.keys []) = ps at *
      rcases hW.own.2 with ⟨_, h0⟩ | ⟨g, cp, cur, rfl, hgB, hgb, hnc, _, _, _⟩
      · omega
      have hJ := Join_any g 0 cp (ps.map fun l => ⟨l.toArray⟩) ⟨#[32]⟩ wr (fun j x hx => by
        rw [Nat.zero_add, hW.own.cellAt j (by have := (List.getElem?_eq_some_iff.1 hx).1; simpa using this)]
        simp at hx ⊢
        obtain ⟨y, h1, h2⟩ := hx
        exact ⟨y, h1, by rw [← h2]; rfl⟩) (Array.getElem?_eq_some_iff.1 hgb).1 (by simp; omega) (by simpa using hnc) (by simp [Function.comp_def]; omega)
      simp only [List.length_map, List.map_map, Function.comp_def, List.map_id'] at hJ
      generalize Lib.join ps [32] = jo at *
      have HJ := Lib.hid hJ
      clear hJ
      go_wp2_with fail
      refine HJ.out.mono ?_
      rintro e w1 ⟨rfl, hb1⟩
      have hW1 := hW.later hb1
      have hfr : w1.frozen? ⟨w.heap.size + 1, 7, none⟩ = false := frozen_of_row _ _ _ _ _ hW1.node
      have hcc : w1.cell? ⟨w.heap.size + 1, 7, none⟩ = some (.string ⟨#[]⟩) := by rw [cell_of_row _ _ _ _ _ _ hW1.node]; rfl
      go_wp2_with fail
      go_ret
      refine ⟨w.heap.size + 1, rfl, by omega, ?_, hW1.bel.setCell hW1.lo _⟩
      rw [heap_setCell_same _ _ _ _ _ _ hW1.node]
      rw [show (⟨#[40]⟩ ++ ⟨jo.toArray⟩ ++ ⟨#[41]⟩ : ByteArray) = ⟨(RE.node 2 ⟨s0, s1, s2, s3⟩ []).key.toArray⟩ by rw [HKEY.out]; exact ByteArray.ext (by simp)]
      rfl
end Go.Proofs.YtgamknphlmcgnaaGreatDoor
end
section
set_option linter.unusedSimpArgs false
set_option linter.unusedVariables false
set_option maxRecDepth 100000
set_option linter.unnecessarySimpa false
namespace Go.Proofs.YtgamknphlmcgnaaGreatDoor
open Go.RowKit
theorem BS.least_lt (s : BS) : s.least < 256 := by
  unfold BS.least
  split
  · rename_i h; have := ctz_lt _ h; omega
  · split
    · rename_i h; have := ctz_lt _ h; omega
    · split
      · rename_i h; have := ctz_lt _ h; omega
      · split
        · rename_i h; have := ctz_lt _ h; omega
        · omega
namespace RE
/-- how closely an expression's parts hold together -/
def lvl (o : Nat) : Nat := if o = 4 then 0 else if o = 7 then 1 else if o = 6 then 2 else if o = 3 then 3 else if o = 5 then 4 else 5
mutual
/-- an expression as it is written -/
def ofW : RE → List UInt8
  | node o s ks => if o = 1 then [40, 41] else if o = 2 then classW s else if o = 3 then Lib.join (insW 4 ks) [] else if o = 4 then Lib.join (insW 1 ks) [124] else if o = 6 then Lib.join (insW 3 ks) [38] else if o = 7 then butW ks else if o = 5 then starW ks else [91, 93]
def insW (at_ : Nat) : List RE → List (List UInt8)
  | [] => []
  | k :: ks => (if lvl k.op < at_ then [40] ++ ofW k ++ [41] else ofW k) :: insW at_ ks
def butW : List RE → List UInt8
  | [] => []
  | [_] => []
  | a :: b :: _ => (if lvl a.op < 1 then [40] ++ ofW a ++ [41] else ofW a) ++ [45] ++ (if lvl b.op < 2 then [40] ++ ofW b ++ [41] else ofW b)
def starW : List RE → List UInt8
  | [] => []
  | a :: _ => (if lvl a.op < 5 then [40] ++ ofW a ++ [41] else ofW a) ++ [42]
end
/-- .. within one of a level -/
def inW (at_ : Nat) (r : RE) : List UInt8 := if lvl r.op < at_ then [40] ++ ofW r ++ [41] else ofW r
theorem insW_map (at_ : Nat) (l : List RE) : insW at_ l = l.map (inW at_) := by
  induction l with
  | nil => rfl
  | cons a l ih => simp [insW, ih, inW]
/-- a text may be nil, too -/
def ofO : Option RE → List UInt8
  | none => [91, 93]
  | some r => ofW r
theorem join_len_le (l : List (List UInt8)) (sep : List UInt8) : (Lib.join l sep).length ≤ (l.map fun x => x.length + sep.length).sum := by
  cases l with
  | nil => simp [Lib.join]
  | cons x r =>
    rw [Lib.join_cons]
    have : (Lib.joinTail sep r).length = (r.map fun x => x.length + sep.length).sum := by
      unfold Lib.joinTail
      induction r with
      | nil => simp
      | cons y r ih => simp at ih ⊢; omega
    simp [this]
end RE
theorem BS.runs_len (s : BS) : s.runs.length ≤ 256 := s.runsFrom_len 0
theorem classW_len (s : BS) : (classW s).length ≤ 2400 := by
  have key : ∀ t : BS, (runsW t.runs).length ≤ 2304 := fun t => by
    have h1 := runsW_len t.runs
    have h2 := t.runs_len
    omega
  unfold classW
  split
  · have := byteW_len s.least; omega
  · split
    · simp
    · unfold setW
      have h1 := key s
      have h2 := key (notS s)
      split <;> simp <;> omega
namespace RE
mutual
theorem ofW_len : (r : RE) → (ofW r).length + 3 ≤ 2404 * size r
  | node o s ks => by
    have h4 := insW_len 4 ks
    have h1 := insW_len 1 ks
    have h3 := insW_len 3 ks
    have hb := butW_len ks
    have hs := starW_len ks
    have hc := classW_len s
    have j4 := join_len_le (insW 4 ks) []
    have j1 := join_len_le (insW 1 ks) [124]
    have j3 := join_len_le (insW 3 ks) [38]
    have e : ∀ (l : List (List UInt8)) (sep : List UInt8), sep.length ≤ 1 → (l.map fun x => x.length + sep.length).sum ≤ (l.map fun x => x.length + 1).sum := by
      intro l sep h
      induction l with
      | nil => simp
      | cons x l ih => simp; omega
    have e4 := e (insW 4 ks) [] (by simp)
    have e1 := e (insW 1 ks) [124] (by simp)
    have e3 := e (insW 3 ks) [38] (by simp)
    rw [ofW, size]
    repeat' split
    all_goals (try simp only [List.length_cons, List.length_nil])
    all_goals omega
theorem insW_len (at_ : Nat) : (l : List RE) → ((insW at_ l).map fun x => x.length + 1).sum ≤ 2404 * sizes l
  | [] => by simp [insW, sizes]
  | k :: l => by
    have h1 := ofW_len k
    have h2 := insW_len at_ l
    simp only [insW, List.map_cons, List.sum_cons, sizes]
    split <;> (try simp only [List.length_append, List.length_cons, List.length_nil]) <;> omega
theorem butW_len : (l : List RE) → (butW l).length ≤ 2404 * sizes l
  | [] => by simp [butW]
  | [_] => by simp [butW]
  | a :: b :: _ => by
    have h1 := ofW_len a
    have h2 := ofW_len b
    simp only [butW, List.length_append, List.length_cons, List.length_nil, sizes]
    split <;> split <;> (try simp only [List.length_append, List.length_cons, List.length_nil]) <;> omega
theorem starW_len : (l : List RE) → (starW l).length ≤ 2404 * sizes l
  | [] => by simp [starW]
  | a :: _ => by
    have h1 := ofW_len a
    simp only [starW, List.length_append, List.length_cons, List.length_nil, sizes]
    split <;> (try simp only [List.length_append, List.length_cons, List.length_nil]) <;> omega
end
end RE
end Go.Proofs.YtgamknphlmcgnaaGreatDoor
end
section
set_option linter.unusedSimpArgs false
set_option linter.unusedVariables false
set_option maxRecDepth 100000
set_option linter.unnecessarySimpa false
namespace Go.Proofs.YtgamknphlmcgnaaGreatDoor
namespace PS
end PS
end Go.Proofs.YtgamknphlmcgnaaGreatDoor
namespace Go.Proofs.YtgamknphlmcgnaaGreatDoor
namespace RE
end RE
end Go.Proofs.YtgamknphlmcgnaaGreatDoor
namespace Go.Proofs.YtgamknphlmcgnaaGreatDoor
namespace PS
end PS
end Go.Proofs.YtgamknphlmcgnaaGreatDoor
namespace Go.Proofs.YtgamknphlmcgnaaGreatDoor
namespace PS
/-- within how many parentheses at once: so many are open, so many were the most -/
def deepS : List UInt8 → Int → Int → Int
  | [], _, m => m
  | [c], n, m => if c = 40 then max m (n + 1) else m
  | c :: d :: r, n, m => if c = 92 then deepS r n m else if c = 40 then deepS (d :: r) (n + 1) (max m (n + 1)) else if c = 41 then deepS (d :: r) (n - 1) m else deepS (d :: r) n m
theorem deepS_cons (c : UInt8) (r : List UInt8) (n m : Int) (h : c ≠ 92) : deepS (c :: r) n m = if c = 40 then deepS r (n + 1) (max m (n + 1)) else if c = 41 then deepS r (n - 1) m else deepS r n m := by
  cases r with
  | nil => simp [deepS]
  | cons d r => rw [deepS, if_neg h]
end PS
end Go.Proofs.YtgamknphlmcgnaaGreatDoor
namespace Go.Proofs.YtgamknphlmcgnaaGreatDoor
open RE (lvl inW nf size sizes)
namespace PS
theorem size_pos (r : RE) : 1 ≤ size r := by cases r; rw [size]; omega
theorem mem_sizes {k : RE} {ks : List RE} (h : k ∈ ks) : size k ≤ sizes ks := by
  induction ks with
  | nil => simp at h
  | cons a ks ih =>
    rw [sizes]
    rcases List.mem_cons.1 h with rfl | h
    · omega
    · have := ih h; omega
theorem size_eq (r : RE) : size r = 1 + sizes r.kids := by cases r; rw [size]; rfl
end PS
/-- how deep the parentheses of a text lie in one another -/
def deepW (t : List UInt8) : Int := PS.deepS t 0 0
end Go.Proofs.YtgamknphlmcgnaaGreatDoor
end
section
set_option linter.unusedSimpArgs false
set_option linter.unusedVariables false
set_option maxRecDepth 100000
set_option linter.unnecessarySimpa false
namespace Go.Proofs.YtgamknphlmcgnaaGreatDoor
/-- a token: what it is, its text, its expression, where it stands -/
structure LT where
  kind : Nat
  text : List UInt8
  re : Option RE
  at_ : Nat
namespace LX
def letter (c : UInt8) (first : Bool) : Bool := (97 ≤ c && c ≤ 122) || c == 95 || (!first && (48 ≤ c && c ≤ 57))
/-- ( ) , . ; | * = -/
def signs : List UInt8 := [40, 41, 44, 46, 59, 124, 42, 61]
/-- what stands for itself in quotes -/
def plainQ : List UInt8 := [40, 41, 91, 93, 124, 38, 45, 42, 43, 63, 46, 32]
/-- how far a byte stands that isn't written otherwise -/
def untilN (b : UInt8) : List UInt8 → Option Nat
  | [] => none
  | [c] => if c = b then some 0 else none
  | c :: d :: r => if c = b then some 0 else if c = 92 then (untilN b r).map (· + 2) else (untilN b (d :: r)).map (· + 1)
/-- gaps and remarks: how many bytes; within a remark? -/
def skipS : Bool → List UInt8 → Nat
  | _, [] => 0
  | false, c :: r => if c = 32 ∨ c = 9 ∨ c = 10 ∨ c = 13 then skipS false r + 1 else if c = 35 then skipS true r + 1 else 0
  | true, c :: r => if c = 10 then skipS false r + 1 else skipS true r + 1
/-- the bytes of a name -/
def nameN : List UInt8 → Nat
  | [] => 0
  | c :: r => if letter c false then nameN r + 1 else 0
/-- an expression's one byte -/
def single1 (o : Option RE) : Option Nat :=
  match o with
  | none => none
  | some x => if x.op = 2 ∧ x.set.len = 1 then some x.set.least else none
def single (r : Option RE × Nat × Nat) : Option Nat := single1 r.1
def qStep (c : UInt8) (r : List UInt8) : Nat := if c = 92 then (if r.head? = some 120 then 4 else 2) else 1
/-- what is between quotes: its bytes, and where it can't go on -/
def qGo : Nat → List UInt8 → Nat → List UInt8 → List UInt8 × Option Nat
  | 0, _, _, out => (out, none)
  | _ + 1, [], _, out => (out, none)
  | f + 1, c :: r, i, out =>
    if c ≠ 92 ∧ plainQ.contains c = true then qGo f r (i + 1) (out ++ [c])
    else match single (readW ((c :: r).take (qStep c r))) with
      | none => (out, some i)
      | some b => qGo f ((c :: r).drop (qStep c r)) (i + qStep c r) (out ++ [b.toUInt8])
/-- a text in quotes, behind the first one -/
def quoted (s : List UInt8) (a : Nat) (r : List UInt8) : LT × Nat × Nat :=
  match untilN 34 r with
  | none => (⟨3, [], none, a⟩, 2, s.length)
  | some k => match qGo (k + 1) (r.take k) (a + 1) [] with
    | (out, none) => (⟨3, out, none, a⟩, 0, a + k + 2)
    | (_, some i) => (⟨3, [], none, a⟩, 2, i)
/-- an expression between two slashes, behind the first one -/
def expr (s : List UInt8) (a : Nat) (r : List UInt8) : LT × Nat × Nat :=
  match untilN 47 r with
  | none => (⟨4, [], none, a⟩, 2, s.length)
  | some k => if (readW (r.take k)).2.1 = 0 then (⟨4, [], (readW (r.take k)).1, a⟩, 0, a + k + 2) else (⟨4, [], none, a⟩, (readW (r.take k)).2.1, a + 1 + (readW (r.take k)).2.2)
/-- the next token, from a place where none of a gap is left; the error, and where the lexer is behind it -/
def token (s : List UInt8) (a : Nat) : LT × Nat × Nat :=
  match s.drop a with
  | [] => (⟨0, [], none, a⟩, 0, a)
  | b :: r =>
    if letter b true then
      if 30 < nameN (b :: r) then (⟨1, (b :: r).take (nameN (b :: r)), none, a⟩, 3, a) else (⟨1, (b :: r).take (nameN (b :: r)), none, a⟩, 0, a + nameN (b :: r))
    else if signs.contains b then (⟨2, [b], none, a⟩, 0, a + 1)
    else if b = 34 then quoted s a r
    else if b = 47 then expr s a r
    else (⟨0, [], none, a⟩, 2, a)
def next (s : List UInt8) (at_ : Nat) : LT × Nat × Nat := token s (at_ + skipS false (s.drop at_))
def allGo (s : List UInt8) : Nat → Nat → List LT → List LT × Nat × Nat
  | 0, at_, _ => ([], 2, at_)
  | f + 1, at_, out =>
    if (next s at_).2.1 ≠ 0 then ([], (next s at_).2.1, (next s at_).2.2)
    else if (next s at_).1.kind = 0 then (out ++ [(next s at_).1], 0, 0)
    else allGo s f (next s at_).2.2 (out ++ [(next s at_).1])
end LX
/-- the tokens of a text; the error, and where it is -/
def lexW (s : List UInt8) : List LT × Nat × Nat := if 65536 < s.length then ([], 3, 0) else LX.allGo s (s.length + 1) 0 []
namespace LX
theorem untilN_lt {b : UInt8} : ∀ (n : Nat) (l : List UInt8) (k : Nat), l.length ≤ n → untilN b l = some k → k < l.length ∧ l.getD k 0 = b := by
  intro n
  induction n with
  | zero =>
    intro l k hn h
    have : l = [] := List.length_eq_zero_iff.1 (by omega)
    subst this
    simp [untilN] at h
  | succ n ih =>
    intro l k hn h
    match l, hn, h with
    | [], _, h => simp [untilN] at h
    | [c], _, h =>
      rw [untilN] at h
      split at h
      · rename_i hc
        cases h
        exact ⟨by simp, hc⟩
      · cases h
    | c :: d :: r, hn, h =>
      rw [untilN] at h
      split at h
      · rename_i hc
        cases h
        exact ⟨by simp, hc⟩
      · split at h
        · obtain ⟨j, hj, rfl⟩ := Option.map_eq_some_iff.1 h
          obtain ⟨h1, h2⟩ := ih r j (by simp at hn; omega) hj
          exact ⟨by simp; omega, by simpa using h2⟩
        · obtain ⟨j, hj, rfl⟩ := Option.map_eq_some_iff.1 h
          obtain ⟨h1, h2⟩ := ih (d :: r) j (by simp at hn ⊢; omega) hj
          exact ⟨by simp at h1 ⊢; omega, by simpa using h2⟩
theorem skipS_le (l : List UInt8) : ∀ c, skipS c l ≤ l.length := by
  induction l with
  | nil => intro c; cases c <;> simp [skipS]
  | cons a r ih =>
    intro c
    have h1 := ih true
    have h2 := ih false
    cases c <;> rw [skipS] <;> (repeat' split) <;> simp <;> omega
theorem nameN_le (l : List UInt8) : nameN l ≤ l.length := by
  induction l with
  | nil => simp [nameN]
  | cons a r ih => rw [nameN]; split <;> simp <;> omega
end LX
end Go.Proofs.YtgamknphlmcgnaaGreatDoor
end
section
set_option linter.unusedSimpArgs false
set_option linter.unusedVariables false
set_option maxRecDepth 100000
set_option linter.unnecessarySimpa false
namespace Go.Proofs.YtgamknphlmcgnaaGreatDoor
open Go.RowKit
theorem made_zero (o : Nat) (ho : o < 8) (ho2 : o ≠ 2) (nl : Bool) (kp : Option Addr) (cap : Nat) (bs : List Nat) (ks : List RE) (w : World) (hr : PtrsAt w kp bs) (hk : AreRe w bs ks) (hnl : nl = (RE.node o BS.none ks).null) (hsz : RE.sizes ks ≤ 1099511627776) :
    Calls Tryz.prog 59 #[.int .i64 o, .agg #[.int .u64 0, .int .u64 0, .int .u64 0, .int .u64 0], .bool nl, .slice kp ks.length cap] w fun e w' => ∃ b, e = .returned (ptr b) ∧ w.heap.size ≤ b ∧ w'.heap[b]? = some (.cells (nodeCells (RE.node o BS.none ks) kp cap) 117 (0, 0)) ∧ Below w.heap.size w w' := by
  have h := made_other o ho ho2 0 0 0 0 nl kp cap bs ks w hr hk hnl hsz
  rw [← wN_zero] at h
  exact h
theorem are_nil (w : World) : AreRe w [] [] := ⟨rfl, fun i hi => absurd hi (by simp)⟩
theorem fresh_leaf {B b o : Nat} {s : BS} {w' : World} (h0 : B ≤ b) (h1 : w'.heap[b]? = some (.cells (nodeCells (RE.node o s []) none 0) 117 (0, 0))) : IsReX (· < B) w' b (RE.node o s []) :=
  .mk b _ none 0 [] (by show ¬ b < B; omega) h1 rfl (.inl rfl) (fun h => absurd rfl h) (fun a ha => by cases ha) (fun i hi => absurd hi (by simp [RE.kids]))
set_option maxHeartbeats 800000 in
theorem Nothing_any (w : World) : Calls Tryz.prog 58 #[] w fun e w' => ∃ b, e = .returned (ptr b) ∧ IsReX (· < w.heap.size) w' b RE.nothing ∧ Below w.heap.size w w' := by
  have H := Lib.hid (made_zero 0 (by omega) (by omega) false none 0 [] [] w (.inl rfl) (are_nil w) (by simp [RE.null]) (by simp [RE.sizes]))
  go_enter Tryz.func58, Tryz.ntmps58
  go_wp2_with fail
  refine H.out.mono ?_
  rintro e w1 ⟨b, rfl, h0, h1, h2⟩
  go_wp2_with fail
  go_ret
  exact ⟨b, rfl, fresh_leaf h0 h1, h2⟩
set_option maxHeartbeats 800000 in
theorem EmptyRe_any (w : World) : Calls Tryz.prog 63 #[] w fun e w' => ∃ b, e = .returned (ptr b) ∧ IsReX (· < w.heap.size) w' b RE.empty ∧ Below w.heap.size w w' := by
  have H := Lib.hid (made_zero 1 (by omega) (by omega) true none 0 [] [] w (.inl rfl) (are_nil w) (by simp [RE.null]) (by simp [RE.sizes]))
  go_enter Tryz.func63, Tryz.ntmps63
  go_wp2_with fail
  refine H.out.mono ?_
  rintro e w1 ⟨b, rfl, h0, h1, h2⟩
  go_wp2_with fail
  go_ret
  exact ⟨b, rfl, fresh_leaf h0 h1, h2⟩
set_option maxHeartbeats 1600000 in
theorem One_any (s0 s1 s2 s3 : BitVec 64) (w : World) : Calls Tryz.prog 17 #[.agg #[.int .u64 (wN s0), .int .u64 (wN s1), .int .u64 (wN s2), .int .u64 (wN s3)]] w fun e w' => ∃ b, e = .returned (ptr b) ∧ IsReX (· < w.heap.size) w' b (RE.one ⟨s0, s1, s2, s3⟩) ∧ Below w.heap.size w w' := by
  have HM := Lib.hid (made_class s0 s1 s2 s3)
  by_cases hs : (⟨s0, s1, s2, s3⟩ : BS) = BS.none
  · have HE : Hid (decide ((⟨s0, s1, s2, s3⟩ : BS) = BS.none) = true) := decide_eq_true hs
    have HO : Hid (RE.one ⟨s0, s1, s2, s3⟩ = RE.nothing) := by show _ = _; unfold RE.one; rw [if_pos hs]
    clear hs
    go_enter Tryz.func17, Tryz.ntmps17
    go_wp2_with (go_at_call 57; refine (Empty_any s0 s1 s2 s3 _).mono ?_; rintro e w' ⟨rfl, rfl⟩; rw [HE.out])
    refine (Nothing_any _).mono ?_
    rintro e w1 ⟨b, rfl, h1, h2⟩
    have h2' : Below w.heap.size w w1 := by repeat (first | exact Below.refl _ _ | assumption | refine Below.drew ?_ | refine ext_drewN ?_ _ | refine ext_alloc ?_ _ | refine Below.setCell ?_ (by (try simp only [World.size_alloc, World.size_setCell, World.size_drew]); omega) _ | refine ext_step ?_ (by assumption))
    go_wp2_with fail
    go_ret
    exact ⟨b, rfl, by rw [HO.out]; exact h1.mono (fun k _ hk => by simp; omega), h2'⟩
  · have HE : Hid (decide ((⟨s0, s1, s2, s3⟩ : BS) = BS.none) = false) := decide_eq_false hs
    have HO : Hid (RE.one ⟨s0, s1, s2, s3⟩ = RE.node 2 ⟨s0, s1, s2, s3⟩ []) := by show _ = _; unfold RE.one; rw [if_neg hs]
    clear hs
    go_enter Tryz.func17, Tryz.ntmps17
    go_wp2_with (go_at_call 57; refine (Empty_any s0 s1 s2 s3 _).mono ?_; rintro e w' ⟨rfl, rfl⟩; rw [HE.out])
    refine (HM.out _).mono ?_
    rintro e w1 ⟨b, rfl, h0, h1, h2⟩
    have h2' : Below w.heap.size w w1 := by repeat (first | exact Below.refl _ _ | assumption | refine Below.drew ?_ | refine ext_drewN ?_ _ | refine ext_alloc ?_ _ | refine Below.setCell ?_ (by (try simp only [World.size_alloc, World.size_setCell, World.size_drew]); omega) _ | refine ext_step ?_ (by assumption))
    go_wp2_with fail
    go_ret
    exact ⟨b, rfl, by rw [HO.out]; exact fresh_leaf (by simp at h0; omega) h1, h2'⟩
end Go.Proofs.YtgamknphlmcgnaaGreatDoor
namespace Go.Proofs.YtgamknphlmcgnaaGreatDoor
open Go.RowKit
theorem infoPtr : (Tryz.prog.info? 28).map (fun i => (i.zero, i.size, i.bytes)) = some (some (.pointer none), 1, 8) := by kernel_rfl
theorem ptr_one (l : List Nat) : ∀ u ∈ l.map ptr, u.oneCell' = true := by intro u hu; obtain ⟨x, _, rfl⟩ := List.mem_map.1 hu; rfl
theorem addr_at (kb ko j : Nat) : (⟨kb, ko, none⟩ : Addr).add j = ⟨kb, ko + j, none⟩ := by unfold Addr.add; split <;> simp_all
/-- expressions, the pointers to which lie in a row of one's own -/
structure OwnRe (w : World) (ls : List RE) (bs : List Nat) (v : Value) (wr : World) : Prop where
  own : wr.ownsRow w.heap.size 28 1 v bs.length (bs.map ptr)
  are : AreReX (fun k => v.ownBlock = some k) wr bs ls
  bel : Below w.heap.size w wr
theorem OwnRe.later {w wr wr' : World} {ls : List RE} {bs : List Nat} {v : Value} (h : OwnRe w ls bs v wr) (hb : Below wr.heap.size wr wr') : OwnRe w ls bs v wr' :=
  ⟨h.own.kept (re_grownBy hb) (by cases v.ownBlock <;> simp), h.are.keep (fun k hk _ => hb.block k hk), ext_step h.bel hb⟩
theorem OwnRe.appended {w Wa W' : World} {ls ls' : List RE} {bs bs' : List Nat} {v : Value} {g n cp H : Nat} (h : OwnRe w ls bs v Wa) (h' : AreReX (fun k => v.ownBlock = some k) Wa bs' ls') (hH : Wa.heap.size ≤ H) (hn : n = bs.length + bs'.length)
   (hown : W'.ownsRow w.heap.size 28 1 (.slice (some ⟨g, 0, none⟩) n cp) n (bs.map ptr ++ bs'.map ptr)) (hg : Wa.grownBy W' v.ownBlock) (hat : v.ownBlock = some g ∨ g = H) :
    OwnRe w (ls ++ ls') (bs ++ bs') (.slice (some ⟨g, 0, none⟩) n cp) W' := by
  subst hn
  refine ⟨by rw [List.length_append, List.map_append]; exact hown, ?_, h.bel.grown hg h.bel.size (fun k e => (h.own.lt k e).1)⟩
  have h1 : AreReX (fun k => v.ownBlock = some k ∨ Wa.heap.size ≤ k) Wa (bs ++ bs') (ls ++ ls') := (h.are.append h').mono fun k hk hy => by
    rcases hy with hy | hy
    · exact hy
    · omega
  have h2 := h1.keep (w' := W') fun k hk hx => hg.block k hk (fun e => hx (.inl e.symm))
  refine h2.mono fun k _ e => ?_
  have e : g = k := by simpa [Value.ownBlock] using e
  subst e
  rcases hat with e | e
  · exact .inl e
  · exact .inr (by omega)
/-- a list of pointers, some of which may be nil -/
def ListO (w : World) (kp : Option Addr) (l : List (Option RE)) : Prop := l = [] ∨ ∃ kb ko, kp = some ⟨kb, ko, none⟩ ∧ ∀ i, i < l.length → ∃ v, w.cell? ⟨kb, ko + i, none⟩ = some v ∧ IsReO w v (l.getD i none)
theorem RE.flat_snoc (o : Nat) (l : List (Option RE)) (x : Option RE) : RE.flat o (l ++ [x]) = RE.flat o l ++ RE.flat1 o x := by simp [RE.flat]
theorem take_snocO (l : List (Option RE)) (k : Nat) (h : k < l.length) : l.take (k + 1) = l.take k ++ [l.getD k none] := by
  rw [List.take_succ_eq_append_getElem h]; simp [List.getD, h]
theorem flat_take_len (o : Nat) (l : List (Option RE)) (k : Nat) : (RE.flat o (l.take k)).length ≤ (RE.flat o l).length := by
  conv => rhs; rw [← List.take_append_drop k l]
  simp only [RE.flat, List.flatMap_append, List.length_append]; omega
def FlatAt (w : World) (o : Nat) (l : List (Option RE)) (v i : Value) (wr : World) : Prop :=
  ∃ (k : Nat) (bs : List Nat), k ≤ l.length ∧ i = .int .i64 k ∧ OwnRe w (RE.flat o (l.take k)) bs v wr
set_option maxRecDepth 100000 in
set_option maxHeartbeats 4000000 in
theorem flat_any (o : Nat) (kp : Option Addr) (cap : Nat) (l : List (Option RE)) (w : World) (hl : ListO w kp l) (hne : ∀ r, some r ∈ l → r.op = o → r.kids ≠ []) (hsz : (RE.flat o l).length ≤ 1099511627776) (hln : l.length ≤ 1099511627776) :
    Calls Tryz.prog 61 #[.int .i64 o, .slice kp l.length cap] w fun e w' => ∃ v bs, e = .returned v ∧ OwnRe w (RE.flat o l) bs v w' := by
  have HL := Lib.hid hl
  have HNE := Lib.hid hne
  clear hl hne
  obtain ⟨i0, hi, hz0, hz1, hz2⟩ := info_parts infoPtr
  have HI := Lib.hid hi; have HZ0 := Lib.hid hz0; have HZ1 := Lib.hid hz1; have HZ2 := Lib.hid hz2
  clear hi hz0 hz1 hz2
  go_enter Tryz.func61, Tryz.ntmps61
  go_wp2_with fail
  go_loopw [5, 10] (fun v i wr => FlatAt w o l v i wr) (fun _ i _ => l.length - (intOf i).toNat)
  case atStart => exact ⟨0, [], by omega, rfl, ⟨World.ownsRow_nil _ _ _ _, AreReX.nil, Below.refl _ _⟩⟩
  case round =>
    obtain ⟨k, bs, hk, rfl, hW⟩ := hrel
    by_cases hlt : k < l.length
    · rcases HL.out with h0 | ⟨kb, ko, rfl, hrow⟩
      · rw [h0] at hlt; simp at hlt
      obtain ⟨x, hx, hxo⟩ := hrow k hlt
      have hlen := flat_take_len o l (k + 1)
      have HNX : Hid (RE.flat o (l.take (k + 1)) = RE.flat o (l.take k) ++ RE.flat1 o (l.getD k none)) := by
        show _ = _
        rw [take_snocO l k hlt, RE.flat_snoc]
      have hmem : l.getD k none ∈ l := by simp [List.getD, hlt]
      rw [HNX.out, List.length_append, ← hW.are.1] at hlen
      have hkbl := World.block_lt_of_cell? w _ hx
      rw [← hW.bel.cell (p := ⟨kb, ko + k, none⟩) hkbl] at hx
      generalize RE.flat o (l.take k) = ls at *
      generalize l.getD k none = q at *
      clear hrow
      cases q with
      | none =>
        have hxv : x = .pointer none := hxo
        subst hxv
        have HF1 : Hid (RE.flat1 o none = [RE.nothing]) := rfl
        rw [HF1.out] at hlen
        simp only [List.length_cons, List.length_nil] at hlen
        go_wp2_with fail
        refine (Nothing_any _).mono ?_
        rintro e w1 ⟨b, rfl, h1, h2⟩
        have hW1 := hW.later h2
        go_wp2_with (at_builtin; refine wpList_append_lies _ rfl _ _ _ rfl w.heap.size 28 i0 _ 1 8 Tryz.underlying113 HI.out HZ0.out HZ1.out HZ2.out rfl (by omega) u5 bs.length (bs.map ptr) rfl (hW1.own.alloc _) ⟨w1.heap.size, 0, none⟩ 1 1 [ptr b] rfl rfl (World.news_of_block (cs := #[ptr b]) (t := 28) (fr := (0, 0)) (heap_alloc_last w1 _)) (ptr_one [b]) (by omega) (by unfold maxLen; omega) (by omega) (by have := hW1.bel.size; simp; omega) (w1.heap.size + 1) (by simp) ?_; intro g5 cp5 W9 hown9 hg9 hat9 hlt9)
        have hb1 : IsReX (fun k => u5.ownBlock = some k) (w1.alloc (.cells #[ptr b] 28)) b RE.nothing := (h1.keep fun k hk _ => (re_alloc w1 _).block k hk).mono fun k _ e => (hW.own.lt k e).2
        have hW9 := (hW1.later (re_alloc w1 _)).appended (n := bs.length + 1) (AreReX.one hb1) (by simp) rfl hown9 hg9 hat9
        have HW9 : Hid (OwnRe w (RE.flat o (l.take (k + 1))) (bs ++ [b]) (.slice (some ⟨g5, 0, none⟩) (bs.length + 1) cp5) W9) := by show OwnRe _ _ _ _ _; rw [HNX.out, HF1.out]; exact hW9
        clear hW9 hb1 hown9 hg9 hat9 hW1 hW h1 h2
        go_wp2
        go_roundw
        case rel => exact ⟨k + 1, _, by omega, by go_num, HW9.out⟩
        case measure => simp [intOf]; omega
      | some r =>
        obtain ⟨b, rfl, hb⟩ := hxo
        obtain ⟨kp1, cap1, bs1, hnode, hptr, hkids⟩ := hb.open
        have hnode1 := (hW.bel.block b hb.lt).trans hnode
        have hop : wr.cell? ⟨b, 0, none⟩ = some (.int .i64 (r.op : Nat)) := by rw [cell_of_row _ _ _ _ _ _ hnode1]; rfl
        have hks : wr.cell? ⟨b, 2 + 3, none⟩ = some (.slice kp1 r.kids.length cap1) := by rw [cell_of_row _ _ _ _ _ _ hnode1]; rfl
        change wr.cell? ⟨kb, ko + k, none⟩ = some (.pointer (some ⟨b, 0, none⟩)) at hx
        by_cases hro : r.op = o
        · have hro' : ((r.op : Int) == (o : Int)) = true := by rw [hro]; simp
          have HF1 : Hid (RE.flat1 o (some r) = r.kids) := by show _ = _; simp [RE.flat1, hro]
          rw [HF1.out] at hlen
          have hkn : 0 < r.kids.length := List.length_pos_iff.2 (HNE.out r hmem hro)
          have hb1l := hkids.1
          rcases hptr with h0 | ⟨k1, o1, rfl, hkc⟩
          · rw [h0] at hb1l; simp at hb1l; omega
          have hnews : ∀ j u, (bs1.map ptr)[j]? = some u → wr.cell? ((⟨k1, o1, none⟩ : Addr).add j) = some u := fun j u hu => by
            have hj : j < bs1.length := by have := (List.getElem?_eq_some_iff.1 hu).1; simpa using this
            have h3 := hkc j hj
            rw [addr_at, hW.bel.cell (p := ⟨k1, o1 + j, none⟩) (World.block_lt_of_cell? w _ h3), h3]
            simpa [List.getD, hj] using hu
          have HK1 := Lib.hid hnews
          clear hnews hkc
          go_wp2_with (at_builtin; refine wpList_append_lies _ rfl _ _ _ rfl w.heap.size 28 i0 _ 1 8 Tryz.underlying113 HI.out HZ0.out HZ1.out HZ2.out rfl (by omega) u5 bs.length (bs.map ptr) rfl hW.own ⟨k1, o1, none⟩ r.kids.length cap1 (bs1.map ptr) rfl (by simp [hb1l]) HK1.out (ptr_one bs1) (by omega) (by unfold maxLen; omega) (by omega) hW.bel.size wr.heap.size rfl ?_; intro g5 cp5 W9 hown9 hg9 hat9 hlt9)
          have hb1 : AreReX (fun k => u5.ownBlock = some k) wr bs1 r.kids := (hkids.avoid (X := fun k => u5.ownBlock = some k) fun k hk e => by have := (hW.own.lt k e).1; omega).keep fun k hk _ => hW.bel.block k hk
          have hW9 := hW.appended (n := bs.length + r.kids.length) hb1 (Nat.le_refl _) (by rw [hb1l]) hown9 hg9 hat9
          have HW9 : Hid (OwnRe w (RE.flat o (l.take (k + 1))) (bs ++ bs1) (.slice (some ⟨g5, 0, none⟩) (bs.length + r.kids.length) cp5) W9) := by show OwnRe _ _ _ _ _; rw [HNX.out, HF1.out]; exact hW9
          clear hW9 hb1 hown9 hg9 hat9 hW
          go_wp2
          go_roundw
          case rel => exact ⟨k + 1, _, by omega, by go_num, HW9.out⟩
          case measure => simp [intOf]; omega
        · have hro' : ((r.op : Int) == (o : Int)) = false := by simpa using fun e => hro (by omega)
          have HF1 : Hid (RE.flat1 o (some r) = [r]) := by show _ = _; simp [RE.flat1, hro]
          rw [HF1.out] at hlen
          simp only [List.length_cons, List.length_nil] at hlen
          go_wp2_with (at_builtin; refine wpList_append_lies _ rfl _ _ _ rfl w.heap.size 28 i0 _ 1 8 Tryz.underlying113 HI.out HZ0.out HZ1.out HZ2.out rfl (by omega) u5 bs.length (bs.map ptr) rfl (hW.own.alloc _) ⟨wr.heap.size, 0, none⟩ 1 1 [ptr b] rfl rfl (World.news_of_block (cs := #[ptr b]) (t := 28) (fr := (0, 0)) (heap_alloc_last wr _)) (ptr_one [b]) (by omega) (by unfold maxLen; omega) (by omega) (by have := hW.bel.size; simp; omega) (wr.heap.size + 1) (by simp) ?_; intro g5 cp5 W9 hown9 hg9 hat9 hlt9)
          have hb1 : IsReX (fun k => u5.ownBlock = some k) (wr.alloc (.cells #[ptr b] 28)) b r := ((hb.avoid (X := fun k => u5.ownBlock = some k) fun k hk e => by have := (hW.own.lt k e).1; omega).keep fun k hk _ => (ext_alloc hW.bel _).block k hk)
          have hW9 := (hW.later (re_alloc wr _)).appended (n := bs.length + 1) (AreReX.one hb1) (by simp) rfl hown9 hg9 hat9
          have HW9 : Hid (OwnRe w (RE.flat o (l.take (k + 1))) (bs ++ [b]) (.slice (some ⟨g5, 0, none⟩) (bs.length + 1) cp5) W9) := by show OwnRe _ _ _ _ _; rw [HNX.out, HF1.out]; exact hW9
          clear hW9 hb1 hown9 hg9 hat9 hW
          go_wp2
          go_roundw
          case rel => exact ⟨k + 1, _, by omega, by go_num, HW9.out⟩
          case measure => simp [intOf]; omega
    · obtain rfl : k = l.length := by omega
      rw [List.take_length] at hW
      go_wp2
      go_ret
      exact ⟨_, bs, rfl, hW⟩
end Go.Proofs.YtgamknphlmcgnaaGreatDoor
end
