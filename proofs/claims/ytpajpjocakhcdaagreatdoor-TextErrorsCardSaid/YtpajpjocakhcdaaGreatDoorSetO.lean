/-
  What the calls of package set do, walked through the program: all bytes; the set of some bytes; those from one to another one.
-/
import Derived.Test.YtpajpjocakhcdaaGreatDoorSetL
set_option linter.unusedSimpArgs false
set_option linter.unusedVariables false
set_option maxRecDepth 100000
set_option linter.unnecessarySimpa false
namespace Go.Proofs.YtpajpjocakhcdaaGreatDoor
open Go.RowKit

set_option maxHeartbeats 400000 in
theorem All_any (w : World) :
    Calls Tryz.prog 82 #[] w fun e w' => e = .returned (.agg #[.int .u64 (wN fullW), .int .u64 (wN fullW), .int .u64 (wN fullW), .int .u64 (wN fullW)]) ∧ Below w.heap.size w w' := by
  have hn : ∀ w, Calls Tryz.prog 37 #[.agg #[.int .u64 0, .int .u64 0, .int .u64 0, .int .u64 0]] w fun e w' => e = .returned (.agg #[.int .u64 (wN fullW), .int .u64 (wN fullW), .int .u64 (wN fullW), .int .u64 (wN fullW)]) ∧ Below w.heap.size w w' := fun w => Not_any 0 0 0 0 w
  have HN := Lib.hid hn
  clear hn
  go_enter Tryz.func82, Tryz.ntmps82
  go_wp2_with fail
  refine (HN.out _).mono ?_
  rintro e w1 ⟨rfl, hb⟩
  obtain ⟨hc, hf⟩ := bcell hb
  go_wp2
  refine bodyPost_ret (v := .agg #[.int .u64 (wN fullW), .int .u64 (wN fullW), .int .u64 (wN fullW), .int .u64 (wN fullW)]) (by simp [results, Tryz.results82, go_sem, hc]) rfl ⟨rfl, ?_⟩
  repeat (first | exact Below.refl _ _ | assumption | refine Below.drew ?_ | refine ext_drewN ?_ _ | refine ext_alloc ?_ _ | refine Below.setCell ?_ (by (try simp only [World.size_alloc, World.size_setCell, World.size_drew]); omega) _ | refine ext_step ?_ (by assumption))

def ofW (w : World) (s : BS) : World := (w.alloc (.cells #[.int .u64 0, .int .u64 0, .int .u64 0, .int .u64 0] 54)).alloc (.cells #[.int .u64 (wN s.a), .int .u64 (wN s.b), .int .u64 (wN s.c), .int .u64 (wN s.d)] 54)
def OfAt (xs : List Int) (w : World) (i : Value) (wr : World) : Prop := ∃ (k : Nat), k ≤ xs.length ∧ i = .int .i64 k ∧ wr = ofW w (BS.ofL (xs.take k))
theorem take_snoc_getD (xs : List Int) (k : Nat) (h : k < xs.length) : xs.take (k + 1) = xs.take k ++ [xs.getD k 0] := by
  rw [List.take_succ_eq_append_getElem h]; simp [List.getD, h]
set_option maxHeartbeats 800000 in
theorem Of_any (b off cap : Nat) (xs : List Int) (hx : ∀ i, i < xs.length → 0 ≤ xs.getD i 0 ∧ xs.getD i 0 ≤ 255) (hm : xs.length ≤ 140737488351232) (w : World)
   (hc : ∀ i, i < xs.length → w.cell? ⟨b, off + i, none⟩ = some (.int .u8 (xs.getD i 0))) :
    Calls Tryz.prog 35 #[.slice (some ⟨b, off, none⟩) xs.length cap] w fun e w' => e = .returned (.agg #[.int .u64 (wN (BS.ofL xs).a), .int .u64 (wN (BS.ofL xs).b), .int .u64 (wN (BS.ofL xs).c), .int .u64 (wN (BS.ofL xs).d)]) ∧ Below w.heap.size w w' := by
  have HC := Lib.hid hc
  clear hc
  go_enter Tryz.func35, Tryz.ntmps35
  go_wp2
  go_loopw [8] (fun i wr => OfAt xs w i wr) (fun i _ => xs.length - (intOf i).toNat)
  case atStart => exact ⟨0, by omega, rfl, rfl⟩
  case round =>
    obtain ⟨k, hk, rfl, rfl⟩ := hrel
    by_cases hlt : k < xs.length
    · have hcell := HC.out k hlt
      have hcell : ∀ s, (ofW w s).cell? ⟨b, off + k, none⟩ = some (.int .u8 (xs.getD k 0)) := fun s => by
        unfold ofW
        have hb := World.block_lt_of_cell? w _ hcell
        rw [World.cell?_alloc_old _ _ _ (by simp at hb ⊢; omega), World.cell?_alloc_old _ _ _ (by simp at hb ⊢; omega), hcell]
      obtain ⟨h0, h1⟩ := hx k hlt
      have HS : Hid (BS.ofL (xs.take (k + 1)) = (BS.ofL (xs.take k)).add (xs.getD k 0).toNat) := by
        show _ = _
        rw [take_snoc_getD xs k hlt, BS.ofL_snoc]
      generalize xs.getD k 0 = x at *
      generalize hs : BS.ofL (xs.take k) = s at *
      clear hs
      obtain ⟨s0, s1, s2, s3⟩ := s
      have hcell := hcell ⟨s0, s1, s2, s3⟩
      have e1 : (x % 64).toNat = x.toNat % 64 := by omega
      have E1 := Lib.hid e1
      clear e1
      have hm64 : (x % 64).toNat < 64 := by omega
      rcases (show x / 64 = 0 ∨ x / 64 = 1 ∨ x / 64 = 2 ∨ x / 64 = 3 by omega) with hq | hq | hq | hq
      · have HA : Hid ((⟨s0, s1, s2, s3⟩ : BS).add x.toNat = ⟨s0 ||| BitVec.twoPow 64 (x % 64).toNat, s1, s2, s3⟩) := by rw [E1.out]; exact BS.add0 s0 s1 s2 s3 _ (by omega)
        have hbit := or_bit s0 (x % 64).toNat hm64
        dsimp only [ofW] at hcell ⊢
        go_wp2
        go_roundw
        case rel => exact ⟨k + 1, by omega, by go_num, by rw [HS.out, HA.out]; rfl⟩
        case measure => simp [intOf]; omega
      · have HA : Hid ((⟨s0, s1, s2, s3⟩ : BS).add x.toNat = ⟨s0, s1 ||| BitVec.twoPow 64 (x % 64).toNat, s2, s3⟩) := by rw [E1.out]; exact BS.add1 s0 s1 s2 s3 _ (by omega)
        have hbit := or_bit s1 (x % 64).toNat hm64
        dsimp only [ofW] at hcell ⊢
        go_wp2
        go_roundw
        case rel => exact ⟨k + 1, by omega, by go_num, by rw [HS.out, HA.out]; rfl⟩
        case measure => simp [intOf]; omega
      · have HA : Hid ((⟨s0, s1, s2, s3⟩ : BS).add x.toNat = ⟨s0, s1, s2 ||| BitVec.twoPow 64 (x % 64).toNat, s3⟩) := by rw [E1.out]; exact BS.add2 s0 s1 s2 s3 _ (by omega)
        have hbit := or_bit s2 (x % 64).toNat hm64
        dsimp only [ofW] at hcell ⊢
        go_wp2
        go_roundw
        case rel => exact ⟨k + 1, by omega, by go_num, by rw [HS.out, HA.out]; rfl⟩
        case measure => simp [intOf]; omega
      · have HA : Hid ((⟨s0, s1, s2, s3⟩ : BS).add x.toNat = ⟨s0, s1, s2, s3 ||| BitVec.twoPow 64 (x % 64).toNat⟩) := by rw [E1.out]; exact BS.add3 s0 s1 s2 s3 _ (by omega)
        have hbit := or_bit s3 (x % 64).toNat hm64
        dsimp only [ofW] at hcell ⊢
        go_wp2
        go_roundw
        case rel => exact ⟨k + 1, by omega, by go_num, by rw [HS.out, HA.out]; rfl⟩
        case measure => simp [intOf]; omega
    · obtain rfl : k = xs.length := by omega
      rw [List.take_length]
      generalize hs : BS.ofL xs = s
      obtain ⟨s0, s1, s2, s3⟩ := s
      have HE := Lib.hid hs
      clear hs
      dsimp only [ofW]
      go_wp2
      refine bodyPost_ret (v := .agg #[.int .u64 (wN s0), .int .u64 (wN s1), .int .u64 (wN s2), .int .u64 (wN s3)]) (by simp [results, Tryz.results35, go_sem]) rfl ⟨by rw [HE.out], ?_⟩
      repeat (first | exact Below.refl _ _ | assumption | refine Below.drew ?_ | refine ext_drewN ?_ _ | refine ext_alloc ?_ _ | refine Below.setCell ?_ (by (try simp only [World.size_alloc, World.size_setCell, World.size_drew]); omega) _ | refine ext_step ?_ (by assumption))

theorem and63 : ∀ j < 256, bits .and .i64 ((j : Nat) : Int) 63 = (j : Int) % 64 := by decide +kernel
theorem ofW_set0 (w : World) (s0 s1 s2 s3 x : BitVec 64) (m : Nat) : ((ofW w ⟨s0, s1, s2, s3⟩).drewN (m + 1)).setCell ⟨w.heap.size + 1, 0, none⟩ (.int .u64 (wN x)) = (ofW w ⟨x, s1, s2, s3⟩).drewN (m + 1) := by
  show (World.setCell (ofW w _) _ _).drewN (m + 1) = _
  congr 1
  unfold ofW
  rw [World.setCell_alloc_at _ _ _ _ _ (by simp)]
  rfl
theorem ofW_set1 (w : World) (s0 s1 s2 s3 x : BitVec 64) (m : Nat) : ((ofW w ⟨s0, s1, s2, s3⟩).drewN (m + 1)).setCell ⟨w.heap.size + 1, 1, none⟩ (.int .u64 (wN x)) = (ofW w ⟨s0, x, s2, s3⟩).drewN (m + 1) := by
  show (World.setCell (ofW w _) _ _).drewN (m + 1) = _
  congr 1
  unfold ofW
  rw [World.setCell_alloc_at _ _ _ _ _ (by simp)]
  rfl
theorem ofW_set2 (w : World) (s0 s1 s2 s3 x : BitVec 64) (m : Nat) : ((ofW w ⟨s0, s1, s2, s3⟩).drewN (m + 1)).setCell ⟨w.heap.size + 1, 2, none⟩ (.int .u64 (wN x)) = (ofW w ⟨s0, s1, x, s3⟩).drewN (m + 1) := by
  show (World.setCell (ofW w _) _ _).drewN (m + 1) = _
  congr 1
  unfold ofW
  rw [World.setCell_alloc_at _ _ _ _ _ (by simp)]
  rfl
theorem ofW_set3 (w : World) (s0 s1 s2 s3 x : BitVec 64) (m : Nat) : ((ofW w ⟨s0, s1, s2, s3⟩).drewN (m + 1)).setCell ⟨w.heap.size + 1, 3, none⟩ (.int .u64 (wN x)) = (ofW w ⟨s0, s1, s2, x⟩).drewN (m + 1) := by
  show (World.setCell (ofW w _) _ _).drewN (m + 1) = _
  congr 1
  unfold ofW
  rw [World.setCell_alloc_at _ _ _ _ _ (by simp)]
  rfl
end Go.Proofs.YtpajpjocakhcdaaGreatDoor
