/-
  'From', walked through the program: the set of the bytes from one to another, both counted.
-/
import Derived.Test.YtpajpjocakhcdaaGreatDoorSetO
set_option linter.unusedSimpArgs false
set_option linter.unusedVariables false
set_option maxRecDepth 100000
set_option linter.unnecessarySimpa false
namespace Go.Proofs.YtpajpjocakhcdaaGreatDoor
open Go.RowKit

def FromAt (low high : Nat) (w : World) (i : Value) (wr : World) : Prop := ∃ (n m : Nat), low + n ≤ 256 ∧ (n = 0 ∨ low + n ≤ high + 1) ∧ i = .int .i64 ((low + n : Nat) : Int) ∧ wr = (ofW w (BS.run low n)).drewN m
set_option maxHeartbeats 1600000 in
theorem From_any (low high : Nat) (hlo : low < 256) (hhi : high < 256) (w : World) :
    Calls Tryz.prog 36 #[.int .u8 (low : Int), .int .u8 (high : Int)] w fun e w' => e = .returned (.agg #[.int .u64 (wN (BS.run low (high + 1 - low)).a), .int .u64 (wN (BS.run low (high + 1 - low)).b), .int .u64 (wN (BS.run low (high + 1 - low)).c), .int .u64 (wN (BS.run low (high + 1 - low)).d)]) ∧ Below w.heap.size w w' := by
  go_enter Tryz.func36, Tryz.ntmps36
  go_wp2
  go_loopw [6] (fun i wr => FromAt low high w i wr) (fun i _ => 256 - (intOf i).toNat)
  case atStart => exact ⟨0, 0, by omega, by omega, by go_num, rfl⟩
  case round =>
    obtain ⟨n, m, hk, hn, rfl, rfl⟩ := hrel
    by_cases hlt : low + n ≤ high
    · have HS : Hid (BS.run low (n + 1) = (BS.run low n).add (low + n)) := rfl
      generalize hs : BS.run low n = s at *
      clear hs
      obtain ⟨s0, s1, s2, s3⟩ := s
      generalize hj : low + n = j at *
      have HJ := Lib.hid hj
      clear hj
      have hm64 : (j % 64) < 64 := by omega
      have hj256 : j ≤ 255 := by omega
      have h63 := and63 j (by omega)
      rcases (show (j : Int) / 64 = 0 ∨ (j : Int) / 64 = 1 ∨ (j : Int) / 64 = 2 ∨ (j : Int) / 64 = 3 by omega) with hq | hq | hq | hq
      · have HA : Hid ((⟨s0, s1, s2, s3⟩ : BS).add j = ⟨s0 ||| BitVec.twoPow 64 (j % 64), s1, s2, s3⟩) := by exact BS.add0 s0 s1 s2 s3 _ (by omega)
        have hbit := or_bit s0 (j % 64) hm64
        dsimp only [ofW]
        go_wp2
        go_region
        go_wp2
        go_roundw
        case rel => exact ⟨n + 1, m + 1, by have := HJ.out; omega, by have := HJ.out; omega, by rw [← Nat.add_assoc, HJ.out]; go_num, by rw [HS.out, HA.out]; exact ofW_set0 w s0 s1 s2 s3 _ _⟩
        case measure => simp [intOf]; omega
      · have HA : Hid ((⟨s0, s1, s2, s3⟩ : BS).add j = ⟨s0, s1 ||| BitVec.twoPow 64 (j % 64), s2, s3⟩) := by exact BS.add1 s0 s1 s2 s3 _ (by omega)
        have hbit := or_bit s1 (j % 64) hm64
        dsimp only [ofW]
        go_wp2
        go_region
        go_wp2
        go_roundw
        case rel => exact ⟨n + 1, m + 1, by have := HJ.out; omega, by have := HJ.out; omega, by rw [← Nat.add_assoc, HJ.out]; go_num, by rw [HS.out, HA.out]; exact ofW_set1 w s0 s1 s2 s3 _ _⟩
        case measure => simp [intOf]; omega
      · have HA : Hid ((⟨s0, s1, s2, s3⟩ : BS).add j = ⟨s0, s1, s2 ||| BitVec.twoPow 64 (j % 64), s3⟩) := by exact BS.add2 s0 s1 s2 s3 _ (by omega)
        have hbit := or_bit s2 (j % 64) hm64
        dsimp only [ofW]
        go_wp2
        go_region
        go_wp2
        go_roundw
        case rel => exact ⟨n + 1, m + 1, by have := HJ.out; omega, by have := HJ.out; omega, by rw [← Nat.add_assoc, HJ.out]; go_num, by rw [HS.out, HA.out]; exact ofW_set2 w s0 s1 s2 s3 _ _⟩
        case measure => simp [intOf]; omega
      · have HA : Hid ((⟨s0, s1, s2, s3⟩ : BS).add j = ⟨s0, s1, s2, s3 ||| BitVec.twoPow 64 (j % 64)⟩) := by exact BS.add3 s0 s1 s2 s3 _ (by omega)
        have hbit := or_bit s3 (j % 64) hm64
        dsimp only [ofW]
        go_wp2
        go_region
        go_wp2
        go_roundw
        case rel => exact ⟨n + 1, m + 1, by have := HJ.out; omega, by have := HJ.out; omega, by rw [← Nat.add_assoc, HJ.out]; go_num, by rw [HS.out, HA.out]; exact ofW_set3 w s0 s1 s2 s3 _ _⟩
        case measure => simp [intOf]; omega
    · obtain rfl : n = high + 1 - low := by omega
      generalize hs : BS.run low (high + 1 - low) = s
      obtain ⟨s0, s1, s2, s3⟩ := s
      have HE := Lib.hid hs
      clear hs
      generalize low + (high + 1 - low) = j at *
      dsimp only [ofW]
      go_wp2
      refine bodyPost_ret (v := .agg #[.int .u64 (wN s0), .int .u64 (wN s1), .int .u64 (wN s2), .int .u64 (wN s3)]) (by simp [results, Tryz.results36, go_sem]) rfl ⟨by rw [HE.out], ?_⟩
      repeat (first | exact Below.refl _ _ | assumption | refine Below.drew ?_ | refine ext_drewN ?_ _ | refine ext_alloc ?_ _ | refine Below.setCell ?_ (by (try simp only [World.size_alloc, World.size_setCell, World.size_drew]); omega) _ | refine ext_step ?_ (by assumption))
end Go.Proofs.YtpajpjocakhcdaaGreatDoor
