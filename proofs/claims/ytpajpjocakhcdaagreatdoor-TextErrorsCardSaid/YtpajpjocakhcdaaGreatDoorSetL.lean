/-
  What the calls of package set do, walked through the program: how many bytes are in a set, whether none is, whether a byte is.
-/
import Derived.Test.YtpajpjocakhcdaaGreatDoorSetV
set_option linter.unusedSimpArgs false
set_option linter.unusedVariables false
set_option maxRecDepth 100000
set_option linter.unnecessarySimpa false
namespace Go.Proofs.YtpajpjocakhcdaaGreatDoor
open Go.RowKit

/-! ### How many; whether none; whether a byte is in it -/
set_option maxHeartbeats 400000 in
theorem Ones_any (x : BitVec 64) (w : World) :
    Calls Tryz.prog 115 #[.int .u64 (wN x)] w fun e w' => e = .returned (.int .i64 (pop 64 x.toNat : Nat)) ∧ w' = w := by
  have hl := wN_lo x
  have hh := wN_hi x
  rw [← onesI_pop]
  go_enter Tryz.func115, Tryz.ntmps115
  go_wp2
  go_ret
  refine ⟨?_, rfl⟩
  simp only [onesI, o1, o2, o3, o4, o5, o6]
  rfl

set_option maxHeartbeats 400000 in
theorem Empty_any (a0 a1 a2 a3 : BitVec 64) (w : World) :
    Calls Tryz.prog 70 #[.agg #[.int .u64 (wN a0), .int .u64 (wN a1), .int .u64 (wN a2), .int .u64 (wN a3)]] w fun e w' =>
     e = .returned (.bool (decide ((⟨a0, a1, a2, a3⟩ : BS) = BS.none))) ∧ w' = w.alloc (.cells #[.int .u64 (wN a0), .int .u64 (wN a1), .int .u64 (wN a2), .int .u64 (wN a3)] 54) := by
  have h := eq_words (wN a0) (wN a1) (wN a2) (wN a3) 0 0 0 0
  go_enter Tryz.func70, Tryz.ntmps70
  go_wp2
  go_ret
  refine ⟨?_, rfl⟩
  have e : (wN a0 == 0 && (wN a1 == 0 && (wN a2 == 0 && wN a3 == 0))) = decide ((⟨a0, a1, a2, a3⟩ : BS) = BS.none) := by
    rw [wN_zero, wN_beq, wN_beq, wN_beq, wN_beq]
    simp [BS.none, Bool.decide_and]
  rw [← e]
  rfl

theorem has_word (x : BitVec 64) (k : Nat) (hk : k < 64) : (bits .and .u64 (wN x / 2 ^ k) 1 == 1) = x.getLsbD k := by
  have hx : x.toNat / 2 ^ k < 18446744073709551616 := Nat.lt_of_le_of_lt (Nat.div_le_self _ _) x.isLt
  have e : wN x / 2 ^ k = ((x.toNat / 2 ^ k : Nat) : Int) := by unfold wN; norm_cast
  rw [e, show (1 : Int) = ((1 : Nat) : Int) from rfl, u64_and_nat _ _ hx (by omega), Nat.and_one_is_mod]
  show _ = x.toNat.testBit k
  rw [Nat.testBit_eq_decide_div_mod_eq]
  rcases Nat.mod_two_eq_zero_or_one (x.toNat / 2 ^ k) with h | h <;> rw [h] <;> rfl
theorem cell_of_words (a0 a1 a2 a3 : BitVec 64) (q : Nat) (hq : q < 4) (w : World) :
    (w.alloc (.cells #[.int .u64 (wN a0), .int .u64 (wN a1), .int .u64 (wN a2), .int .u64 (wN a3)] 54)).cell? ⟨w.heap.size, q, none⟩ = some (.int .u64 (wN ((⟨a0, a1, a2, a3⟩ : BS).wd q))) := by
  rw [World.cell?_alloc_new]
  match q, hq with
  | 0, _ => rfl
  | 1, _ => rfl
  | 2, _ => rfl
  | 3, _ => rfl
set_option maxHeartbeats 400000 in
theorem Has_any (a0 a1 a2 a3 : BitVec 64) (b : Int) (h0 : 0 ≤ b) (h1 : b ≤ 255) (w : World) :
    Calls Tryz.prog 117 #[.agg #[.int .u64 (wN a0), .int .u64 (wN a1), .int .u64 (wN a2), .int .u64 (wN a3)], .int .u8 b] w fun e w' =>
     e = .returned (.bool ((⟨a0, a1, a2, a3⟩ : BS).has b.toNat)) ∧ w' = w.alloc (.cells #[.int .u64 (wN a0), .int .u64 (wN a1), .int .u64 (wN a2), .int .u64 (wN a3)] 54) := by
  have hx := cell_of_words a0 a1 a2 a3 (b / 64).toNat (by omega) w
  have hw := has_word ((⟨a0, a1, a2, a3⟩ : BS).wd (b / 64).toNat) (b % 64).toNat (by omega)
  have e1 : (b / 64).toNat = b.toNat / 64 := by omega
  have e2 : (b % 64).toNat = b.toNat % 64 := by omega
  have H : Hid ((⟨a0, a1, a2, a3⟩ : BS).has b.toNat = ((⟨a0, a1, a2, a3⟩ : BS).wd (b / 64).toNat).getLsbD (b % 64).toNat) := by
    show _ = _
    unfold BS.has
    rw [e1, e2]
  clear e1 e2
  generalize ((⟨a0, a1, a2, a3⟩ : BS).wd (b / 64).toNat) = x at *
  rw [H.out]
  have HW := Lib.hid hw
  clear hw H
  have hl := wN_lo x
  have hh := wN_hi x
  go_enter Tryz.func117, Tryz.ntmps117
  go_wp2
  go_ret
  refine ⟨?_, rfl⟩
  rw [← HW.out]
  rfl

theorem ret_int {k : IntKind} {a b : Int} (h : a = b) : Ending.returned (.int k a) = .returned (.int k b) := by rw [h]
set_option maxHeartbeats 800000 in
theorem Len_any (a0 a1 a2 a3 : BitVec 64) (w : World) :
    Calls Tryz.prog 100 #[.agg #[.int .u64 (wN a0), .int .u64 (wN a1), .int .u64 (wN a2), .int .u64 (wN a3)]] w fun e w' =>
     e = .returned (.int .i64 ((⟨a0, a1, a2, a3⟩ : BS).len : Nat)) ∧ w' = w.alloc (.cells #[.int .u64 (wN a0), .int .u64 (wN a1), .int .u64 (wN a2), .int .u64 (wN a3)] 54) := by
  have p0 := pop_le 64 a0.toNat; have p1 := pop_le 64 a1.toNat; have p2 := pop_le 64 a2.toNat; have p3 := pop_le 64 a3.toNat
  have i0 : ∀ w, (Instr.index 54 (.agg #[.int .u64 (wN a0), .int .u64 (wN a1), .int .u64 (wN a2), .int .u64 (wN a3)]) (.int .i64 0)).run Tryz.prog w = .ok (.int .u64 (wN a0)) w := fun _ => by kernel_rfl
  have i1 : ∀ w, (Instr.index 54 (.agg #[.int .u64 (wN a0), .int .u64 (wN a1), .int .u64 (wN a2), .int .u64 (wN a3)]) (.int .i64 1)).run Tryz.prog w = .ok (.int .u64 (wN a1)) w := fun _ => by kernel_rfl
  have i2 : ∀ w, (Instr.index 54 (.agg #[.int .u64 (wN a0), .int .u64 (wN a1), .int .u64 (wN a2), .int .u64 (wN a3)]) (.int .i64 2)).run Tryz.prog w = .ok (.int .u64 (wN a2)) w := fun _ => by kernel_rfl
  have i3 : ∀ w, (Instr.index 54 (.agg #[.int .u64 (wN a0), .int .u64 (wN a1), .int .u64 (wN a2), .int .u64 (wN a3)]) (.int .i64 3)).run Tryz.prog w = .ok (.int .u64 (wN a3)) w := fun _ => by kernel_rfl
  go_enter Tryz.func100, Tryz.ntmps100
  go_wp2
  refine wp_loop_rounds 5 ?_
  rw [rounds_succ]
  go_wp2_with (go_at_call 115; refine (Ones_any _ _).mono ?_; rintro e w' ⟨rfl, rfl⟩)
  rw [rounds_succ]
  go_wp2_with (go_at_call 115; refine (Ones_any _ _).mono ?_; rintro e w' ⟨rfl, rfl⟩)
  rw [rounds_succ]
  go_wp2_with (go_at_call 115; refine (Ones_any _ _).mono ?_; rintro e w' ⟨rfl, rfl⟩)
  rw [rounds_succ]
  go_wp2_with (go_at_call 115; refine (Ones_any _ _).mono ?_; rintro e w' ⟨rfl, rfl⟩)
  rw [rounds_succ]
  go_wp2
  go_ret
  exact ⟨ret_int (by unfold BS.len; dsimp only; push_cast; rfl), rfl⟩
end Go.Proofs.YtpajpjocakhcdaaGreatDoor
