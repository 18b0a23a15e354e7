/-
  What the calls of package set do with two sets, walked through the program.
-/
import Derived.Test.YtpajpjocakhcdaaGreatDoorSetV
set_option linter.unusedSimpArgs false
set_option linter.unusedVariables false
set_option maxRecDepth 100000
set_option linter.unnecessarySimpa false
namespace Go.Proofs.YtpajpjocakhcdaaGreatDoor
open Go.RowKit

set_option maxHeartbeats 400000 in
theorem And1_any (x y : BitVec 64) (w : World) :
    Calls Tryz.prog 108 #[.int .u64 (wN x), .int .u64 (wN y)] w fun e w' => e = .returned (.int .u64 (wN (x &&& y))) ∧ w' = w := by
  go_enter Tryz.func108, Tryz.ntmps108
  go_wp2
  go_ret
  exact ⟨by simp only [← bits_and_bv]; rfl, rfl⟩

set_option maxHeartbeats 400000 in
theorem Or1_any (x y : BitVec 64) (w : World) :
    Calls Tryz.prog 110 #[.int .u64 (wN x), .int .u64 (wN y)] w fun e w' => e = .returned (.int .u64 (wN (x ||| y))) ∧ w' = w := by
  go_enter Tryz.func110, Tryz.ntmps110
  go_wp2
  go_ret
  exact ⟨by simp only [← bits_or_bv]; rfl, rfl⟩

set_option maxHeartbeats 400000 in
theorem Minus1_any (x y : BitVec 64) (w : World) :
    Calls Tryz.prog 109 #[.int .u64 (wN x), .int .u64 (wN y)] w fun e w' => e = .returned (.int .u64 (wN (x &&& ~~~y))) ∧ w' = w := by
  go_enter Tryz.func109, Tryz.ntmps109
  go_wp2
  go_ret
  exact ⟨by simp only [← bits_andNot_bv]; rfl, rfl⟩

set_option maxHeartbeats 400000 in
theorem And_any (a0 a1 a2 a3 b0 b1 b2 b3 : BitVec 64) (w : World) :
    Calls Tryz.prog 80 #[.agg #[.int .u64 (wN a0), .int .u64 (wN a1), .int .u64 (wN a2), .int .u64 (wN a3)], .agg #[.int .u64 (wN b0), .int .u64 (wN b1), .int .u64 (wN b2), .int .u64 (wN b3)]] w fun e w' => e = .returned (.agg #[.int .u64 (wN (a0 &&& b0)), .int .u64 (wN (a1 &&& b1)), .int .u64 (wN (a2 &&& b2)), .int .u64 (wN (a3 &&& b3))]) ∧ Below w.heap.size w w' := by
  go_enter Tryz.func80, Tryz.ntmps80
  go_wp2_with fail
  refine (each_any 108 (fun x y => x &&& y) And1_any (fun _ _ => by kernel_rfl) a0 a1 a2 a3 b0 b1 b2 b3 _).mono ?_
  rintro e w1 ⟨rfl, hb⟩
  obtain ⟨hc, hf⟩ := bcell hb
  go_wp2
  refine bodyPost_ret (v := .agg #[.int .u64 (wN (a0 &&& b0)), .int .u64 (wN (a1 &&& b1)), .int .u64 (wN (a2 &&& b2)), .int .u64 (wN (a3 &&& b3))]) (by simp [results, Tryz.results80, go_sem, hc]) rfl ⟨rfl, ?_⟩
  repeat (first | exact Below.refl _ _ | assumption | refine Below.drew ?_ | refine ext_drewN ?_ _ | refine ext_alloc ?_ _ | refine Below.setCell ?_ (by (try simp only [World.size_alloc, World.size_setCell, World.size_drew]); omega) _ | refine ext_step ?_ (by assumption))

set_option maxHeartbeats 400000 in
theorem Or_any (a0 a1 a2 a3 b0 b1 b2 b3 : BitVec 64) (w : World) :
    Calls Tryz.prog 84 #[.agg #[.int .u64 (wN a0), .int .u64 (wN a1), .int .u64 (wN a2), .int .u64 (wN a3)], .agg #[.int .u64 (wN b0), .int .u64 (wN b1), .int .u64 (wN b2), .int .u64 (wN b3)]] w fun e w' => e = .returned (.agg #[.int .u64 (wN (a0 ||| b0)), .int .u64 (wN (a1 ||| b1)), .int .u64 (wN (a2 ||| b2)), .int .u64 (wN (a3 ||| b3))]) ∧ Below w.heap.size w w' := by
  go_enter Tryz.func84, Tryz.ntmps84
  go_wp2_with fail
  refine (each_any 110 (fun x y => x ||| y) Or1_any (fun _ _ => by kernel_rfl) a0 a1 a2 a3 b0 b1 b2 b3 _).mono ?_
  rintro e w1 ⟨rfl, hb⟩
  obtain ⟨hc, hf⟩ := bcell hb
  go_wp2
  refine bodyPost_ret (v := .agg #[.int .u64 (wN (a0 ||| b0)), .int .u64 (wN (a1 ||| b1)), .int .u64 (wN (a2 ||| b2)), .int .u64 (wN (a3 ||| b3))]) (by simp [results, Tryz.results84, go_sem, hc]) rfl ⟨rfl, ?_⟩
  repeat (first | exact Below.refl _ _ | assumption | refine Below.drew ?_ | refine ext_drewN ?_ _ | refine ext_alloc ?_ _ | refine Below.setCell ?_ (by (try simp only [World.size_alloc, World.size_setCell, World.size_drew]); omega) _ | refine ext_step ?_ (by assumption))

set_option maxHeartbeats 400000 in
theorem Minus_any (a0 a1 a2 a3 b0 b1 b2 b3 : BitVec 64) (w : World) :
    Calls Tryz.prog 83 #[.agg #[.int .u64 (wN a0), .int .u64 (wN a1), .int .u64 (wN a2), .int .u64 (wN a3)], .agg #[.int .u64 (wN b0), .int .u64 (wN b1), .int .u64 (wN b2), .int .u64 (wN b3)]] w fun e w' => e = .returned (.agg #[.int .u64 (wN (a0 &&& ~~~b0)), .int .u64 (wN (a1 &&& ~~~b1)), .int .u64 (wN (a2 &&& ~~~b2)), .int .u64 (wN (a3 &&& ~~~b3))]) ∧ Below w.heap.size w w' := by
  go_enter Tryz.func83, Tryz.ntmps83
  go_wp2_with fail
  refine (each_any 109 (fun x y => x &&& ~~~y) Minus1_any (fun _ _ => by kernel_rfl) a0 a1 a2 a3 b0 b1 b2 b3 _).mono ?_
  rintro e w1 ⟨rfl, hb⟩
  obtain ⟨hc, hf⟩ := bcell hb
  go_wp2
  refine bodyPost_ret (v := .agg #[.int .u64 (wN (a0 &&& ~~~b0)), .int .u64 (wN (a1 &&& ~~~b1)), .int .u64 (wN (a2 &&& ~~~b2)), .int .u64 (wN (a3 &&& ~~~b3))]) (by simp [results, Tryz.results83, go_sem, hc]) rfl ⟨rfl, ?_⟩
  repeat (first | exact Below.refl _ _ | assumption | refine Below.drew ?_ | refine ext_drewN ?_ _ | refine ext_alloc ?_ _ | refine Below.setCell ?_ (by (try simp only [World.size_alloc, World.size_setCell, World.size_drew]); omega) _ | refine ext_step ?_ (by assumption))
end Go.Proofs.YtpajpjocakhcdaaGreatDoor
