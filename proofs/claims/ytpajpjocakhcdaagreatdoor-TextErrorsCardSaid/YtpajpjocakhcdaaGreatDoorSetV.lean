/-
  What the calls of package set do, walked through the program: a word's two-place operations, a set's operations, whether a byte is in a set, how many are, whether none is.
-/
import Derived.Test.YtpajpjocakhcdaaGreatDoorSetP
import Derived.Test.YtpajpjocakhcdaaGreatDoorRows
import Derived.WalkSpells
import Derived.WalkLawsBesides
import Derived.Deep.RegionHeld3
import Derived.LoopN
import Derived.Lib.Hide
set_option linter.unusedSimpArgs false
set_option linter.unusedVariables false
set_option maxRecDepth 100000
set_option linter.unnecessarySimpa false
namespace Go.Proofs.YtpajpjocakhcdaaGreatDoor
open Go.RowKit

theorem undSet : Tryz.prog.underlying 54 = some (.array 4 52) := by kernel_rfl
theorem undWord : Tryz.prog.underlying 52 = some (.int .u64) := by kernel_rfl

/-- two sets held against each other, word by word -/
theorem eq_words (a0 a1 a2 a3 b0 b1 b2 b3 : Int) (w : World) :
   (Op.equalIn 10000 54 (.agg #[.int .u64 a0, .int .u64 a1, .int .u64 a2, .int .u64 a3]) (.agg #[.int .u64 b0, .int .u64 b1, .int .u64 b2, .int .u64 b3])).run Tryz.prog w =
    .ok (a0 == b0 && (a1 == b1 && (a2 == b2 && a3 == b3))) w := by
  rw [Op.equalIn]
  simp only [Sem.run_bind, run_underlying undSet, Result.andThen_ok]
  have hs : ∀ w, (sizeOf 52).run Tryz.prog w = .ok 1 w := fun _ => by kernel_rfl
  have p0 : ∀ (x0 x1 x2 x3 : Value) (w : World), (part 52 #[x0, x1, x2, x3] (0 * 1)).run Tryz.prog w = .ok x0 w := fun _ _ _ _ _ => by kernel_rfl
  have p1 : ∀ (x0 x1 x2 x3 : Value) (w : World), (part 52 #[x0, x1, x2, x3] ((0 + 1) * 1)).run Tryz.prog w = .ok x1 w := fun _ _ _ _ _ => by kernel_rfl
  have p2 : ∀ (x0 x1 x2 x3 : Value) (w : World), (part 52 #[x0, x1, x2, x3] ((0 + 1 + 1) * 1)).run Tryz.prog w = .ok x2 w := fun _ _ _ _ _ => by kernel_rfl
  have p3 : ∀ (x0 x1 x2 x3 : Value) (w : World), (part 52 #[x0, x1, x2, x3] ((0 + 1 + 1 + 1) * 1)).run Tryz.prog w = .ok x3 w := fun _ _ _ _ _ => by kernel_rfl
  have he : ∀ (a b : Int) (w : World), (Op.equalIn 9999 52 (.int .u64 a) (.int .u64 b)).run Tryz.prog w = .ok (a == b) w := fun a b w => run_equalIn_int w 9998 52 .u64 .u64 a b undWord
  simp only [hs, Result.andThen_ok]
  rw [Std.Legacy.Range.forIn_eq_forIn_range']
  simp only [Std.Legacy.Range.size, List.range', List.forIn_cons, List.forIn_nil]
  by_cases h0 : a0 = b0
  · by_cases h1 : a1 = b1
    · by_cases h2 : a2 = b2
      · by_cases h3 : a3 = b3
        · simp [p0, p1, p2, p3, he, h0, h1, h2, h3]
        · simp [p0, p1, p2, p3, he, h0, h1, h2, h3]
      · simp [p0, p1, p2, p3, he, h0, h1, h2]
    · simp [p0, p1, p2, p3, he, h0, h1]
  · simp [p0, p1, p2, p3, he, h0]

set_option maxHeartbeats 400000 in
theorem Not1_any (x y : BitVec 64) (w : World) :
    Calls Tryz.prog 74 #[.int .u64 (wN x), .int .u64 (wN y)] w fun e w' => e = .returned (.int .u64 (wN (~~~x))) ∧ w' = w := by
  go_enter Tryz.func74, Tryz.ntmps74
  go_wp2
  go_ret
  exact ⟨by simp only [← bits_not_bv]; rfl, rfl⟩

set_option maxHeartbeats 800000 in
theorem each_any (k : Nat) (g : BitVec 64 → BitVec 64 → BitVec 64)
   (hk : ∀ x y w, Calls Tryz.prog k #[.int .u64 (wN (x : BitVec 64)), .int .u64 (wN (y : BitVec 64))] w fun e w' => e = .returned (.int .u64 (wN (g x y))) ∧ w' = w)
   (he : ∀ args w, (callFunc k args).run Tryz.prog w = .ok (.enter k args) w)
   (a0 a1 a2 a3 b0 b1 b2 b3 : BitVec 64) (w : World) :
    Calls Tryz.prog 73 #[.agg #[.int .u64 (wN a0), .int .u64 (wN a1), .int .u64 (wN a2), .int .u64 (wN a3)], .agg #[.int .u64 (wN b0), .int .u64 (wN b1), .int .u64 (wN b2), .int .u64 (wN b3)], .func (.func k) #[] #[]] w fun e w' =>
     e = .returned (.agg #[.int .u64 (wN (g a0 b0)), .int .u64 (wN (g a1 b1)), .int .u64 (wN (g a2 b2)), .int .u64 (wN (g a3 b3))]) ∧ Below w.heap.size w w' := by
  have H := Lib.hid hk; clear hk
  go_enter Tryz.func73, Tryz.ntmps73
  go_wp2
  refine wp_loop_rounds 5 ?_
  rw [rounds_succ]
  go_wp2_with fail
  go_region_held3 (fun w' => w'.cell? ⟨w.heap.size, 0, none⟩ = some (.int .u64 (wN a0)) ∧ w'.cell? ⟨w.heap.size + 1, 0, none⟩ = some (.int .u64 (wN b0))) (go_keep) ((refine (H.out _ _ _).mono ?_; rintro e w' ⟨rfl, rfl⟩))
  go_wp2_with fail
  rw [rounds_succ]
  go_wp2_with fail
  go_region_held3 (fun w' => w'.cell? ⟨w.heap.size, 1, none⟩ = some (.int .u64 (wN a1)) ∧ w'.cell? ⟨w.heap.size + 1, 1, none⟩ = some (.int .u64 (wN b1))) (go_keep) ((refine (H.out _ _ _).mono ?_; rintro e w' ⟨rfl, rfl⟩))
  go_wp2_with fail
  rw [rounds_succ]
  go_wp2_with fail
  go_region_held3 (fun w' => w'.cell? ⟨w.heap.size, 2, none⟩ = some (.int .u64 (wN a2)) ∧ w'.cell? ⟨w.heap.size + 1, 2, none⟩ = some (.int .u64 (wN b2))) (go_keep) ((refine (H.out _ _ _).mono ?_; rintro e w' ⟨rfl, rfl⟩))
  go_wp2_with fail
  rw [rounds_succ]
  go_wp2_with fail
  go_region_held3 (fun w' => w'.cell? ⟨w.heap.size, 3, none⟩ = some (.int .u64 (wN a3)) ∧ w'.cell? ⟨w.heap.size + 1, 3, none⟩ = some (.int .u64 (wN b3))) (go_keep) ((refine (H.out _ _ _).mono ?_; rintro e w' ⟨rfl, rfl⟩))
  go_wp2_with fail
  rw [rounds_succ]
  go_wp2_with fail
  refine bodyPost_ret (v := .agg #[.int .u64 (wN (g a0 b0)), .int .u64 (wN (g a1 b1)), .int .u64 (wN (g a2 b2)), .int .u64 (wN (g a3 b3))]) (by simp [results, Tryz.results73, go_sem]) rfl ⟨rfl, ?_⟩
  repeat (first | exact Below.refl _ _ | assumption | refine Below.drew ?_ | refine ext_drewN ?_ _ | refine ext_alloc ?_ _ | refine Below.setCell ?_ (by (try simp only [World.size_alloc, World.size_setCell, World.size_drew]); omega) _ | refine ext_step ?_ (by assumption))

set_option maxHeartbeats 400000 in
theorem Not_any (a0 a1 a2 a3 : BitVec 64) (w : World) :
    Calls Tryz.prog 37 #[.agg #[.int .u64 (wN a0), .int .u64 (wN a1), .int .u64 (wN a2), .int .u64 (wN a3)]] w fun e w' => e = .returned (.agg #[.int .u64 (wN (~~~a0)), .int .u64 (wN (~~~a1)), .int .u64 (wN (~~~a2)), .int .u64 (wN (~~~a3))]) ∧ Below w.heap.size w w' := by
  go_enter Tryz.func37, Tryz.ntmps37
  go_wp2_with fail
  refine (each_any 74 (fun x _ => ~~~x) Not1_any (fun _ _ => by kernel_rfl) a0 a1 a2 a3 a0 a1 a2 a3 _).mono ?_
  rintro e w1 ⟨rfl, hb⟩
  obtain ⟨hc, hf⟩ := bcell hb
  go_wp2
  refine bodyPost_ret (v := .agg #[.int .u64 (wN (~~~a0)), .int .u64 (wN (~~~a1)), .int .u64 (wN (~~~a2)), .int .u64 (wN (~~~a3))]) (by simp [results, Tryz.results37, go_sem, hc]) rfl ⟨rfl, ?_⟩
  repeat (first | exact Below.refl _ _ | assumption | refine Below.drew ?_ | refine ext_drewN ?_ _ | refine ext_alloc ?_ _ | refine Below.setCell ?_ (by (try simp only [World.size_alloc, World.size_setCell, World.size_drew]); omega) _ | refine ext_step ?_ (by assumption))
end Go.Proofs.YtpajpjocakhcdaaGreatDoor
