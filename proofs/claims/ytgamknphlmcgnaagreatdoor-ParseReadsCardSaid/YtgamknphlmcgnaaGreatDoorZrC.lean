/-
  The iterator over a set's runs, walked through the program: it hands on each run of the set, in order, and stops where it is told to. The least byte of a set, walked through the program: for whatever set; the library's table is read as its initialiser lays it. An expression in memory: the block of its node, the row of its kids, and so on down. It stays where memory grows. The expression of one byte as it is written, walked through the program. A set as it is written, walked through the program.
-/
import Derived.Test.YtgamknphlmcgnaaGreatDoorRows
import Derived.WalkSpells
import Derived.WalkLawsBesides
import Derived.Deep.RegionHeld3
import Derived.LoopN
import Derived.Lib.Hide
import Derived.ProofKit
import Derived.OpenShut
import Derived.ShutString
import Derived.ChangeOld
import Derived.Below
import Derived.Lib.SmallJoins
import Derived.RangeFuncNested
import Derived.RangeFuncBound
import Derived.RangeFuncCalls
import Derived.RangeFuncLeaves
import Derived.RangeFuncFrom
import Derived.Shelf.Abstract
import Derived.Shelf.RegionOpen
import Derived.OwnWalkIn
import Derived.TacticsInMore
import Derived.LoopNIn
import Derived.LoopIn
import Derived.Shelf.Spec.TrailingZeros
import Derived.Shelf.Lay
import Derived.WalkKit
import Derived.Test.YtgamknphlmcgnaaGreatDoorZrA
import Derived.Test.YtgamknphlmcgnaaGreatDoorZrB
section
set_option linter.unusedSimpArgs false
set_option linter.unusedVariables false
set_option maxRecDepth 100000
set_option linter.unnecessarySimpa false
namespace Go.Proofs.YtgamknphlmcgnaaGreatDoor
open Go.RowKit
theorem undSet : Tryz.prog.underlying 109 = some (.array 4 30) := by kernel_rfl
theorem undWord : Tryz.prog.underlying 30 = some (.int .u64) := by kernel_rfl
/-- two sets held against each other, word by word -/
theorem eq_words (a0 a1 a2 a3 b0 b1 b2 b3 : Int) (w : World) :
   (Op.equalIn 10000 109 (.agg #[.int .u64 a0, .int .u64 a1, .int .u64 a2, .int .u64 a3]) (.agg #[.int .u64 b0, .int .u64 b1, .int .u64 b2, .int .u64 b3])).run Tryz.prog w =
    .ok (a0 == b0 && (a1 == b1 && (a2 == b2 && a3 == b3))) w := by
  rw [Op.equalIn]
  simp only [Sem.run_bind, run_underlying undSet, Result.andThen_ok]
  have hs : ∀ w, (sizeOf 30).run Tryz.prog w = .ok 1 w := fun _ => by kernel_rfl
  have p0 : ∀ (x0 x1 x2 x3 : Value) (w : World), (part 30 #[x0, x1, x2, x3] (0 * 1)).run Tryz.prog w = .ok x0 w := fun _ _ _ _ _ => by kernel_rfl
  have p1 : ∀ (x0 x1 x2 x3 : Value) (w : World), (part 30 #[x0, x1, x2, x3] ((0 + 1) * 1)).run Tryz.prog w = .ok x1 w := fun _ _ _ _ _ => by kernel_rfl
  have p2 : ∀ (x0 x1 x2 x3 : Value) (w : World), (part 30 #[x0, x1, x2, x3] ((0 + 1 + 1) * 1)).run Tryz.prog w = .ok x2 w := fun _ _ _ _ _ => by kernel_rfl
  have p3 : ∀ (x0 x1 x2 x3 : Value) (w : World), (part 30 #[x0, x1, x2, x3] ((0 + 1 + 1 + 1) * 1)).run Tryz.prog w = .ok x3 w := fun _ _ _ _ _ => by kernel_rfl
  have he : ∀ (a b : Int) (w : World), (Op.equalIn 9999 30 (.int .u64 a) (.int .u64 b)).run Tryz.prog w = .ok (a == b) w := fun a b w => run_equalIn_int w 9998 30 .u64 .u64 a b undWord
  simp only [hs, Result.andThen_ok]
  rw [Std.Legacy.Range.forIn_eq_forIn_range']
  simp only [Std.Legacy.Range.size, List.range', List.forIn_cons, List.forIn_nil]
  by_cases h0 : a0 = b0
  · by_cases h1 : a1 = b1
    · by_cases h2 : a2 = b2
      · by_cases h3 : a3 = b3
        · simp [p0, p1, p2, p3, he, h0, h1, h2, h3]
        · simp [p0, p1, p2, p3, he, h0, h1, h2, h3]
      · simp [p0, p1, p2, p3, he, h0, h1, h2]
    · simp [p0, p1, p2, p3, he, h0, h1]
  · simp [p0, p1, p2, p3, he, h0]
set_option maxHeartbeats 400000 in
theorem Not1_any (x y : BitVec 64) (w : World) :
    Calls Tryz.prog 149 #[.int .u64 (wN x), .int .u64 (wN y)] w fun e w' => e = .returned (.int .u64 (wN (~~~x))) ∧ w' = w := by
  go_enter Tryz.func149, Tryz.ntmps149
  go_wp2
  go_ret
  exact ⟨by simp only [← bits_not_bv]; rfl, rfl⟩
set_option maxHeartbeats 800000 in
theorem each_any (k : Nat) (g : BitVec 64 → BitVec 64 → BitVec 64)
   (hk : ∀ x y w, Calls Tryz.prog k #[.int .u64 (wN (x : BitVec 64)), .int .u64 (wN (y : BitVec 64))] w fun e w' => e = .returned (.int .u64 (wN (g x y))) ∧ w' = w)
   (he : ∀ args w, (callFunc k args).run Tryz.prog w = .ok (.enter k args) w)
   (a0 a1 a2 a3 b0 b1 b2 b3 : BitVec 64) (w : World) :
    Calls Tryz.prog 148 #[.agg #[.int .u64 (wN a0), .int .u64 (wN a1), .int .u64 (wN a2), .int .u64 (wN a3)], .agg #[.int .u64 (wN b0), .int .u64 (wN b1), .int .u64 (wN b2), .int .u64 (wN b3)], .func (.func k) #[] #[]] w fun e w' =>
     e = .returned (.agg #[.int .u64 (wN (g a0 b0)), .int .u64 (wN (g a1 b1)), .int .u64 (wN (g a2 b2)), .int .u64 (wN (g a3 b3))]) ∧ Below w.heap.size w w' := by
  have H := Lib.hid hk; clear hk
  go_enter Tryz.func148, Tryz.ntmps148
  go_wp2
  refine wp_loop_rounds 5 ?_
  rw [rounds_succ]
  go_wp2_with fail
  go_region_held3 (fun w' => w'.cell? ⟨w.heap.size, 0, none⟩ = some (.int .u64 (wN a0)) ∧ w'.cell? ⟨w.heap.size + 1, 0, none⟩ = some (.int .u64 (wN b0))) (go_keep) ((refine (H.out _ _ _).mono ?_; rintro e w' ⟨rfl, rfl⟩))
  go_wp2_with fail
  rw [rounds_succ]
  go_wp2_with fail
  go_region_held3 (fun w' => w'.cell? ⟨w.heap.size, 1, none⟩ = some (.int .u64 (wN a1)) ∧ w'.cell? ⟨w.heap.size + 1, 1, none⟩ = some (.int .u64 (wN b1))) (go_keep) ((refine (H.out _ _ _).mono ?_; rintro e w' ⟨rfl, rfl⟩))
  go_wp2_with fail
  rw [rounds_succ]
  go_wp2_with fail
  go_region_held3 (fun w' => w'.cell? ⟨w.heap.size, 2, none⟩ = some (.int .u64 (wN a2)) ∧ w'.cell? ⟨w.heap.size + 1, 2, none⟩ = some (.int .u64 (wN b2))) (go_keep) ((refine (H.out _ _ _).mono ?_; rintro e w' ⟨rfl, rfl⟩))
  go_wp2_with fail
  rw [rounds_succ]
  go_wp2_with fail
  go_region_held3 (fun w' => w'.cell? ⟨w.heap.size, 3, none⟩ = some (.int .u64 (wN a3)) ∧ w'.cell? ⟨w.heap.size + 1, 3, none⟩ = some (.int .u64 (wN b3))) (go_keep) ((refine (H.out _ _ _).mono ?_; rintro e w' ⟨rfl, rfl⟩))
  go_wp2_with fail
  rw [rounds_succ]
  go_wp2_with fail
  refine bodyPost_ret (v := .agg #[.int .u64 (wN (g a0 b0)), .int .u64 (wN (g a1 b1)), .int .u64 (wN (g a2 b2)), .int .u64 (wN (g a3 b3))]) (by simp [results, Tryz.results148, go_sem]) rfl ⟨rfl, ?_⟩
  repeat (first | exact Below.refl _ _ | assumption | refine Below.drew ?_ | refine ext_drewN ?_ _ | refine ext_alloc ?_ _ | refine Below.setCell ?_ (by (try simp only [World.size_alloc, World.size_setCell, World.size_drew]); omega) _ | refine ext_step ?_ (by assumption))
set_option maxHeartbeats 400000 in
theorem Not_any (a0 a1 a2 a3 : BitVec 64) (w : World) :
    Calls Tryz.prog 114 #[.agg #[.int .u64 (wN a0), .int .u64 (wN a1), .int .u64 (wN a2), .int .u64 (wN a3)]] w fun e w' => e = .returned (.agg #[.int .u64 (wN (~~~a0)), .int .u64 (wN (~~~a1)), .int .u64 (wN (~~~a2)), .int .u64 (wN (~~~a3))]) ∧ Below w.heap.size w w' := by
  go_enter Tryz.func114, Tryz.ntmps114
  go_wp2_with fail
  refine (each_any 149 (fun x _ => ~~~x) Not1_any (fun _ _ => by kernel_rfl) a0 a1 a2 a3 a0 a1 a2 a3 _).mono ?_
  rintro e w1 ⟨rfl, hb⟩
  obtain ⟨hc, hf⟩ := bcell hb
  go_wp2
  refine bodyPost_ret (v := .agg #[.int .u64 (wN (~~~a0)), .int .u64 (wN (~~~a1)), .int .u64 (wN (~~~a2)), .int .u64 (wN (~~~a3))]) (by simp [results, Tryz.results114, go_sem, hc]) rfl ⟨rfl, ?_⟩
  repeat (first | exact Below.refl _ _ | assumption | refine Below.drew ?_ | refine ext_drewN ?_ _ | refine ext_alloc ?_ _ | refine Below.setCell ?_ (by (try simp only [World.size_alloc, World.size_setCell, World.size_drew]); omega) _ | refine ext_step ?_ (by assumption))
end Go.Proofs.YtgamknphlmcgnaaGreatDoor
namespace Go.Proofs.YtgamknphlmcgnaaGreatDoor
open Go.RowKit
set_option maxHeartbeats 400000 in
theorem Ones_any (x : BitVec 64) (w : World) :
    Calls Tryz.prog 147 #[.int .u64 (wN x)] w fun e w' => e = .returned (.int .i64 (pop 64 x.toNat : Nat)) ∧ w' = w := by
  have hl := wN_lo x
  have hh := wN_hi x
  rw [← onesI_pop]
  go_enter Tryz.func147, Tryz.ntmps147
  go_wp2
  go_ret
  refine ⟨?_, rfl⟩
  simp only [onesI, o1, o2, o3, o4, o5, o6]
  rfl
set_option maxHeartbeats 400000 in
theorem Empty_any (a0 a1 a2 a3 : BitVec 64) (w : World) :
    Calls Tryz.prog 57 #[.agg #[.int .u64 (wN a0), .int .u64 (wN a1), .int .u64 (wN a2), .int .u64 (wN a3)]] w fun e w' =>
     e = .returned (.bool (decide ((⟨a0, a1, a2, a3⟩ : BS) = BS.none))) ∧ w' = w.alloc (.cells #[.int .u64 (wN a0), .int .u64 (wN a1), .int .u64 (wN a2), .int .u64 (wN a3)] 109) := by
  have h := eq_words (wN a0) (wN a1) (wN a2) (wN a3) 0 0 0 0
  go_enter Tryz.func57, Tryz.ntmps57
  go_wp2
  go_ret
  refine ⟨?_, rfl⟩
  have e : (wN a0 == 0 && (wN a1 == 0 && (wN a2 == 0 && wN a3 == 0))) = decide ((⟨a0, a1, a2, a3⟩ : BS) = BS.none) := by
    rw [wN_zero, wN_beq, wN_beq, wN_beq, wN_beq]
    simp [BS.none, Bool.decide_and]
  rw [← e]
  rfl
theorem has_word (x : BitVec 64) (k : Nat) (hk : k < 64) : (bits .and .u64 (wN x / 2 ^ k) 1 == 1) = x.getLsbD k := by
  have hx : x.toNat / 2 ^ k < 18446744073709551616 := Nat.lt_of_le_of_lt (Nat.div_le_self _ _) x.isLt
  have e : wN x / 2 ^ k = ((x.toNat / 2 ^ k : Nat) : Int) := by unfold wN; norm_cast
  rw [e, show (1 : Int) = ((1 : Nat) : Int) from rfl, u64_and_nat _ _ hx (by omega), Nat.and_one_is_mod]
  show _ = x.toNat.testBit k
  rw [Nat.testBit_eq_decide_div_mod_eq]
  rcases Nat.mod_two_eq_zero_or_one (x.toNat / 2 ^ k) with h | h <;> rw [h] <;> rfl
theorem cell_of_words (a0 a1 a2 a3 : BitVec 64) (q : Nat) (hq : q < 4) (w : World) :
    (w.alloc (.cells #[.int .u64 (wN a0), .int .u64 (wN a1), .int .u64 (wN a2), .int .u64 (wN a3)] 109)).cell? ⟨w.heap.size, q, none⟩ = some (.int .u64 (wN ((⟨a0, a1, a2, a3⟩ : BS).wd q))) := by
  rw [World.cell?_alloc_new]
  match q, hq with
  | 0, _ => rfl
  | 1, _ => rfl
  | 2, _ => rfl
  | 3, _ => rfl
set_option maxHeartbeats 400000 in
theorem Has_any (a0 a1 a2 a3 : BitVec 64) (b : Int) (h0 : 0 ≤ b) (h1 : b ≤ 255) (w : World) :
    Calls Tryz.prog 151 #[.agg #[.int .u64 (wN a0), .int .u64 (wN a1), .int .u64 (wN a2), .int .u64 (wN a3)], .int .u8 b] w fun e w' =>
     e = .returned (.bool ((⟨a0, a1, a2, a3⟩ : BS).has b.toNat)) ∧ w' = w.alloc (.cells #[.int .u64 (wN a0), .int .u64 (wN a1), .int .u64 (wN a2), .int .u64 (wN a3)] 109) := by
  have hx := cell_of_words a0 a1 a2 a3 (b / 64).toNat (by omega) w
  have hw := has_word ((⟨a0, a1, a2, a3⟩ : BS).wd (b / 64).toNat) (b % 64).toNat (by omega)
  have e1 : (b / 64).toNat = b.toNat / 64 := by omega
  have e2 : (b % 64).toNat = b.toNat % 64 := by omega
  have H : Hid ((⟨a0, a1, a2, a3⟩ : BS).has b.toNat = ((⟨a0, a1, a2, a3⟩ : BS).wd (b / 64).toNat).getLsbD (b % 64).toNat) := by
    show _ = _
    unfold BS.has
    rw [e1, e2]
  clear e1 e2
  generalize ((⟨a0, a1, a2, a3⟩ : BS).wd (b / 64).toNat) = x at *
  rw [H.out]
  have HW := Lib.hid hw
  clear hw H
  have hl := wN_lo x
  have hh := wN_hi x
  go_enter Tryz.func151, Tryz.ntmps151
  go_wp2
  go_ret
  refine ⟨?_, rfl⟩
  rw [← HW.out]
  rfl
theorem ret_int {k : IntKind} {a b : Int} (h : a = b) : Ending.returned (.int k a) = .returned (.int k b) := by rw [h]
set_option maxHeartbeats 800000 in
theorem Len_any (a0 a1 a2 a3 : BitVec 64) (w : World) :
    Calls Tryz.prog 111 #[.agg #[.int .u64 (wN a0), .int .u64 (wN a1), .int .u64 (wN a2), .int .u64 (wN a3)]] w fun e w' =>
     e = .returned (.int .i64 ((⟨a0, a1, a2, a3⟩ : BS).len : Nat)) ∧ w' = w.alloc (.cells #[.int .u64 (wN a0), .int .u64 (wN a1), .int .u64 (wN a2), .int .u64 (wN a3)] 109) := by
  have p0 := pop_le 64 a0.toNat; have p1 := pop_le 64 a1.toNat; have p2 := pop_le 64 a2.toNat; have p3 := pop_le 64 a3.toNat
  have i0 : ∀ w, (Instr.index 109 (.agg #[.int .u64 (wN a0), .int .u64 (wN a1), .int .u64 (wN a2), .int .u64 (wN a3)]) (.int .i64 0)).run Tryz.prog w = .ok (.int .u64 (wN a0)) w := fun _ => by kernel_rfl
  have i1 : ∀ w, (Instr.index 109 (.agg #[.int .u64 (wN a0), .int .u64 (wN a1), .int .u64 (wN a2), .int .u64 (wN a3)]) (.int .i64 1)).run Tryz.prog w = .ok (.int .u64 (wN a1)) w := fun _ => by kernel_rfl
  have i2 : ∀ w, (Instr.index 109 (.agg #[.int .u64 (wN a0), .int .u64 (wN a1), .int .u64 (wN a2), .int .u64 (wN a3)]) (.int .i64 2)).run Tryz.prog w = .ok (.int .u64 (wN a2)) w := fun _ => by kernel_rfl
  have i3 : ∀ w, (Instr.index 109 (.agg #[.int .u64 (wN a0), .int .u64 (wN a1), .int .u64 (wN a2), .int .u64 (wN a3)]) (.int .i64 3)).run Tryz.prog w = .ok (.int .u64 (wN a3)) w := fun _ => by kernel_rfl
  go_enter Tryz.func111, Tryz.ntmps111
  go_wp2
  refine wp_loop_rounds 5 ?_
  rw [rounds_succ]
  go_wp2_with (go_at_call 147; refine (Ones_any _ _).mono ?_; rintro e w' ⟨rfl, rfl⟩)
  rw [rounds_succ]
  go_wp2_with (go_at_call 147; refine (Ones_any _ _).mono ?_; rintro e w' ⟨rfl, rfl⟩)
  rw [rounds_succ]
  go_wp2_with (go_at_call 147; refine (Ones_any _ _).mono ?_; rintro e w' ⟨rfl, rfl⟩)
  rw [rounds_succ]
  go_wp2_with (go_at_call 147; refine (Ones_any _ _).mono ?_; rintro e w' ⟨rfl, rfl⟩)
  rw [rounds_succ]
  go_wp2
  go_ret
  exact ⟨ret_int (by unfold BS.len; dsimp only; push_cast; rfl), rfl⟩
end Go.Proofs.YtgamknphlmcgnaaGreatDoor
namespace Go.Proofs.YtgamknphlmcgnaaGreatDoor
open Go.RowKit
set_option maxHeartbeats 400000 in
theorem All_any (w : World) :
    Calls Tryz.prog 113 #[] w fun e w' => e = .returned (.agg #[.int .u64 (wN fullW), .int .u64 (wN fullW), .int .u64 (wN fullW), .int .u64 (wN fullW)]) ∧ Below w.heap.size w w' := by
  have hn : ∀ w, Calls Tryz.prog 114 #[.agg #[.int .u64 0, .int .u64 0, .int .u64 0, .int .u64 0]] w fun e w' => e = .returned (.agg #[.int .u64 (wN fullW), .int .u64 (wN fullW), .int .u64 (wN fullW), .int .u64 (wN fullW)]) ∧ Below w.heap.size w w' := fun w => Not_any 0 0 0 0 w
  have HN := Lib.hid hn
  clear hn
  go_enter Tryz.func113, Tryz.ntmps113
  go_wp2_with fail
  refine (HN.out _).mono ?_
  rintro e w1 ⟨rfl, hb⟩
  obtain ⟨hc, hf⟩ := bcell hb
  go_wp2
  refine bodyPost_ret (v := .agg #[.int .u64 (wN fullW), .int .u64 (wN fullW), .int .u64 (wN fullW), .int .u64 (wN fullW)]) (by simp [results, Tryz.results113, go_sem, hc]) rfl ⟨rfl, ?_⟩
  repeat (first | exact Below.refl _ _ | assumption | refine Below.drew ?_ | refine ext_drewN ?_ _ | refine ext_alloc ?_ _ | refine Below.setCell ?_ (by (try simp only [World.size_alloc, World.size_setCell, World.size_drew]); omega) _ | refine ext_step ?_ (by assumption))
def ofW (w : World) (s : BS) : World := (w.alloc (.cells #[.int .u64 0, .int .u64 0, .int .u64 0, .int .u64 0] 109)).alloc (.cells #[.int .u64 (wN s.a), .int .u64 (wN s.b), .int .u64 (wN s.c), .int .u64 (wN s.d)] 109)
def OfAt (xs : List Int) (w : World) (i : Value) (wr : World) : Prop := ∃ (k : Nat), k ≤ xs.length ∧ i = .int .i64 k ∧ wr = ofW w (BS.ofL (xs.take k))
theorem take_snoc_getD (xs : List Int) (k : Nat) (h : k < xs.length) : xs.take (k + 1) = xs.take k ++ [xs.getD k 0] := by
  rw [List.take_succ_eq_append_getElem h]; simp [List.getD, h]
set_option maxHeartbeats 800000 in
theorem Of_any (b off cap : Nat) (xs : List Int) (hx : ∀ i, i < xs.length → 0 ≤ xs.getD i 0 ∧ xs.getD i 0 ≤ 255) (hm : xs.length ≤ 140737488351232) (w : World)
   (hc : ∀ i, i < xs.length → w.cell? ⟨b, off + i, none⟩ = some (.int .u8 (xs.getD i 0))) :
    Calls Tryz.prog 117 #[.slice (some ⟨b, off, none⟩) xs.length cap] w fun e w' => e = .returned (.agg #[.int .u64 (wN (BS.ofL xs).a), .int .u64 (wN (BS.ofL xs).b), .int .u64 (wN (BS.ofL xs).c), .int .u64 (wN (BS.ofL xs).d)]) ∧ Below w.heap.size w w' := by
  have HC := Lib.hid hc
  clear hc
  go_enter Tryz.func117, Tryz.ntmps117
  go_wp2
  go_loopw [8] (fun i wr => OfAt xs w i wr) (fun i _ => xs.length - (intOf i).toNat)
  case atStart => exact ⟨0, by omega, rfl, rfl⟩
  case round =>
    obtain ⟨k, hk, rfl, rfl⟩ := hrel
    by_cases hlt : k < xs.length
    · have hcell := HC.out k hlt
      have hcell : ∀ s, (ofW w s).cell? ⟨b, off + k, none⟩ = some (.int .u8 (xs.getD k 0)) := fun s => by
        unfold ofW
        have hb := World.block_lt_of_cell? w _ hcell
        rw [World.cell?_alloc_old _ _ _ (by simp at hb ⊢; omega), World.cell?_alloc_old _ _ _ (by simp at hb ⊢; omega), hcell]
      obtain ⟨h0, h1⟩ := hx k hlt
      have HS : Hid (BS.ofL (xs.take (k + 1)) = (BS.ofL (xs.take k)).add (xs.getD k 0).toNat) := by
        show _ = _
        rw [take_snoc_getD xs k hlt, BS.ofL_snoc]
      generalize xs.getD k 0 = x at *
      generalize hs : BS.ofL (xs.take k) = s at *
      clear hs
      obtain ⟨s0, s1, s2, s3⟩ := s
      have hcell := hcell ⟨s0, s1, s2, s3⟩
      have e1 : (x % 64).toNat = x.toNat % 64 := by omega
      have E1 := Lib.hid e1
      clear e1
      have hm64 : (x % 64).toNat < 64 := by omega
      rcases (show x / 64 = 0 ∨ x / 64 = 1 ∨ x / 64 = 2 ∨ x / 64 = 3 by omega) with hq | hq | hq | hq
      · have HA : Hid ((⟨s0, s1, s2, s3⟩ : BS).add x.toNat = ⟨s0 ||| BitVec.twoPow 64 (x % 64).toNat, s1, s2, s3⟩) := by rw [E1.out]; exact BS.add0 s0 s1 s2 s3 _ (by omega)
        have hbit := or_bit s0 (x % 64).toNat hm64
        dsimp only [ofW] at hcell ⊢
        go_wp2
        go_roundw
        case rel => exact ⟨k + 1, by omega, by go_num, by rw [HS.out, HA.out]; rfl⟩
        case measure => simp [intOf]; omega
      · have HA : Hid ((⟨s0, s1, s2, s3⟩ : BS).add x.toNat = ⟨s0, s1 ||| BitVec.twoPow 64 (x % 64).toNat, s2, s3⟩) := by rw [E1.out]; exact BS.add1 s0 s1 s2 s3 _ (by omega)
        have hbit := or_bit s1 (x % 64).toNat hm64
        dsimp only [ofW] at hcell ⊢
        go_wp2
        go_roundw
        case rel => exact ⟨k + 1, by omega, by go_num, by rw [HS.out, HA.out]; rfl⟩
        case measure => simp [intOf]; omega
      · have HA : Hid ((⟨s0, s1, s2, s3⟩ : BS).add x.toNat = ⟨s0, s1, s2 ||| BitVec.twoPow 64 (x % 64).toNat, s3⟩) := by rw [E1.out]; exact BS.add2 s0 s1 s2 s3 _ (by omega)
        have hbit := or_bit s2 (x % 64).toNat hm64
        dsimp only [ofW] at hcell ⊢
        go_wp2
        go_roundw
        case rel => exact ⟨k + 1, by omega, by go_num, by rw [HS.out, HA.out]; rfl⟩
        case measure => simp [intOf]; omega
      · have HA : Hid ((⟨s0, s1, s2, s3⟩ : BS).add x.toNat = ⟨s0, s1, s2, s3 ||| BitVec.twoPow 64 (x % 64).toNat⟩) := by rw [E1.out]; exact BS.add3 s0 s1 s2 s3 _ (by omega)
        have hbit := or_bit s3 (x % 64).toNat hm64
        dsimp only [ofW] at hcell ⊢
        go_wp2
        go_roundw
        case rel => exact ⟨k + 1, by omega, by go_num, by rw [HS.out, HA.out]; rfl⟩
        case measure => simp [intOf]; omega
    · obtain rfl : k = xs.length := by omega
      rw [List.take_length]
      generalize hs : BS.ofL xs = s
      obtain ⟨s0, s1, s2, s3⟩ := s
      have HE := Lib.hid hs
      clear hs
      dsimp only [ofW]
      go_wp2
      refine bodyPost_ret (v := .agg #[.int .u64 (wN s0), .int .u64 (wN s1), .int .u64 (wN s2), .int .u64 (wN s3)]) (by simp [results, Tryz.results117, go_sem]) rfl ⟨by rw [HE.out], ?_⟩
      repeat (first | exact Below.refl _ _ | assumption | refine Below.drew ?_ | refine ext_drewN ?_ _ | refine ext_alloc ?_ _ | refine Below.setCell ?_ (by (try simp only [World.size_alloc, World.size_setCell, World.size_drew]); omega) _ | refine ext_step ?_ (by assumption))
theorem and63 : ∀ j < 256, bits .and .i64 ((j : Nat) : Int) 63 = (j : Int) % 64 := by decide +kernel
theorem ofW_set0 (w : World) (s0 s1 s2 s3 x : BitVec 64) (m : Nat) : ((ofW w ⟨s0, s1, s2, s3⟩).drewN (m + 1)).setCell ⟨w.heap.size + 1, 0, none⟩ (.int .u64 (wN x)) = (ofW w ⟨x, s1, s2, s3⟩).drewN (m + 1) := by
  show (World.setCell (ofW w _) _ _).drewN (m + 1) = _
  congr 1
  unfold ofW
  rw [World.setCell_alloc_at _ _ _ _ _ (by simp)]
  rfl
theorem ofW_set1 (w : World) (s0 s1 s2 s3 x : BitVec 64) (m : Nat) : ((ofW w ⟨s0, s1, s2, s3⟩).drewN (m + 1)).setCell ⟨w.heap.size + 1, 1, none⟩ (.int .u64 (wN x)) = (ofW w ⟨s0, x, s2, s3⟩).drewN (m + 1) := by
  show (World.setCell (ofW w _) _ _).drewN (m + 1) = _
  congr 1
  unfold ofW
  rw [World.setCell_alloc_at _ _ _ _ _ (by simp)]
  rfl
theorem ofW_set2 (w : World) (s0 s1 s2 s3 x : BitVec 64) (m : Nat) : ((ofW w ⟨s0, s1, s2, s3⟩).drewN (m + 1)).setCell ⟨w.heap.size + 1, 2, none⟩ (.int .u64 (wN x)) = (ofW w ⟨s0, s1, x, s3⟩).drewN (m + 1) := by
  show (World.setCell (ofW w _) _ _).drewN (m + 1) = _
  congr 1
  unfold ofW
  rw [World.setCell_alloc_at _ _ _ _ _ (by simp)]
  rfl
theorem ofW_set3 (w : World) (s0 s1 s2 s3 x : BitVec 64) (m : Nat) : ((ofW w ⟨s0, s1, s2, s3⟩).drewN (m + 1)).setCell ⟨w.heap.size + 1, 3, none⟩ (.int .u64 (wN x)) = (ofW w ⟨s0, s1, s2, x⟩).drewN (m + 1) := by
  show (World.setCell (ofW w _) _ _).drewN (m + 1) = _
  congr 1
  unfold ofW
  rw [World.setCell_alloc_at _ _ _ _ _ (by simp)]
  rfl
end Go.Proofs.YtgamknphlmcgnaaGreatDoor
namespace Go.Proofs.YtgamknphlmcgnaaGreatDoor
open Go.RowKit
set_option maxHeartbeats 400000 in
theorem And1_any (x y : BitVec 64) (w : World) :
    Calls Tryz.prog 176 #[.int .u64 (wN x), .int .u64 (wN y)] w fun e w' => e = .returned (.int .u64 (wN (x &&& y))) ∧ w' = w := by
  go_enter Tryz.func176, Tryz.ntmps176
  go_wp2
  go_ret
  exact ⟨by simp only [← bits_and_bv]; rfl, rfl⟩
set_option maxHeartbeats 400000 in
theorem Or1_any (x y : BitVec 64) (w : World) :
    Calls Tryz.prog 175 #[.int .u64 (wN x), .int .u64 (wN y)] w fun e w' => e = .returned (.int .u64 (wN (x ||| y))) ∧ w' = w := by
  go_enter Tryz.func175, Tryz.ntmps175
  go_wp2
  go_ret
  exact ⟨by simp only [← bits_or_bv]; rfl, rfl⟩
set_option maxHeartbeats 400000 in
theorem Minus1_any (x y : BitVec 64) (w : World) :
    Calls Tryz.prog 177 #[.int .u64 (wN x), .int .u64 (wN y)] w fun e w' => e = .returned (.int .u64 (wN (x &&& ~~~y))) ∧ w' = w := by
  go_enter Tryz.func177, Tryz.ntmps177
  go_wp2
  go_ret
  exact ⟨by simp only [← bits_andNot_bv]; rfl, rfl⟩
set_option maxHeartbeats 400000 in
theorem And_any (a0 a1 a2 a3 b0 b1 b2 b3 : BitVec 64) (w : World) :
    Calls Tryz.prog 157 #[.agg #[.int .u64 (wN a0), .int .u64 (wN a1), .int .u64 (wN a2), .int .u64 (wN a3)], .agg #[.int .u64 (wN b0), .int .u64 (wN b1), .int .u64 (wN b2), .int .u64 (wN b3)]] w fun e w' => e = .returned (.agg #[.int .u64 (wN (a0 &&& b0)), .int .u64 (wN (a1 &&& b1)), .int .u64 (wN (a2 &&& b2)), .int .u64 (wN (a3 &&& b3))]) ∧ Below w.heap.size w w' := by
  go_enter Tryz.func157, Tryz.ntmps157
  go_wp2_with fail
  refine (each_any 176 (fun x y => x &&& y) And1_any (fun _ _ => by kernel_rfl) a0 a1 a2 a3 b0 b1 b2 b3 _).mono ?_
  rintro e w1 ⟨rfl, hb⟩
  obtain ⟨hc, hf⟩ := bcell hb
  go_wp2
  refine bodyPost_ret (v := .agg #[.int .u64 (wN (a0 &&& b0)), .int .u64 (wN (a1 &&& b1)), .int .u64 (wN (a2 &&& b2)), .int .u64 (wN (a3 &&& b3))]) (by simp [results, Tryz.results157, go_sem, hc]) rfl ⟨rfl, ?_⟩
  repeat (first | exact Below.refl _ _ | assumption | refine Below.drew ?_ | refine ext_drewN ?_ _ | refine ext_alloc ?_ _ | refine Below.setCell ?_ (by (try simp only [World.size_alloc, World.size_setCell, World.size_drew]); omega) _ | refine ext_step ?_ (by assumption))
set_option maxHeartbeats 400000 in
theorem Or_any (a0 a1 a2 a3 b0 b1 b2 b3 : BitVec 64) (w : World) :
    Calls Tryz.prog 153 #[.agg #[.int .u64 (wN a0), .int .u64 (wN a1), .int .u64 (wN a2), .int .u64 (wN a3)], .agg #[.int .u64 (wN b0), .int .u64 (wN b1), .int .u64 (wN b2), .int .u64 (wN b3)]] w fun e w' => e = .returned (.agg #[.int .u64 (wN (a0 ||| b0)), .int .u64 (wN (a1 ||| b1)), .int .u64 (wN (a2 ||| b2)), .int .u64 (wN (a3 ||| b3))]) ∧ Below w.heap.size w w' := by
  go_enter Tryz.func153, Tryz.ntmps153
  go_wp2_with fail
  refine (each_any 175 (fun x y => x ||| y) Or1_any (fun _ _ => by kernel_rfl) a0 a1 a2 a3 b0 b1 b2 b3 _).mono ?_
  rintro e w1 ⟨rfl, hb⟩
  obtain ⟨hc, hf⟩ := bcell hb
  go_wp2
  refine bodyPost_ret (v := .agg #[.int .u64 (wN (a0 ||| b0)), .int .u64 (wN (a1 ||| b1)), .int .u64 (wN (a2 ||| b2)), .int .u64 (wN (a3 ||| b3))]) (by simp [results, Tryz.results153, go_sem, hc]) rfl ⟨rfl, ?_⟩
  repeat (first | exact Below.refl _ _ | assumption | refine Below.drew ?_ | refine ext_drewN ?_ _ | refine ext_alloc ?_ _ | refine Below.setCell ?_ (by (try simp only [World.size_alloc, World.size_setCell, World.size_drew]); omega) _ | refine ext_step ?_ (by assumption))
set_option maxHeartbeats 400000 in
theorem Minus_any (a0 a1 a2 a3 b0 b1 b2 b3 : BitVec 64) (w : World) :
    Calls Tryz.prog 158 #[.agg #[.int .u64 (wN a0), .int .u64 (wN a1), .int .u64 (wN a2), .int .u64 (wN a3)], .agg #[.int .u64 (wN b0), .int .u64 (wN b1), .int .u64 (wN b2), .int .u64 (wN b3)]] w fun e w' => e = .returned (.agg #[.int .u64 (wN (a0 &&& ~~~b0)), .int .u64 (wN (a1 &&& ~~~b1)), .int .u64 (wN (a2 &&& ~~~b2)), .int .u64 (wN (a3 &&& ~~~b3))]) ∧ Below w.heap.size w w' := by
  go_enter Tryz.func158, Tryz.ntmps158
  go_wp2_with fail
  refine (each_any 177 (fun x y => x &&& ~~~y) Minus1_any (fun _ _ => by kernel_rfl) a0 a1 a2 a3 b0 b1 b2 b3 _).mono ?_
  rintro e w1 ⟨rfl, hb⟩
  obtain ⟨hc, hf⟩ := bcell hb
  go_wp2
  refine bodyPost_ret (v := .agg #[.int .u64 (wN (a0 &&& ~~~b0)), .int .u64 (wN (a1 &&& ~~~b1)), .int .u64 (wN (a2 &&& ~~~b2)), .int .u64 (wN (a3 &&& ~~~b3))]) (by simp [results, Tryz.results158, go_sem, hc]) rfl ⟨rfl, ?_⟩
  repeat (first | exact Below.refl _ _ | assumption | refine Below.drew ?_ | refine ext_drewN ?_ _ | refine ext_alloc ?_ _ | refine Below.setCell ?_ (by (try simp only [World.size_alloc, World.size_setCell, World.size_drew]); omega) _ | refine ext_step ?_ (by assumption))
end Go.Proofs.YtgamknphlmcgnaaGreatDoor
namespace Go.Proofs.YtgamknphlmcgnaaGreatDoor
open Go.RowKit
def FromAt (low high : Nat) (w : World) (i : Value) (wr : World) : Prop := ∃ (n m : Nat), low + n ≤ 256 ∧ (n = 0 ∨ low + n ≤ high + 1) ∧ i = .int .i64 ((low + n : Nat) : Int) ∧ wr = (ofW w (BS.run low n)).drewN m
set_option maxHeartbeats 1600000 in
theorem From_any (low high : Nat) (hlo : low < 256) (hhi : high < 256) (w : World) :
    Calls Tryz.prog 121 #[.int .u8 (low : Int), .int .u8 (high : Int)] w fun e w' => e = .returned (.agg #[.int .u64 (wN (BS.run low (high + 1 - low)).a), .int .u64 (wN (BS.run low (high + 1 - low)).b), .int .u64 (wN (BS.run low (high + 1 - low)).c), .int .u64 (wN (BS.run low (high + 1 - low)).d)]) ∧ Below w.heap.size w w' := by
  go_enter Tryz.func121, Tryz.ntmps121
  go_wp2
  go_loopw [6] (fun i wr => FromAt low high w i wr) (fun i _ => 256 - (intOf i).toNat)
  case atStart => exact ⟨0, 0, by omega, by omega, by go_num, rfl⟩
  case round =>
    obtain ⟨n, m, hk, hn, rfl, rfl⟩ := hrel
    by_cases hlt : low + n ≤ high
    · have HS : Hid (BS.run low (n + 1) = (BS.run low n).add (low + n)) := rfl
      generalize hs : BS.run low n = s at *
      clear hs
      obtain ⟨s0, s1, s2, s3⟩ := s
      generalize hj : low + n = j at *
      have HJ := Lib.hid hj
      clear hj
      have hm64 : (j % 64) < 64 := by omega
      have hj256 : j ≤ 255 := by omega
      have h63 := and63 j (by omega)
      rcases (show (j : Int) / 64 = 0 ∨ (j : Int) / 64 = 1 ∨ (j : Int) / 64 = 2 ∨ (j : Int) / 64 = 3 by omega) with hq | hq | hq | hq
      · have HA : Hid ((⟨s0, s1, s2, s3⟩ : BS).add j = ⟨s0 ||| BitVec.twoPow 64 (j % 64), s1, s2, s3⟩) := by exact BS.add0 s0 s1 s2 s3 _ (by omega)
        have hbit := or_bit s0 (j % 64) hm64
        dsimp only [ofW]
        go_wp2
        go_region
        go_wp2
        go_roundw
        case rel => exact ⟨n + 1, m + 1, by have := HJ.out; omega, by have := HJ.out; omega, by rw [← Nat.add_assoc, HJ.out]; go_num, by rw [HS.out, HA.out]; exact ofW_set0 w s0 s1 s2 s3 _ _⟩
        case measure => simp [intOf]; omega
      · have HA : Hid ((⟨s0, s1, s2, s3⟩ : BS).add j = ⟨s0, s1 ||| BitVec.twoPow 64 (j % 64), s2, s3⟩) := by exact BS.add1 s0 s1 s2 s3 _ (by omega)
        have hbit := or_bit s1 (j % 64) hm64
        dsimp only [ofW]
        go_wp2
        go_region
        go_wp2
        go_roundw
        case rel => exact ⟨n + 1, m + 1, by have := HJ.out; omega, by have := HJ.out; omega, by rw [← Nat.add_assoc, HJ.out]; go_num, by rw [HS.out, HA.out]; exact ofW_set1 w s0 s1 s2 s3 _ _⟩
        case measure => simp [intOf]; omega
      · have HA : Hid ((⟨s0, s1, s2, s3⟩ : BS).add j = ⟨s0, s1, s2 ||| BitVec.twoPow 64 (j % 64), s3⟩) := by exact BS.add2 s0 s1 s2 s3 _ (by omega)
        have hbit := or_bit s2 (j % 64) hm64
        dsimp only [ofW]
        go_wp2
        go_region
        go_wp2
        go_roundw
        case rel => exact ⟨n + 1, m + 1, by have := HJ.out; omega, by have := HJ.out; omega, by rw [← Nat.add_assoc, HJ.out]; go_num, by rw [HS.out, HA.out]; exact ofW_set2 w s0 s1 s2 s3 _ _⟩
        case measure => simp [intOf]; omega
      · have HA : Hid ((⟨s0, s1, s2, s3⟩ : BS).add j = ⟨s0, s1, s2, s3 ||| BitVec.twoPow 64 (j % 64)⟩) := by exact BS.add3 s0 s1 s2 s3 _ (by omega)
        have hbit := or_bit s3 (j % 64) hm64
        dsimp only [ofW]
        go_wp2
        go_region
        go_wp2
        go_roundw
        case rel => exact ⟨n + 1, m + 1, by have := HJ.out; omega, by have := HJ.out; omega, by rw [← Nat.add_assoc, HJ.out]; go_num, by rw [HS.out, HA.out]; exact ofW_set3 w s0 s1 s2 s3 _ _⟩
        case measure => simp [intOf]; omega
    · obtain rfl : n = high + 1 - low := by omega
      generalize hs : BS.run low (high + 1 - low) = s
      obtain ⟨s0, s1, s2, s3⟩ := s
      have HE := Lib.hid hs
      clear hs
      generalize low + (high + 1 - low) = j at *
      dsimp only [ofW]
      go_wp2
      refine bodyPost_ret (v := .agg #[.int .u64 (wN s0), .int .u64 (wN s1), .int .u64 (wN s2), .int .u64 (wN s3)]) (by simp [results, Tryz.results121, go_sem]) rfl ⟨by rw [HE.out], ?_⟩
      repeat (first | exact Below.refl _ _ | assumption | refine Below.drew ?_ | refine ext_drewN ?_ _ | refine ext_alloc ?_ _ | refine Below.setCell ?_ (by (try simp only [World.size_alloc, World.size_setCell, World.size_drew]); omega) _ | refine ext_step ?_ (by assumption))
end Go.Proofs.YtgamknphlmcgnaaGreatDoor
namespace Go.Proofs.YtgamknphlmcgnaaGreatDoor
open Go.ChangeShapes Go.WideShapes Go.ChangeAt Go.RowKit
theorem own : ownKnob Tryz.prog.godebug = none := by kernel_rfl
theorem laidOut : laidOutB Tryz.prog = true := by kernel_rfl
end Go.Proofs.YtgamknphlmcgnaaGreatDoor
namespace Go.Proofs.YtgamknphlmcgnaaGreatDoor
open Go.RowKit Go.Shelf
attribute [local go_sem] Oper.semAt_some
theorem wide_fn (f : FuncId) : Fence.wide.fn f = True := rfl
theorem wide_depth : Fence.wide.depth = none := rfl
attribute [local go_sem] wide_fn wide_depth
theorem wd {k : Nat} : Fence.wide.depth.isSome = true → 1 ≤ k := fun h => by cases h
/-- block B lies as it lay -/
structure KeepB (B : Nat) (W W' : World) : Prop where
  size : W.heap.size ≤ W'.heap.size
  block : W'.heap[B]? = W.heap[B]?
theorem KeepB.refl (B : Nat) (W : World) : KeepB B W W := ⟨Nat.le_refl _, rfl⟩
theorem KeepB.trans {B : Nat} {X Y Z : World} (h : KeepB B X Y) (k : KeepB B Y Z) : KeepB B X Z := ⟨Nat.le_trans h.size k.size, k.block.trans h.block⟩
theorem KeepB.alloc {B : Nat} {X Y : World} (h : KeepB B X Y) (hB : B < X.heap.size) (o : Obj) : KeepB B X (Y.alloc o) :=
  ⟨by have := h.size; simp; omega, (Below.heap_alloc _ _ _ (by have := h.size; omega)).trans h.block⟩
theorem KeepB.setCell {B : Nat} {X Y : World} (h : KeepB B X Y) {p : Addr} (hp : B ≠ p.block) (v : Value) : KeepB B X (Y.setCell p v) :=
  ⟨by have := h.size; simp; omega, (Below.heap_setCell _ _ _ _ hp).trans h.block⟩
theorem KeepB.step {B : Nat} {X Y Z : World} (h : KeepB B X Y) (hB : B < X.heap.size) (hb : Below Y.heap.size Y Z) : KeepB B X Z :=
  ⟨Nat.le_trans h.size hb.size, (hb.block B (by have := h.size; omega)).trans h.block⟩
theorem keepB_t {B : Nat} {X Y Z : World} (h : KeepB B X Y) (k : KeepB B Y Z) : KeepB B X Z := h.trans k
theorem keepB_b {B : Nat} {w : World} (hB : B < w.heap.size) (W : World) (l : Nat) (o o' : Obj) (hl : w.heap.size ≤ l) (h : W.heap[l]? = some o) (_ : o.isCells = false) (_ : o.isWalk = false) : KeepB B W (W.putObj l o') :=
  ⟨by simp, World.putObj_heap_other (by omega)⟩
/-- the box at block b holds the four words -/
def BoxS (w : World) (b : Nat) (s : BS) : Prop :=
  w.cell? ⟨b, 0, none⟩ = some (.int .u64 (wN s.a)) ∧ w.cell? ⟨b, 1, none⟩ = some (.int .u64 (wN s.b)) ∧ w.cell? ⟨b, 2, none⟩ = some (.int .u64 (wN s.c)) ∧ w.cell? ⟨b, 3, none⟩ = some (.int .u64 (wN s.d))
theorem BoxS.later {B : Nat} {w w1 : World} {b : Nat} {s : BS} (h : BoxS w b s) (hb : Below B w w1) (hlt : b < B) : BoxS w1 b s :=
  ⟨(hb.cell (p := ⟨b, 0, none⟩) hlt).trans h.1, (hb.cell (p := ⟨b, 1, none⟩) hlt).trans h.2.1, (hb.cell (p := ⟨b, 2, none⟩) hlt).trans h.2.2.1, (hb.cell (p := ⟨b, 3, none⟩) hlt).trans h.2.2.2⟩
theorem BoxS.kept {w w1 : World} {b : Nat} {s : BS} (h : BoxS w b s) (hb : KeepB b w w1) : BoxS w1 b s :=
  ⟨(World.cell?_of_block (w := w) hb.block).trans h.1, (World.cell?_of_block (w := w) hb.block).trans h.2.1, (World.cell?_of_block (w := w) hb.block).trans h.2.2.1, (World.cell?_of_block (w := w) hb.block).trans h.2.2.2⟩
theorem BoxS.new (w : World) (a0 a1 a2 a3 : BitVec 64) : BoxS (w.alloc (.cells #[.int .u64 (wN a0), .int .u64 (wN a1), .int .u64 (wN a2), .int .u64 (wN a3)] 109)) w.heap.size ⟨a0, a1, a2, a3⟩ :=
  ⟨by simp, by simp, by simp, by simp⟩
abbrev encR (x : Rn) : Array Value := #[.int .u8 (x.a : Int), .int .u8 (x.b : Int)]
def RunsAt (s : BS) (B : Nat) (W : World) (J : List Rn → World → Prop) (i : Value) (wr : World) : Prop :=
  ∃ (k : Nat) (pre : List Rn), k ≤ 256 ∧ i = .int .i64 k ∧ pre ++ s.runsFrom k = s.runs ∧ J pre wr ∧ KeepB B W wr
def RunIn (s : BS) (B : Nat) (W : World) (J : List Rn → World → Prop) (pre : List Rn) (f : Nat) (i : Value) (wr : World) : Prop :=
  ∃ k : Nat, f ≤ k ∧ k < 256 ∧ i = .int .i64 k ∧ s.runEnd k = s.runEnd f ∧ J pre wr ∧ KeepB B W wr
set_option maxRecDepth 100000 in
set_option maxHeartbeats 2000000 in
theorem RunsLit_in (n l B : Nat) (s : BS) (J Jx : List Rn → World → Prop) (W : World) (hBn : B < W.heap.size) (hbox : BoxS W B s) (hJ : AbidesFrom W.heap.size J)
    (hY : ∀ pre x W1, J pre W1 → pre.length < 256 → YieldAt Fence.wide (n - 1) Tryz.prog l (encR x) W1 fun e W' =>
      (e = .returned (.bool true) ∧ J (pre ++ [x]) W' ∧ KeepB B W1 W') ∨ (e = .returned (.bool false) ∧ Jx (pre ++ [x]) W'))
    (h0 : J [] W) :
    CallsIn Fence.wide n Tryz.prog 150 #[.func (.yield l) #[] #[], .pointer (some ⟨B, 0, none⟩)] W fun e W' => (∃ v, e = .returned v) ∧
      ((∃ xs, xs = s.runs ∧ J xs W') ∨ (∃ pre, pre <+: s.runs ∧ Jx pre W')) := by
  obtain ⟨a0, a1, a2, a3⟩ := s
  refine callsIn_of_wp Tryz.func150 rfl trivial ?_ rfl
  simp only [Tryz.ntmps150, List.size_toArray, List.length_cons, List.length_nil, Nat.reduceAdd, Nat.reduceSub, Array.replicate_succ, Array.replicate_zero, List.push_toArray, List.append_toArray, List.nil_append, List.cons_append]
  gi_wp2
  gi_loopw [3] (fun i wr => RunsAt ⟨a0, a1, a2, a3⟩ B W J i wr) (fun i _ => 256 - (intOf i).toNat)
  case atStart => exact ⟨0, [], by omega, rfl, rfl, h0, KeepB.refl _ _⟩
  case round =>
    obtain ⟨k, pre, hk, rfl, hpre, hJs, hB⟩ := hrel
    by_cases hlt : k < 256
    · have hk0 : (0 : Int) ≤ k := by omega
      have hk255 : (k : Int) ≤ 255 := by omega
      obtain ⟨c0, c1, c2, c3⟩ := hbox.kept hB
      dsimp only at c0 c1 c2 c3
      have hsz : W.heap.size ≤ wr.heap.size := hB.size
      have hJa := hJ _ wr (wr.alloc (.cells #[.int .u64 (wN a0), .int .u64 (wN a1), .int .u64 (wN a2), .int .u64 (wN a3)] 109)) none hJs (World.grownBy_alloc wr _ none) (fun r e => by cases e)
      have hBa : KeepB B W (wr.alloc (.cells #[.int .u64 (wN a0), .int .u64 (wN a1), .int .u64 (wN a2), .int .u64 (wN a3)] 109)) := hB.alloc hBn _
      cases hhas : (⟨a0, a1, a2, a3⟩ : BS).has k with
      | false =>
        rw [BS.runsFrom_no _ k hlt hhas] at hpre
        have HP := Lib.hid hpre
        clear hpre
        have HH := Lib.hid hhas
        clear hhas
        gi_wp2_with (gi_at_call 151; refine (callsIn_wide.2 (Has_any a0 a1 a2 a3 k hk0 hk255 _)).mono ?_; rintro e w' ⟨rfl, rfl⟩; rw [Int.toNat_natCast, HH.out])
        go_roundw
        case rel => exact ⟨k + 1, pre, by omega, by go_num, HP.out, hJa, hBa⟩
        case measure => simp [intOf]; omega
      | true =>
        rw [BS.runsFrom_yes _ k hlt hhas] at hpre
        have HP := Lib.hid hpre
        clear hpre
        have HH := Lib.hid hhas
        clear hhas
        gi_wp2_with (gi_at_call 151; refine (callsIn_wide.2 (Has_any a0 a1 a2 a3 k hk0 hk255 _)).mono ?_; rintro e w' ⟨rfl, rfl⟩; rw [Int.toNat_natCast, HH.out])
        have HJa := hJa
        gi_loopw [3] (fun i wr => RunIn ⟨a0, a1, a2, a3⟩ B W J pre k i wr) (fun i _ => 256 - (intOf i).toNat)
        case atStart => exact ⟨k, by omega, hlt, rfl, rfl, hJa, hBa⟩
        case round =>
          clear hJa hBa HJa c0 c1 c2 c3 hsz hB hJs
          obtain ⟨j, hkj, hj, rfl, hrun, hJ2, hB2⟩ := hrel
          have HR2 := Lib.hid hrun
          clear hrun
          obtain ⟨c0, c1, c2, c3⟩ := hbox.kept hB2
          dsimp only at c0 c1 c2 c3
          have hsz2 : W.heap.size ≤ wr.heap.size := hB2.size
          have hJa2 := hJ _ wr (wr.alloc (.cells #[.int .u64 (wN a0), .int .u64 (wN a1), .int .u64 (wN a2), .int .u64 (wN a3)] 109)) none hJ2 (World.grownBy_alloc wr _ none) (fun r e => by cases e)
          have hBa2 : KeepB B W (wr.alloc (.cells #[.int .u64 (wN a0), .int .u64 (wN a1), .int .u64 (wN a2), .int .u64 (wN a3)] 109)) := hB2.alloc hBn _
          by_cases hj1 : j < 255
          · have hj0 : (0 : Int) ≤ (j : Int) + 1 := by omega
            have hj255 : (j : Int) + 1 ≤ 255 := by omega
            cases hh2 : (⟨a0, a1, a2, a3⟩ : BS).has (j + 1) with
            | true =>
              have hgo := BS.runEnd_go ⟨a0, a1, a2, a3⟩ j hj1 hh2
              rw [HR2.out] at hgo
              have HGO := Lib.hid hgo
              have HH2 := Lib.hid hh2
              clear hgo hh2
              gi_wp2_with (gi_at_call 151; refine (callsIn_wide.2 (Has_any a0 a1 a2 a3 ((j : Int) + 1) hj0 hj255 _)).mono ?_; rintro e w' ⟨rfl, rfl⟩; rw [show ((j : Int) + 1).toNat = j + 1 from rfl, HH2.out])
              go_roundw
              case rel => exact ⟨j + 1, by omega, by omega, by go_num, HGO.out.symm, hJa2, hBa2⟩
              case measure => simp [intOf]; omega
            | false =>
              have hnot : ¬ (j < 255 ∧ (⟨a0, a1, a2, a3⟩ : BS).has (j + 1) = true) := fun h => by rw [hh2] at h; exact absurd h.2 (by decide)
              have HH2 := Lib.hid hh2
              clear hh2
              have hE : (⟨a0, a1, a2, a3⟩ : BS).runEnd k = j := by rw [← HR2.out]; exact BS.runEnd_stop _ j (by exact hnot)
              have hlen : pre.length < 256 := by
                have h1 := congrArg List.length HP.out
                have h2 := (⟨a0, a1, a2, a3⟩ : BS).runsFrom_len 0
                unfold BS.runs at h1
                simp only [List.length_append, List.length_cons] at h1
                omega
              obtain ⟨fn, tmps, assign, body, hy, hR⟩ := hY pre ⟨k, j, hlt, hj⟩ _ hJa2 hlen
              have HP2 : Hid ((pre ++ [(⟨k, j, hlt, hj⟩ : Rn)]) ++ (⟨a0, a1, a2, a3⟩ : BS).runsFrom (j + 1) = (⟨a0, a1, a2, a3⟩ : BS).runs) := by
                have h := HP.out
                simp only [hE] at h
                rw [List.append_assoc]; exact h
              dsimp only [encR] at hy
              have HR := Lib.hid hR
              have HE := Lib.hid hE
              clear hE hR
              gi_wp2_with (gi_at_call 151; refine (callsIn_wide.2 (Has_any a0 a1 a2 a3 ((j : Int) + 1) hj0 hj255 _)).mono ?_; rintro e w' ⟨rfl, rfl⟩; rw [show ((j : Int) + 1).toNat = j + 1 from rfl, HH2.out])
              refine HR.out.mono ?_
              rintro e W3 (⟨rfl, hJ3, hk3⟩ | ⟨rfl, hJx3⟩)
              · gi_wp2
                go_roundw
                case rel => exact ⟨j + 1, _, by omega, by go_num, HP2.out, hJ3, hBa2.trans hk3⟩
                case measure => simp [intOf]; omega
              · gi_wp2
                refine bodyPost_ret (results_none rfl _ _ _) rfl ?_
                exact ⟨⟨_, rfl⟩, .inr ⟨_, ⟨_, HP2.out⟩, hJx3⟩⟩
          · have hnot : ¬ (j < 255 ∧ (⟨a0, a1, a2, a3⟩ : BS).has (j + 1) = true) := fun h => hj1 h.1
            have hj255 : 255 ≤ (j : Int) := by omega
            have hE : (⟨a0, a1, a2, a3⟩ : BS).runEnd k = j := by rw [← HR2.out]; exact BS.runEnd_stop _ j (by exact hnot)
            have hlen : pre.length < 256 := by
              have h1 := congrArg List.length HP.out
              have h2 := (⟨a0, a1, a2, a3⟩ : BS).runsFrom_len 0
              unfold BS.runs at h1
              simp only [List.length_append, List.length_cons] at h1
              omega
            obtain ⟨fn, tmps, assign, body, hy, hR⟩ := hY pre ⟨k, j, hlt, hj⟩ _ hJ2 hlen
            have HP2 : Hid ((pre ++ [(⟨k, j, hlt, hj⟩ : Rn)]) ++ (⟨a0, a1, a2, a3⟩ : BS).runsFrom (j + 1) = (⟨a0, a1, a2, a3⟩ : BS).runs) := by
              have h := HP.out
              simp only [hE] at h
              rw [List.append_assoc]; exact h
            dsimp only [encR] at hy
            have HR := Lib.hid hR
            have HE := Lib.hid hE
            clear hE hR
            gi_wp2
            refine HR.out.mono ?_
            rintro e W3 (⟨rfl, hJ3, hk3⟩ | ⟨rfl, hJx3⟩)
            · gi_wp2
              go_roundw
              case rel => exact ⟨j + 1, _, by omega, by go_num, HP2.out, hJ3, hB2.trans hk3⟩
              case measure => simp [intOf]; omega
            · gi_wp2
              refine bodyPost_ret (results_none rfl _ _ _) rfl ?_
              exact ⟨⟨_, rfl⟩, .inr ⟨_, ⟨_, HP2.out⟩, hJx3⟩⟩
    · obtain rfl : k = 256 := by omega
      rw [BS.runsFrom_end _ 256 (Nat.le_refl _), List.append_nil] at hpre
      have HP := Lib.hid hpre
      clear hpre
      gi_wp2
      go_end0
      exact ⟨⟨_, rfl⟩, .inl ⟨_, HP.out, hJs⟩⟩
theorem Runs_any (a0 a1 a2 a3 : BitVec 64) (w : World) :
    Calls Tryz.prog 115 #[.agg #[.int .u64 (wN a0), .int .u64 (wN a1), .int .u64 (wN a2), .int .u64 (wN a3)]] w fun e w' => e = .returned (.func (.func 150) #[] #[.pointer (some ⟨w.heap.size, 0, none⟩)]) ∧ w' = w.alloc (.cells #[.int .u64 (wN a0), .int .u64 (wN a1), .int .u64 (wN a2), .int .u64 (wN a3)] 109) := by
  go_enter Tryz.func115, Tryz.ntmps115
  go_wp2
  go_ret
  exact ⟨rfl, rfl⟩
/-- what s.Runs() hands back hands on the runs of s, in order -/
theorem Runs_stops (n B : Nat) (s : BS) (w : World) (hBn : B < w.heap.size) (hbox : BoxS w B s) :
    SeqStopsK Fence.wide n Tryz.prog 150 #[.pointer (some ⟨B, 0, none⟩)] encR (KeepB B) (fun xs => xs = s.runs) (fun pre => pre <+: s.runs) 256 w :=
  fun l J Jx W hW hJ _ hY h0 => RunsLit_in n l B s J Jx W (by have := hW.size; omega) (hbox.later hW hBn) hJ hY h0
end Go.Proofs.YtgamknphlmcgnaaGreatDoor
end
section
set_option linter.unusedSimpArgs false
set_option linter.unusedVariables false
set_option maxRecDepth 100000
set_option linter.unnecessarySimpa false
namespace Go.Proofs
shelf_lay Lays7.n29 Nm7 29 at Tryz as Tryz.lays29
namespace YtgamknphlmcgnaaGreatDoor
open Go.RowKit Go.Shelf
/-- the library's table lies as its initialiser lays it -/
def Tab (w : World) : Prop := TabAt (Tryz.lays29_ren.g 1) Lib.deBruijn64tab w
theorem Tab.later {w w1 : World} (h : Tab w) (hb : Below w.heap.size w w1) : Tab w1 := fun j hj => by
  have hc := h j hj
  have := World.block_lt_of_cell? w _ hc
  rw [hb.cell (p := ⟨_, j, none⟩) this]; exact hc
theorem Tab.alloc {w : World} (h : Tab w) (o : Obj) : Tab (w.alloc o) := h.later (ext_alloc (Below.refl _ _) o)
theorem TZ (x : BitVec 64) (w : World) (h : Tab w) : Calls Tryz.prog 146 #[.int .u64 (wN x)] w fun e w' => e = .returned (.int .i64 (Lib.ctz 64 x.toNat : Nat)) ∧ w' = w :=
  Any7.bits_TrailingZeros64 Tryz.lays29 x.toNat x.isLt w (fun _ => h)
theorem ctz_lt (x : BitVec 64) (h : x ≠ 0) : Lib.ctz 64 x.toNat < 64 := (Lib.lowest_bit 64 x.toNat (fun e => h (BitVec.eq_of_toNat_eq (by simpa using e))) x.isLt).2
def BS.least (s : BS) : Nat := if s.a ≠ 0 then Lib.ctz 64 s.a.toNat else if s.b ≠ 0 then 64 + Lib.ctz 64 s.b.toNat else if s.c ≠ 0 then 128 + Lib.ctz 64 s.c.toNat else if s.d ≠ 0 then 192 + Lib.ctz 64 s.d.toNat else 0
theorem wN_ne {x : BitVec 64} (h : x ≠ 0) : (wN x != 0) = true := by
  rw [bne_iff_ne, wN_zero]; exact fun e => h (wN_inj.1 e)
theorem wN_z : (wN 0 != 0) = false := by rw [wN_zero]; simp
set_option maxRecDepth 100000 in
set_option maxHeartbeats 1600000 in
theorem Least_any (a0 a1 a2 a3 : BitVec 64) (w : World) (hT : Tab w) :
    Calls Tryz.prog 110 #[.agg #[.int .u64 (wN a0), .int .u64 (wN a1), .int .u64 (wN a2), .int .u64 (wN a3)]] w fun e w' => e = .returned (.tuple #[.int .u8 ((⟨a0, a1, a2, a3⟩ : BS).least : Nat), .bool (decide ((⟨a0, a1, a2, a3⟩ : BS) ≠ BS.none))]) ∧ Below w.heap.size w w' := by
  have hz := wN_z
  have i0 : ∀ w, (Instr.index 109 (.agg #[.int .u64 (wN a0), .int .u64 (wN a1), .int .u64 (wN a2), .int .u64 (wN a3)]) (.int .i64 0)).run Tryz.prog w = .ok (.int .u64 (wN a0)) w := fun _ => by kernel_rfl
  have i1 : ∀ w, (Instr.index 109 (.agg #[.int .u64 (wN a0), .int .u64 (wN a1), .int .u64 (wN a2), .int .u64 (wN a3)]) (.int .i64 1)).run Tryz.prog w = .ok (.int .u64 (wN a1)) w := fun _ => by kernel_rfl
  have i2 : ∀ w, (Instr.index 109 (.agg #[.int .u64 (wN a0), .int .u64 (wN a1), .int .u64 (wN a2), .int .u64 (wN a3)]) (.int .i64 2)).run Tryz.prog w = .ok (.int .u64 (wN a2)) w := fun _ => by kernel_rfl
  have i3 : ∀ w, (Instr.index 109 (.agg #[.int .u64 (wN a0), .int .u64 (wN a1), .int .u64 (wN a2), .int .u64 (wN a3)]) (.int .i64 3)).run Tryz.prog w = .ok (.int .u64 (wN a3)) w := fun _ => by kernel_rfl
  have HT := Lib.hid (hT.alloc (.cells #[.int .u64 (wN a0), .int .u64 (wN a1), .int .u64 (wN a2), .int .u64 (wN a3)] 109))
  clear hT
  have hE : Below w.heap.size w (w.alloc (.cells #[.int .u64 (wN a0), .int .u64 (wN a1), .int .u64 (wN a2), .int .u64 (wN a3)] 109)) := by repeat (first | exact Below.refl _ _ | assumption | refine Below.drew ?_ | refine ext_drewN ?_ _ | refine ext_alloc ?_ _ | refine Below.setCell ?_ (by (try simp only [World.size_alloc, World.size_setCell, World.size_drew]); omega) _ | refine ext_step ?_ (by assumption))
  by_cases h0 : a0 = 0
  rotate_left
  · have hq := wN_ne h0
    have hk := ctz_lt a0 h0
    have HL : Hid ((⟨a0, a1, a2, a3⟩ : BS).least = Lib.ctz 64 a0.toNat) := Lib.hid (by show _ = _; unfold BS.least; dsimp only; rw [if_pos h0])
    have HNB : Hid (decide ((⟨a0, a1, a2, a3⟩ : BS) ≠ BS.none) = true) := Lib.hid (decide_eq_true (fun e => h0 (congrArg BS.a e)))
    have HTZ := Lib.hid (TZ a0)
    generalize Lib.ctz 64 a0.toNat = k at *
    rw [HL.out, HNB.out]
    have hk' : (k : Int) ≤ 63 := by omega
    clear h0 hk
    go_enter Tryz.func110, Tryz.ntmps110
    go_wp2_with fail
    refine wp_loop_rounds 1 ?_
    rw [rounds_succ]
    go_wp2_with (go_at_call 146; refine (HTZ.out _ HT.out).mono ?_; rintro e w' ⟨rfl, rfl⟩)
    go_ret2
    refine ⟨?_, hE⟩
    first | rfl | (push_cast; rfl)
  have hz0 : (wN a0 != 0) = false := by rw [h0]; exact wN_z
  by_cases h1 : a1 = 0
  rotate_left
  · have hq := wN_ne h1
    have hk := ctz_lt a1 h1
    have HL : Hid ((⟨a0, a1, a2, a3⟩ : BS).least = 64 + Lib.ctz 64 a1.toNat) := Lib.hid (by show _ = _; unfold BS.least; dsimp only; rw [if_neg (fun h => h h0), if_pos h1])
    have HNB : Hid (decide ((⟨a0, a1, a2, a3⟩ : BS) ≠ BS.none) = true) := Lib.hid (decide_eq_true (fun e => h1 (congrArg BS.b e)))
    have HTZ := Lib.hid (TZ a1)
    generalize Lib.ctz 64 a1.toNat = k at *
    rw [HL.out, HNB.out]
    have hk' : (k : Int) ≤ 63 := by omega
    clear h0 h1 hk
    go_enter Tryz.func110, Tryz.ntmps110
    go_wp2_with fail
    refine wp_loop_rounds 2 ?_
    rw [rounds_succ]
    go_wp2_with (go_at_call 146; refine (HTZ.out _ HT.out).mono ?_; rintro e w' ⟨rfl, rfl⟩)
    rw [rounds_succ]
    go_wp2_with (go_at_call 146; refine (HTZ.out _ HT.out).mono ?_; rintro e w' ⟨rfl, rfl⟩)
    go_ret2
    refine ⟨?_, hE⟩
    first | rfl | (push_cast; rfl)
  have hz1 : (wN a1 != 0) = false := by rw [h1]; exact wN_z
  by_cases h2 : a2 = 0
  rotate_left
  · have hq := wN_ne h2
    have hk := ctz_lt a2 h2
    have HL : Hid ((⟨a0, a1, a2, a3⟩ : BS).least = 128 + Lib.ctz 64 a2.toNat) := Lib.hid (by show _ = _; unfold BS.least; dsimp only; rw [if_neg (fun h => h h0), if_neg (fun h => h h1), if_pos h2])
    have HNB : Hid (decide ((⟨a0, a1, a2, a3⟩ : BS) ≠ BS.none) = true) := Lib.hid (decide_eq_true (fun e => h2 (congrArg BS.c e)))
    have HTZ := Lib.hid (TZ a2)
    generalize Lib.ctz 64 a2.toNat = k at *
    rw [HL.out, HNB.out]
    have hk' : (k : Int) ≤ 63 := by omega
    clear h0 h1 h2 hk
    go_enter Tryz.func110, Tryz.ntmps110
    go_wp2_with fail
    refine wp_loop_rounds 3 ?_
    rw [rounds_succ]
    go_wp2_with (go_at_call 146; refine (HTZ.out _ HT.out).mono ?_; rintro e w' ⟨rfl, rfl⟩)
    rw [rounds_succ]
    go_wp2_with (go_at_call 146; refine (HTZ.out _ HT.out).mono ?_; rintro e w' ⟨rfl, rfl⟩)
    rw [rounds_succ]
    go_wp2_with (go_at_call 146; refine (HTZ.out _ HT.out).mono ?_; rintro e w' ⟨rfl, rfl⟩)
    go_ret2
    refine ⟨?_, hE⟩
    first | rfl | (push_cast; rfl)
  have hz2 : (wN a2 != 0) = false := by rw [h2]; exact wN_z
  by_cases h3 : a3 = 0
  rotate_left
  · have hq := wN_ne h3
    have hk := ctz_lt a3 h3
    have HL : Hid ((⟨a0, a1, a2, a3⟩ : BS).least = 192 + Lib.ctz 64 a3.toNat) := Lib.hid (by show _ = _; unfold BS.least; dsimp only; rw [if_neg (fun h => h h0), if_neg (fun h => h h1), if_neg (fun h => h h2), if_pos h3])
    have HNB : Hid (decide ((⟨a0, a1, a2, a3⟩ : BS) ≠ BS.none) = true) := Lib.hid (decide_eq_true (fun e => h3 (congrArg BS.d e)))
    have HTZ := Lib.hid (TZ a3)
    generalize Lib.ctz 64 a3.toNat = k at *
    rw [HL.out, HNB.out]
    have hk' : (k : Int) ≤ 63 := by omega
    clear h0 h1 h2 h3 hk
    go_enter Tryz.func110, Tryz.ntmps110
    go_wp2_with fail
    refine wp_loop_rounds 4 ?_
    rw [rounds_succ]
    go_wp2_with (go_at_call 146; refine (HTZ.out _ HT.out).mono ?_; rintro e w' ⟨rfl, rfl⟩)
    rw [rounds_succ]
    go_wp2_with (go_at_call 146; refine (HTZ.out _ HT.out).mono ?_; rintro e w' ⟨rfl, rfl⟩)
    rw [rounds_succ]
    go_wp2_with (go_at_call 146; refine (HTZ.out _ HT.out).mono ?_; rintro e w' ⟨rfl, rfl⟩)
    rw [rounds_succ]
    go_wp2_with (go_at_call 146; refine (HTZ.out _ HT.out).mono ?_; rintro e w' ⟨rfl, rfl⟩)
    go_ret2
    refine ⟨?_, hE⟩
    first | rfl | (push_cast; rfl)
  have hz3 : (wN a3 != 0) = false := by rw [h3]; exact wN_z
  have HL : Hid ((⟨a0, a1, a2, a3⟩ : BS).least = 0) := Lib.hid (by show _ = _; unfold BS.least; dsimp only; rw [if_neg (fun h => h h0), if_neg (fun h => h h1), if_neg (fun h => h h2), if_neg (fun h => h h3)])
  have HNB : Hid (decide ((⟨a0, a1, a2, a3⟩ : BS) ≠ BS.none) = false) := Lib.hid (decide_eq_false (fun e => e (by rw [h0, h1, h2, h3]; rfl)))
  rw [HL.out, HNB.out]
  clear h0 h1 h2 h3
  go_enter Tryz.func110, Tryz.ntmps110
  go_wp2_with fail
  refine wp_loop_rounds 5 ?_
  rw [rounds_succ]
  go_wp2_with fail
  rw [rounds_succ]
  go_wp2_with fail
  rw [rounds_succ]
  go_wp2_with fail
  rw [rounds_succ]
  go_wp2_with fail
  rw [rounds_succ]
  go_wp2_with fail
  go_ret2
  exact ⟨rfl, hE⟩
end YtgamknphlmcgnaaGreatDoor
end Go.Proofs
end
section
set_option linter.unusedSimpArgs false
set_option linter.unusedVariables false
set_option maxRecDepth 100000
set_option linter.unnecessarySimpa false
namespace Go.Proofs.YtgamknphlmcgnaaGreatDoor
open Go.RowKit
/-- the value of a pointer to a node -/
abbrev ptr (b : Nat) : Value := .pointer (some ⟨b, 0, none⟩)
/-- pointers to nodes lie in a row -/
def PtrsAt (w : World) (kp : Option Addr) (bs : List Nat) : Prop := bs = [] ∨ ∃ kb ko, kp = some ⟨kb, ko, none⟩ ∧ ∀ i, i < bs.length → w.cell? ⟨kb, ko + i, none⟩ = some (ptr (bs.getD i 0))
theorem PtrsAt.later {B : Nat} {w w' : World} {kp : Option Addr} {bs : List Nat} (h : PtrsAt w kp bs) (hB : w.heap.size ≤ B) (hb : Below B w w') : PtrsAt w' kp bs := by
  rcases h with h | ⟨kb, ko, hk, hc⟩
  · exact .inl h
  · refine .inr ⟨kb, ko, hk, fun i hi => ?_⟩
    have := World.block_lt_of_cell? w _ (hc i hi)
    rw [hb.cell (p := ⟨kb, ko + i, none⟩) (Nat.lt_of_lt_of_le this hB)]; exact hc i hi
/-- what a row lies in: a block of pointers to nodes -/
def TyAt (w : World) (bs : List Nat) (kp : Option Addr) : Prop := bs ≠ [] → ∀ a : Addr, kp = some a → ∃ cur fr, w.heap[a.block]? = some (.cells cur 28 fr)
theorem TyAt.keep {w w' : World} {bs : List Nat} {kp : Option Addr} (h : TyAt w bs kp) (hw : bs ≠ [] → ∀ a : Addr, kp = some a → w'.heap[a.block]? = w.heap[a.block]?) : TyAt w' bs kp := fun hne a ha => by
  obtain ⟨cur, fr, hc⟩ := h hne a ha
  exact ⟨cur, fr, (hw hne a ha).trans hc⟩
theorem TyAt.later {B : Nat} {w w' : World} {bs : List Nat} {kp : Option Addr} (h : TyAt w bs kp) (hB : w.heap.size ≤ B) (hb : Below B w w') : TyAt w' bs kp := fun hne a ha => by
  obtain ⟨cur, fr, hc⟩ := h hne a ha
  exact ⟨cur, fr, (hb.block _ (Nat.lt_of_lt_of_le (Array.getElem?_eq_some_iff.1 hc).1 hB)).trans hc⟩
/-- the cells of a node -/
def nodeCells (r : RE) (kp : Option Addr) (cap : Nat) : Array Value :=
  #[.int .i64 (r.op : Nat), .int .u64 (wN r.set.a), .int .u64 (wN r.set.b), .int .u64 (wN r.set.c), .int .u64 (wN r.set.d), .slice kp r.kids.length cap, .bool r.null, .string ⟨r.key.toArray⟩, .int .i64 (r.size : Nat)]
inductive IsRe (w : World) : Nat → RE → Prop
  | mk (b : Nat) (r : RE) (kp : Option Addr) (cap : Nat) (bs : List Nat) (hb : w.heap[b]? = some (.cells (nodeCells r kp cap) 117 (0, 0))) (hl : bs.length = r.kids.length) (hr : PtrsAt w kp bs) (hy : TyAt w bs kp)
      (hk : ∀ i, i < r.kids.length → IsRe w (bs.getD i 0) (r.kids.getD i RE.nothing)) : IsRe w b r
theorem IsRe.lt {w : World} {b : Nat} {r : RE} (h : IsRe w b r) : b < w.heap.size := by
  cases h with
  | mk _ _ _ _ _ hb _ _ _ _ => exact (Array.getElem?_eq_some_iff.1 hb).1
theorem IsRe.later {B : Nat} {w w' : World} {b : Nat} {r : RE} (h : IsRe w b r) (hB : w.heap.size ≤ B) (hb : Below B w w') : IsRe w' b r := by
  induction h with
  | mk b r kp cap bs h1 hl hr hy hk ih =>
    refine .mk b r kp cap bs ?_ hl (hr.later hB hb) (hy.later hB hb) ih
    have := (Array.getElem?_eq_some_iff.1 h1).1
    rw [hb.block b (Nat.lt_of_lt_of_le this hB)]; exact h1
/-- a list of expressions, by the blocks of their nodes -/
def AreRe (w : World) (bs : List Nat) (l : List RE) : Prop := bs.length = l.length ∧ ∀ i, i < l.length → IsRe w (bs.getD i 0) (l.getD i RE.nothing)
/-- a pointer that may be nil, and what it points to -/
def IsReO (w : World) (v : Value) : Option RE → Prop
  | none => v = .pointer none
  | some r => ∃ b, v = ptr b ∧ IsRe w b r
theorem IsReO.later {w w' : World} {v : Value} {o : Option RE} (h : IsReO w v o) (hb : Below w.heap.size w w') : IsReO w' v o := by
  cases o with
  | none => exact h
  | some r => obtain ⟨b, h1, h2⟩ := h; exact ⟨b, h1, h2.later (Nat.le_refl _) hb⟩
/-- what a node's block says -/
theorem IsRe.open {w : World} {b : Nat} {r : RE} (h : IsRe w b r) : ∃ kp cap bs, w.heap[b]? = some (.cells (nodeCells r kp cap) 117 (0, 0)) ∧ PtrsAt w kp bs ∧ AreRe w bs r.kids := by
  cases h with
  | mk _ _ kp cap bs hb hl hr hy hk => exact ⟨kp, cap, bs, hb, hr, hl, hk⟩
/-- .. none of whose blocks is one of some -/
inductive IsReX (X : Nat → Prop) (w : World) : Nat → RE → Prop
  | mk (b : Nat) (r : RE) (kp : Option Addr) (cap : Nat) (bs : List Nat) (hx : ¬ X b) (hb : w.heap[b]? = some (.cells (nodeCells r kp cap) 117 (0, 0))) (hl : bs.length = r.kids.length) (hr : PtrsAt w kp bs) (hy : TyAt w bs kp)
      (hrx : ∀ a : Addr, kp = some a → bs ≠ [] → ¬ X a.block) (hk : ∀ i, i < r.kids.length → IsReX X w (bs.getD i 0) (r.kids.getD i RE.nothing)) : IsReX X w b r
theorem IsReX.is {X : Nat → Prop} {w : World} {b : Nat} {r : RE} (h : IsReX X w b r) : IsRe w b r := by
  induction h with
  | mk b r kp cap bs hx hb hl hr hy hrx hk ih => exact .mk b r kp cap bs hb hl hr hy ih
theorem IsReX.mono {X Y : Nat → Prop} {w : World} {b : Nat} {r : RE} (h : IsReX X w b r) (hXY : ∀ k, k < w.heap.size → Y k → X k) : IsReX Y w b r := by
  induction h with
  | mk b r kp cap bs hx hb hl hr hy hrx hk ih =>
    refine .mk b r kp cap bs (fun hy => hx (hXY b (Array.getElem?_eq_some_iff.1 hb).1 hy)) hb hl hr hy (fun a ha hne hy => hrx a ha hne (hXY _ ?_ hy)) ih
    rcases hr with h0 | ⟨kb, ko, hk', hc⟩
    · exact absurd h0 hne
    · rw [ha] at hk'
      cases hk'
      exact World.block_lt_of_cell? w _ (hc 0 (List.length_pos_iff.2 hne))
theorem IsRe.avoid {X : Nat → Prop} {w : World} {b : Nat} {r : RE} (h : IsRe w b r) (hX : ∀ k, k < w.heap.size → ¬ X k) : IsReX X w b r := by
  induction h with
  | mk b r kp cap bs hb hl hr hy hk ih =>
    refine .mk b r kp cap bs (hX b (Array.getElem?_eq_some_iff.1 hb).1) hb hl hr hy (fun a ha hne => hX _ ?_) ih
    rcases hr with h0 | ⟨kb, ko, hk', hc⟩
    · exact absurd h0 hne
    · rw [ha] at hk'
      cases hk'
      exact World.block_lt_of_cell? w _ (hc 0 (List.length_pos_iff.2 hne))
theorem IsReX.keep {X : Nat → Prop} {w w' : World} {b : Nat} {r : RE} (h : IsReX X w b r) (hw : ∀ k, k < w.heap.size → ¬ X k → w'.heap[k]? = w.heap[k]?) : IsReX X w' b r := by
  induction h with
  | mk b r kp cap bs hx hb hl hr hy hrx hk ih =>
    refine .mk b r kp cap bs hx ((hw b (Array.getElem?_eq_some_iff.1 hb).1 hx).trans hb) hl ?_ (hy.keep fun hne a ha => hw _ (by obtain ⟨cur, fr, hc⟩ := hy hne a ha; exact (Array.getElem?_eq_some_iff.1 hc).1) (hrx a ha hne)) hrx ih
    rcases hr with h0 | ⟨kb, ko, hk', hc⟩
    · exact .inl h0
    · refine .inr ⟨kb, ko, hk', fun i hi => ?_⟩
      have hlt := World.block_lt_of_cell? w _ (hc i hi)
      have hne : bs ≠ [] := List.length_pos_iff.1 (by omega)
      rw [World.cell?_of_block (w := w) (a := ⟨kb, ko + i, none⟩) (hw kb hlt (hrx _ hk' hne))]; exact hc i hi
/-- a list of them -/
def AreReX (X : Nat → Prop) (w : World) (bs : List Nat) (l : List RE) : Prop := bs.length = l.length ∧ ∀ i, i < l.length → IsReX X w (bs.getD i 0) (l.getD i RE.nothing)
theorem AreReX.is {X : Nat → Prop} {w : World} {bs : List Nat} {l : List RE} (h : AreReX X w bs l) : AreRe w bs l := ⟨h.1, fun i hi => (h.2 i hi).is⟩
theorem AreReX.keep {X : Nat → Prop} {w w' : World} {bs : List Nat} {l : List RE} (h : AreReX X w bs l) (hw : ∀ k, k < w.heap.size → ¬ X k → w'.heap[k]? = w.heap[k]?) : AreReX X w' bs l := ⟨h.1, fun i hi => (h.2 i hi).keep hw⟩
theorem AreReX.mono {X Y : Nat → Prop} {w : World} {bs : List Nat} {l : List RE} (h : AreReX X w bs l) (hXY : ∀ k, k < w.heap.size → Y k → X k) : AreReX Y w bs l := ⟨h.1, fun i hi => (h.2 i hi).mono hXY⟩
theorem AreRe.avoid {X : Nat → Prop} {w : World} {bs : List Nat} {l : List RE} (h : AreRe w bs l) (hX : ∀ k, k < w.heap.size → ¬ X k) : AreReX X w bs l := ⟨h.1, fun i hi => (h.2 i hi).avoid hX⟩
theorem AreReX.nil {X : Nat → Prop} {w : World} : AreReX X w [] [] := ⟨rfl, fun i hi => absurd hi (by simp)⟩
theorem AreReX.append {X : Nat → Prop} {w : World} {bs bs' : List Nat} {l l' : List RE} (h : AreReX X w bs l) (h' : AreReX X w bs' l') : AreReX X w (bs ++ bs') (l ++ l') := by
  refine ⟨by simp [h.1, h'.1], fun i hi => ?_⟩
  by_cases hl : i < l.length
  · have := h.2 i hl
    have hb : i < bs.length := by rw [h.1]; exact hl
    simpa [List.getD, List.getElem?_append_left, hl, hb] using this
  · have hn : l.length ≤ i := by omega
    have hi' : i - l.length < l'.length := by simp at hi; omega
    have := h'.2 (i - l.length) hi'
    have hnb : bs.length ≤ i := by rw [h.1]; exact hn
    simpa [List.getD, List.getElem?_append_right, hn, hnb, h.1] using this
theorem AreReX.one {X : Nat → Prop} {w : World} {b : Nat} {r : RE} (h : IsReX X w b r) : AreReX X w [b] [r] := ⟨rfl, fun i hi => by
  obtain rfl : i = 0 := by simpa using hi
  simpa using h⟩
theorem IsRe.made {w w' : World} {b o cap : Nat} {s : BS} {kp : Option Addr} {bs : List Nat} {ks : List RE} (hb : w'.heap[b]? = some (.cells (nodeCells (RE.node o s ks) kp cap) 117 (0, 0)))
   (hr : PtrsAt w kp bs) (hy : TyAt w bs kp) (hk : AreRe w bs ks) (hB : Below w.heap.size w w') : IsRe w' b (RE.node o s ks) :=
  .mk b _ kp cap bs hb hk.1 (hr.later (Nat.le_refl _) hB) (hy.later (Nat.le_refl _) hB) (fun i hi => (hk.2 i hi).later (Nat.le_refl _) hB)
/-- what is written into a block of another kind leaves an expression as it is -/
theorem IsRe.put {w w' : World} {b c : Nat} {r : RE} (h : IsRe w b r) {cs : Array Value} {t : TypeId} {fr : Nat × Nat} (hc : w.heap[c]? = some (.cells cs t fr)) (h1 : t ≠ 117) (h2 : t ≠ 28) (hw : ∀ k, k < w.heap.size → k ≠ c → w'.heap[k]? = w.heap[k]?) : IsRe w' b r := by
  induction h with
  | mk b r kp cap bs hb hl hr hy hk ih =>
    have hbc : b ≠ c := fun e => by
      subst e
      rw [hc] at hb
      have := Option.some.inj hb
      injection this with _ e2 _
      exact h1 e2
    have hkc : bs ≠ [] → ∀ a : Addr, kp = some a → w'.heap[a.block]? = w.heap[a.block]? := fun hne a ha => by
      obtain ⟨cur, fr', hcur⟩ := hy hne a ha
      refine hw _ (Array.getElem?_eq_some_iff.1 hcur).1 fun e => ?_
      rw [e, hc] at hcur
      have := Option.some.inj hcur
      injection this with _ e2 _
      exact h2 e2
    refine .mk b r kp cap bs ((hw b (Array.getElem?_eq_some_iff.1 hb).1 hbc).trans hb) hl ?_ (hy.keep hkc) ih
    rcases hr with h0 | ⟨kb, ko, hk', hcl⟩
    · exact .inl h0
    · by_cases hne : bs = []
      · exact .inl hne
      · exact .inr ⟨kb, ko, hk', fun i hi => by rw [World.cell?_of_block (w := w) (w' := w') (a := ⟨kb, ko + i, none⟩) (show w'.heap[kb]? = w.heap[kb]? from hkc hne _ hk')]; exact hcl i hi⟩
theorem IsReO.put {w w' : World} {v : Value} {o : Option RE} {c : Nat} (h : IsReO w v o) {cs : Array Value} {t : TypeId} {fr : Nat × Nat} (hc : w.heap[c]? = some (.cells cs t fr)) (h1 : t ≠ 117) (h2 : t ≠ 28) (hw : ∀ k, k < w.heap.size → k ≠ c → w'.heap[k]? = w.heap[k]?) : IsReO w' v o := by
  cases o with
  | none => exact h
  | some r => obtain ⟨b, e, hb⟩ := h; exact ⟨b, e, hb.put hc h1 h2 hw⟩
end Go.Proofs.YtgamknphlmcgnaaGreatDoor
end
section
set_option linter.unusedSimpArgs false
set_option linter.unusedVariables false
set_option maxRecDepth 100000
set_option linter.unnecessarySimpa false
namespace Go.Proofs.YtgamknphlmcgnaaGreatDoor
open Go.RowKit
theorem SetAt0 (w : World) (s0 s1 s2 s3 : BitVec 64) (w1 : World) (hb : Below (w.alloc (.cells #[.int .u64 (wN s0), .int .u64 (wN s1), .int .u64 (wN s2), .int .u64 (wN s3)] 109)).heap.size (w.alloc (.cells #[.int .u64 (wN s0), .int .u64 (wN s1), .int .u64 (wN s2), .int .u64 (wN s3)] 109)) w1) : w1.cell? ⟨w.heap.size, 0, none⟩ = some (.int .u64 (wN s0)) ∧ w1.cell? ⟨w.heap.size, 1, none⟩ = some (.int .u64 (wN s1)) ∧ w1.cell? ⟨w.heap.size, 2, none⟩ = some (.int .u64 (wN s2)) ∧ w1.cell? ⟨w.heap.size, 3, none⟩ = some (.int .u64 (wN s3)) := by
  have h : w1.heap[w.heap.size]? = some (.cells #[.int .u64 (wN s0), .int .u64 (wN s1), .int .u64 (wN s2), .int .u64 (wN s3)] 109) := (hb.block _ (by simp)).trans (heap_alloc_last _ _)
  refine ⟨?_, ?_, ?_, ?_⟩ <;> (rw [cell_of_row _ _ _ _ _ _ h]; rfl)
set_option maxRecDepth 100000 in
set_option maxHeartbeats 2000000 in
theorem class_one (s0 s1 s2 s3 : BitVec 64) (x : Nat) (hx : x < 256) (hl : (⟨s0, s1, s2, s3⟩ : BS).len = 1) (hle : (⟨s0, s1, s2, s3⟩ : BS).least = x) (w : World) (hT : Tab w) :
    Calls Tryz.prog 64 #[.agg #[.int .u64 (wN s0), .int .u64 (wN s1), .int .u64 (wN s2), .int .u64 (wN s3)]] w fun e w' => e = .returned (.string ⟨(byteW x).toArray⟩) ∧ Below w.heap.size w w' := by
  have HT := Lib.hid (hT.alloc (.cells #[.int .u64 (wN s0), .int .u64 (wN s1), .int .u64 (wN s2), .int .u64 (wN s3)] 109))
  have HLE := Lib.hid hle
  have HL := Lib.hid hl
  clear hT hle hl
  have hc := SetAt0 w s0 s1 s2 s3
  go_enter Tryz.func64, Tryz.ntmps64
  go_wp2_with fail
  refine (Least_any s0 s1 s2 s3 _ HT.out).mono ?_
  rintro e w1 ⟨rfl, hb1⟩
  rw [HLE.out]
  generalize decide ((⟨s0, s1, s2, s3⟩ : BS) ≠ BS.none) = d
  obtain ⟨c0, c1, c2, c3⟩ := hc w1 hb1
  have hB1 : Below w.heap.size w w1 := by repeat (first | exact Below.refl _ _ | assumption | refine Below.drew ?_ | refine ext_drewN ?_ _ | refine ext_alloc ?_ _ | refine Below.setCell ?_ (by (try simp only [World.size_alloc, World.size_setCell, World.size_drew]); omega) _ | refine ext_step ?_ (by assumption))
  clear hb1
  go_wp2_with fail
  refine (Len_any s0 s1 s2 s3 _).mono ?_
  rintro e w2 ⟨rfl, rfl⟩
  rw [HL.out]
  go_wp2_with fail
  refine (Byte_any x hx _).mono ?_
  rintro e w3 ⟨rfl, hb3⟩
  have hB3 : Below w.heap.size w w3 := by repeat (first | exact Below.refl _ _ | assumption | refine Below.drew ?_ | refine ext_drewN ?_ _ | refine ext_alloc ?_ _ | refine Below.setCell ?_ (by (try simp only [World.size_alloc, World.size_setCell, World.size_drew]); omega) _ | refine ext_step ?_ (by assumption))
  go_wp2_with fail
  go_ret
  exact ⟨rfl, hB3⟩
end Go.Proofs.YtgamknphlmcgnaaGreatDoor
end
section
set_option linter.unusedSimpArgs false
set_option linter.unusedVariables false
set_option maxRecDepth 100000
set_option linter.unnecessarySimpa false
namespace Go.Proofs.YtgamknphlmcgnaaGreatDoor
open Go.RowKit
attribute [local go_sem] Oper.semAt_some wide_fn wide_depth
def runW (r : Rn) : List UInt8 := byteW r.a ++ (if r.a < r.b then 45 :: byteW r.b else [])
def runsW (l : List Rn) : List UInt8 := l.flatMap runW
def notS (s : BS) : BS := ⟨~~~s.a, ~~~s.b, ~~~s.c, ~~~s.d⟩
def setW (s : BS) : List UInt8 := if 128 < s.len then [91, 94] ++ runsW (notS s).runs ++ [93] else [91] ++ runsW s.runs ++ [93]
/-- a set as it is written -/
def classW (s : BS) : List UInt8 := if s.len = 1 then byteW s.least else if s = BS.all then [46] else setW s
theorem runsW_len (l : List Rn) : (runsW l).length ≤ 9 * l.length := by
  induction l with
  | nil => simp [runsW]
  | cons r l ih =>
    have h1 := byteW_len r.a
    have h2 := byteW_len r.b
    have h3 : (runW r).length ≤ 9 := by unfold runW; split <;> simp <;> omega
    simp only [runsW, List.flatMap_cons, List.length_append, List.length_cons] at *
    omega
/-- in a round of the loop: the text put together so far -/
structure OutAt (w S : World) (B out : Nat) (W W' : World) (l : List UInt8) : Prop where
  ko : KeepsOthers W W'
  kb : KeepB B W W'
  c : W'.cell? ⟨out, 0, none⟩ = some (.string ⟨l.toArray⟩)
  f : W'.frozen? ⟨out, 0, none⟩ = false
  bw : Below w.heap.size w W'
  b0 : Below 0 S W'
theorem OutAt.call {w S : World} {B out : Nat} {W W' W'' : World} {l : List UInt8} (h : OutAt w S B out W W' l) (hB : B < W.heap.size) (hb : Below W'.heap.size W' W'') : OutAt w S B out W W'' l :=
  have ho := World.block_lt_of_cell? W' _ h.c
  ⟨h.ko.trans ⟨hb.size, fun k o hk _ => (hb.block k (Array.getElem?_eq_some_iff.1 hk).1).trans hk⟩, h.kb.step hB hb, (hb.cell (p := ⟨out, 0, none⟩) ho).trans h.c, (hb.frozen (p := ⟨out, 0, none⟩) ho).trans h.f, ext_step h.bw hb, h.b0.trans (hb.mono (Nat.zero_le _))⟩
theorem OutAt.put {w S : World} {B out : Nat} {W W' : World} {l : List UInt8} (h : OutAt w S B out W W' l) (hB : B ≠ out) (ho : w.heap.size ≤ out) (l2 : List UInt8) : OutAt w S B out W (W'.setCell ⟨out, 0, none⟩ (.string ⟨l2.toArray⟩)) l2 :=
  ⟨h.ko.trans (KeepsOthers.setCell _ _ _), h.kb.setCell hB _, World.cell?_setCell_same' _ _ _ (by rw [h.c]; rfl), by rw [World.frozen?_setCell]; exact h.f, h.bw.setCell ho _, h.b0.setCell (Nat.zero_le _) _⟩
theorem all_words (s0 s1 s2 s3 : BitVec 64) : (wN s0 == wN fullW && (wN s1 == wN fullW && (wN s2 == wN fullW && wN s3 == wN fullW))) = decide ((⟨s0, s1, s2, s3⟩ : BS) = BS.all) := by
  rw [wN_beq, wN_beq, wN_beq, wN_beq]
  simp [BS.all, Bool.decide_and]
set_option maxRecDepth 100000 in
set_option maxHeartbeats 4000000 in
theorem class_all (s0 s1 s2 s3 : BitVec 64) (hl : (⟨s0, s1, s2, s3⟩ : BS).len ≠ 1) (ha : (⟨s0, s1, s2, s3⟩ : BS) = BS.all) (w : World) (hT : Tab w) :
    Calls Tryz.prog 64 #[.agg #[.int .u64 (wN s0), .int .u64 (wN s1), .int .u64 (wN s2), .int .u64 (wN s3)]] w fun e w' => e = .returned (.string ⟨#[46]⟩) ∧ Below w.heap.size w w' := by
  have HT := Lib.hid (hT.alloc (.cells #[.int .u64 (wN s0), .int .u64 (wN s1), .int .u64 (wN s2), .int .u64 (wN s3)] 109))
  have hl' : ((((⟨s0, s1, s2, s3⟩ : BS).len : Nat) : Int) == 1) = false := by rw [beq_eq_false_iff_ne]; omega
  have haw := all_words s0 s1 s2 s3
  rw [decide_eq_true ha] at haw
  have heq := fun w => eq_words (wN s0) (wN s1) (wN s2) (wN s3) (wN fullW) (wN fullW) (wN fullW) (wN fullW) w
  rw [haw] at heq
  clear hT hl ha haw
  have hc := SetAt0 w s0 s1 s2 s3
  have hlt : w.heap.size < (w.alloc (.cells #[.int .u64 (wN s0), .int .u64 (wN s1), .int .u64 (wN s2), .int .u64 (wN s3)] 109)).heap.size := by simp
  have hle := ext_alloc (Below.refl w.heap.size w) (.cells #[.int .u64 (wN s0), .int .u64 (wN s1), .int .u64 (wN s2), .int .u64 (wN s3)] 109)
  go_enter Tryz.func64, Tryz.ntmps64
  go_wp2_with fail
  refine (Least_any s0 s1 s2 s3 _ HT.out).mono ?_
  rintro e w1 ⟨rfl, hb1⟩
  generalize decide ((⟨s0, s1, s2, s3⟩ : BS) ≠ BS.none) = d
  generalize (⟨s0, s1, s2, s3⟩ : BS).least = lst
  have hB1 : Below (w.alloc (.cells #[.int .u64 (wN s0), .int .u64 (wN s1), .int .u64 (wN s2), .int .u64 (wN s3)] 109)).heap.size (w.alloc (.cells #[.int .u64 (wN s0), .int .u64 (wN s1), .int .u64 (wN s2), .int .u64 (wN s3)] 109)) w1 := hb1
  obtain ⟨c0, c1, c2, c3⟩ := hc w1 hB1
  clear hb1
  go_wp2_with fail
  refine (Len_any s0 s1 s2 s3 _).mono ?_
  rintro e w2 ⟨rfl, rfl⟩
  generalize (⟨s0, s1, s2, s3⟩ : BS).len = ln at *
  have hB2 : Below (w.alloc (.cells #[.int .u64 (wN s0), .int .u64 (wN s1), .int .u64 (wN s2), .int .u64 (wN s3)] 109)).heap.size (w.alloc (.cells #[.int .u64 (wN s0), .int .u64 (wN s1), .int .u64 (wN s2), .int .u64 (wN s3)] 109)) (w1.alloc (.cells #[.int .u64 (wN s0), .int .u64 (wN s1), .int .u64 (wN s2), .int .u64 (wN s3)] 109)) := ext_alloc hB1 _
  have hSl : ∀ W', Below (w.alloc (.cells #[.int .u64 (wN s0), .int .u64 (wN s1), .int .u64 (wN s2), .int .u64 (wN s3)] 109)).heap.size (w.alloc (.cells #[.int .u64 (wN s0), .int .u64 (wN s1), .int .u64 (wN s2), .int .u64 (wN s3)] 109)) W' → BoxS W' w.heap.size ⟨s0, s1, s2, s3⟩ := fun W' hb => hc W' hb
  have HC := Lib.hid hSl
  clear hc c0 c1 c2 c3 hB1
  generalize w1.alloc (.cells #[.int .u64 (wN s0), .int .u64 (wN s1), .int .u64 (wN s2), .int .u64 (wN s3)] 109) = W1 at *
  clear hSl
  have hS0 : BoxS W1.drew w.heap.size ⟨s0, s1, s2, s3⟩ := HC.out _ hB2.drew
  have cs : ∀ p : InC (fun W' => BoxS W' w.heap.size ⟨s0, s1, s2, s3⟩), p.w.cell? ⟨w.heap.size, 0, none⟩ = some (.int .u64 (wN s0)) ∧ p.w.cell? ⟨w.heap.size, 1, none⟩ = some (.int .u64 (wN s1)) ∧ p.w.cell? ⟨w.heap.size, 2, none⟩ = some (.int .u64 (wN s2)) ∧ p.w.cell? ⟨w.heap.size, 3, none⟩ = some (.int .u64 (wN s3)) := fun p => p.h
  have hne : Nonempty (InC (fun W' => BoxS W' w.heap.size ⟨s0, s1, s2, s3⟩)) := ⟨⟨_, hS0⟩⟩
  go_wp2_with fail
  refine wp_region_mix (fun W' => BoxS W' w.heap.size ⟨s0, s1, s2, s3⟩) [0, 2] [0, 1, 2] (by kernel_rfl) (by kernel_rfl) hS0 ?_
  (repeat (refine wpMix_read rfl rfl ?_; go_big_quiet_step (fail); refine wpQuiet_nil ?_))
  refine wpMix_eff (k := true) rfl rfl (by kernel_rfl) ?_
  go_wp2_with fail
  refine (All_any _).mono ?_
  rintro e w3 ⟨rfl, hb3⟩
  have hB3 := ext_step hB2.drew hb3
  go_wp2_with fail
  refine mixPost_keep (HC.out _ hB3) ?_
  (repeat (refine wpMix_read rfl rfl ?_; go_big_quiet_step (fail); refine wpQuiet_nil ?_))
  refine wpMix_nil ?_
  have hB4 : Below w.heap.size w w3 := hle.trans (hB3.mono (by simp))
  go_wp2_with fail
  go_ret
  exact ⟨rfl, hB4⟩
set_option maxRecDepth 100000 in
set_option maxHeartbeats 4000000 in
theorem class_runs (s0 s1 s2 s3 : BitVec 64) (hl : (⟨s0, s1, s2, s3⟩ : BS).len ≠ 1) (ha : (⟨s0, s1, s2, s3⟩ : BS) ≠ BS.all) (w : World) (hT : Tab w) :
    Calls Tryz.prog 64 #[.agg #[.int .u64 (wN s0), .int .u64 (wN s1), .int .u64 (wN s2), .int .u64 (wN s3)]] w fun e w' => e = .returned (.string ⟨(setW ⟨s0, s1, s2, s3⟩).toArray⟩) ∧ Below w.heap.size w w' := by
  have HT := Lib.hid (hT.alloc (.cells #[.int .u64 (wN s0), .int .u64 (wN s1), .int .u64 (wN s2), .int .u64 (wN s3)] 109))
  have hl' : ((((⟨s0, s1, s2, s3⟩ : BS).len : Nat) : Int) == 1) = false := by rw [beq_eq_false_iff_ne]; omega
  have haw := all_words s0 s1 s2 s3
  rw [decide_eq_false ha] at haw
  have heq := fun w => eq_words (wN s0) (wN s1) (wN s2) (wN s3) (wN fullW) (wN fullW) (wN fullW) (wN fullW) w
  rw [haw] at heq
  have HW : Hid (setW ⟨s0, s1, s2, s3⟩ = if 128 < (⟨s0, s1, s2, s3⟩ : BS).len then [91, 94] ++ runsW (notS ⟨s0, s1, s2, s3⟩).runs ++ [93] else [91] ++ runsW (⟨s0, s1, s2, s3⟩ : BS).runs ++ [93]) := rfl
  generalize setW ⟨s0, s1, s2, s3⟩ = out at *
  clear hT hl ha haw
  have hc := SetAt0 w s0 s1 s2 s3
  have hlt : w.heap.size < (w.alloc (.cells #[.int .u64 (wN s0), .int .u64 (wN s1), .int .u64 (wN s2), .int .u64 (wN s3)] 109)).heap.size := by simp
  have hle := ext_alloc (Below.refl w.heap.size w) (.cells #[.int .u64 (wN s0), .int .u64 (wN s1), .int .u64 (wN s2), .int .u64 (wN s3)] 109)
  refine (callsIn_wide (n := 5)).1 ?_
  refine callsIn_of_wp_marks Tryz.func64 rfl trivial ?_ rfl
  simp only [Tryz.ntmps64, List.size_toArray, List.length_cons, List.length_nil, Nat.reduceAdd, Nat.reduceSub, Array.replicate_succ, Array.replicate_zero, List.push_toArray, List.append_toArray, List.nil_append, List.cons_append]
  gi_wp2_with fail
  refine (callsIn_wide.2 (Least_any s0 s1 s2 s3 _ HT.out)).mono ?_
  rintro e w1 ⟨rfl, hb1⟩
  generalize decide ((⟨s0, s1, s2, s3⟩ : BS) ≠ BS.none) = d
  generalize (⟨s0, s1, s2, s3⟩ : BS).least = lst
  have hB1 : Below (w.alloc (.cells #[.int .u64 (wN s0), .int .u64 (wN s1), .int .u64 (wN s2), .int .u64 (wN s3)] 109)).heap.size (w.alloc (.cells #[.int .u64 (wN s0), .int .u64 (wN s1), .int .u64 (wN s2), .int .u64 (wN s3)] 109)) w1 := hb1
  obtain ⟨c0, c1, c2, c3⟩ := hc w1 hB1
  clear hb1
  gi_wp2_with fail
  refine (callsIn_wide.2 (Len_any s0 s1 s2 s3 _)).mono ?_
  rintro e w2 ⟨rfl, rfl⟩
  have hB2 : Below (w.alloc (.cells #[.int .u64 (wN s0), .int .u64 (wN s1), .int .u64 (wN s2), .int .u64 (wN s3)] 109)).heap.size (w.alloc (.cells #[.int .u64 (wN s0), .int .u64 (wN s1), .int .u64 (wN s2), .int .u64 (wN s3)] 109)) (w1.alloc (.cells #[.int .u64 (wN s0), .int .u64 (wN s1), .int .u64 (wN s2), .int .u64 (wN s3)] 109)) := ext_alloc hB1 _
  have hSl : ∀ W', Below (w.alloc (.cells #[.int .u64 (wN s0), .int .u64 (wN s1), .int .u64 (wN s2), .int .u64 (wN s3)] 109)).heap.size (w.alloc (.cells #[.int .u64 (wN s0), .int .u64 (wN s1), .int .u64 (wN s2), .int .u64 (wN s3)] 109)) W' → BoxS W' w.heap.size ⟨s0, s1, s2, s3⟩ := fun W' hb => hc W' hb
  have HC := Lib.hid hSl
  clear hc c0 c1 c2 c3 hB1
  generalize w1.alloc (.cells #[.int .u64 (wN s0), .int .u64 (wN s1), .int .u64 (wN s2), .int .u64 (wN s3)] 109) = W1 at *
  have hS0 : BoxS W1.drew w.heap.size ⟨s0, s1, s2, s3⟩ := HC.out _ hB2.drew
  have cs : ∀ p : InC (fun W' => BoxS W' w.heap.size ⟨s0, s1, s2, s3⟩), p.w.cell? ⟨w.heap.size, 0, none⟩ = some (.int .u64 (wN s0)) ∧ p.w.cell? ⟨w.heap.size, 1, none⟩ = some (.int .u64 (wN s1)) ∧ p.w.cell? ⟨w.heap.size, 2, none⟩ = some (.int .u64 (wN s2)) ∧ p.w.cell? ⟨w.heap.size, 3, none⟩ = some (.int .u64 (wN s3)) := fun p => p.h
  have hne : Nonempty (InC (fun W' => BoxS W' w.heap.size ⟨s0, s1, s2, s3⟩)) := ⟨⟨_, hS0⟩⟩
  clear hSl
  gi_wp2_with fail
  refine wpIn_wide.2 ?_
  refine wp_region_mix (fun W' => BoxS W' w.heap.size ⟨s0, s1, s2, s3⟩) [0, 2] [0, 1, 2] (by kernel_rfl) (by kernel_rfl) hS0 ?_
  (repeat (refine wpMix_read rfl rfl ?_; go_big_quiet_step (fail); refine wpQuiet_nil ?_))
  refine wpMix_eff (k := true) rfl rfl (by kernel_rfl) ?_
  go_wp2_with fail
  refine (All_any _).mono ?_
  rintro e w3 ⟨rfl, hb3⟩
  have hB3 := ext_step hB2.drew hb3
  go_wp2_with fail
  refine mixPost_keep (HC.out _ hB3) ?_
  (repeat (refine wpMix_read rfl rfl ?_; go_big_quiet_step (fail); refine wpQuiet_nil ?_))
  refine wpMix_nil ?_
  obtain ⟨c0, c1, c2, c3⟩ := HC.out _ hB3
  clear cs hne hS0 hb3 hB2
  generalize hln : (⟨s0, s1, s2, s3⟩ : BS).len = ln at *
  have hsz3 := hB3.size
  have hlt3 : w.heap.size < w3.heap.size := by omega
  have hwo0 : w.heap.size ≤ w3.heap.size := by omega
  dsimp only at c0 c1 c2 c3
  have hblk : w3.heap[w.heap.size]? = some (.cells #[.int .u64 (wN s0), .int .u64 (wN s1), .int .u64 (wN s2), .int .u64 (wN s3)] 109) := (hB3.block _ hlt).trans (heap_alloc_last _ _)
  have hf0 : ∀ j, w3.frozen? ⟨w.heap.size, j, none⟩ = false := fun j => frozen_of_row _ _ _ _ _ hblk
  by_cases hneg : 128 < ln
  · gi_wp2_with fail
    refine (callsIn_wide.2 (Len_any s0 s1 s2 s3 _)).mono ?_
    rintro e w2 ⟨rfl, rfl⟩
    rw [hln]
    gi_wp2_with fail
    refine (callsIn_wide.2 (Not_any s0 s1 s2 s3 _)).mono ?_
    rintro e w4 ⟨rfl, hb4⟩
    have hB4 : Below w3.heap.size w3 w4 := by repeat (first | exact Below.refl _ _ | assumption | refine Below.drew ?_ | refine ext_drewN ?_ _ | refine ext_alloc ?_ _ | refine Below.setCell ?_ (by (try simp only [World.size_alloc, World.size_setCell, World.size_drew]); omega) _ | refine ext_step ?_ (by assumption))
    have hblk4 : w4.heap[w.heap.size]? = some (.cells #[.int .u64 (wN s0), .int .u64 (wN s1), .int .u64 (wN s2), .int .u64 (wN s3)] 109) := (hB4.block _ hlt3).trans hblk
    have hf4 : ∀ j, w4.frozen? ⟨w.heap.size, j, none⟩ = false := fun j => frozen_of_row _ _ _ _ _ hblk4
    have d0 : w4.cell? ⟨w.heap.size, 0, none⟩ = some (.int .u64 (wN s0)) := by rw [cell_of_row _ _ _ _ _ _ hblk4]; rfl
    have d1 : w4.cell? ⟨w.heap.size, 1, none⟩ = some (.int .u64 (wN s1)) := by rw [cell_of_row _ _ _ _ _ _ hblk4]; rfl
    have d2 : w4.cell? ⟨w.heap.size, 2, none⟩ = some (.int .u64 (wN s2)) := by rw [cell_of_row _ _ _ _ _ _ hblk4]; rfl
    have d3 : w4.cell? ⟨w.heap.size, 3, none⟩ = some (.int .u64 (wN s3)) := by rw [cell_of_row _ _ _ _ _ _ hblk4]; rfl
    have hBo : Below (w3.heap.size + 1) (w3.alloc (.cells #[.string ⟨#[91]⟩] 9)) w4 := ((Below.refl (w3.heap.size + 1) (w3.alloc (.cells #[.string ⟨#[91]⟩] 9))).alloc (by simp) (.cells #[.int .u64 (wN s0), .int .u64 (wN s1), .int .u64 (wN s2), .int .u64 (wN s3)] 109)).trans (hb4.mono (by simp))
    have hbo : w4.heap[w3.heap.size]? = some (.cells #[.string ⟨#[91]⟩] 9) := (hBo.block _ (by omega)).trans (heap_alloc_last _ _)
    have o0 : w4.cell? ⟨w3.heap.size, 0, none⟩ = some (.string ⟨#[91]⟩) := by rw [cell_of_row _ _ _ _ _ _ hbo]; rfl
    have of : w4.frozen? ⟨w3.heap.size, 0, none⟩ = false := frozen_of_row _ _ _ _ _ hbo
    gi_wp2_with fail
    have HQ : Hid (out = ([91, 94] : List UInt8) ++ runsW (⟨~~~s0, ~~~s1, ~~~s2, ~~~s3⟩ : BS).runs ++ [93]) := by show _ = _; rw [HW.out, if_pos hneg]; rfl
    have hB5 : Below w.heap.size w (((((w4.setCell ⟨w.heap.size, 0, none⟩ (.int .u64 (wN (~~~s0)))).setCell ⟨w.heap.size, 1, none⟩ (.int .u64 (wN (~~~s1)))).setCell ⟨w.heap.size, 2, none⟩ (.int .u64 (wN (~~~s2)))).setCell ⟨w.heap.size, 3, none⟩ (.int .u64 (wN (~~~s3)))).setCell ⟨w3.heap.size, 0, none⟩ (.string (⟨#[91]⟩ ++ ⟨#[94]⟩))) := by
      have h3 : Below w.heap.size w w3 := hle.trans (hB3.mono (by simp))
      refine (ext_step h3 hB4).trans ?_
      repeat (first | exact Below.refl _ _ | refine Below.setCell ?_ (by (try simp only [World.size_setCell]); omega) _)
    have ho5 : (((((w4.setCell ⟨w.heap.size, 0, none⟩ (.int .u64 (wN (~~~s0)))).setCell ⟨w.heap.size, 1, none⟩ (.int .u64 (wN (~~~s1)))).setCell ⟨w.heap.size, 2, none⟩ (.int .u64 (wN (~~~s2)))).setCell ⟨w.heap.size, 3, none⟩ (.int .u64 (wN (~~~s3)))).setCell ⟨w3.heap.size, 0, none⟩ (.string (⟨#[91]⟩ ++ ⟨#[94]⟩))).heap[w3.heap.size]? = some (.cells #[.string ⟨([91, 94] : List UInt8).toArray⟩] 9) := by
      rw [heap_setCell_same _ _ _ _ _ _ (by rw [Below.heap_setCell _ _ _ _ (by show w3.heap.size ≠ w.heap.size; omega), Below.heap_setCell _ _ _ _ (by show w3.heap.size ≠ w.heap.size; omega), Below.heap_setCell _ _ _ _ (by show w3.heap.size ≠ w.heap.size; omega), Below.heap_setCell _ _ _ _ (by show w3.heap.size ≠ w.heap.size; omega)]; exact hbo)]
      rfl
    generalize (((((w4.setCell ⟨w.heap.size, 0, none⟩ (.int .u64 (wN (~~~s0)))).setCell ⟨w.heap.size, 1, none⟩ (.int .u64 (wN (~~~s1)))).setCell ⟨w.heap.size, 2, none⟩ (.int .u64 (wN (~~~s2)))).setCell ⟨w.heap.size, 3, none⟩ (.int .u64 (wN (~~~s3)))).setCell ⟨w3.heap.size, 0, none⟩ (.string (⟨#[91]⟩ ++ ⟨#[94]⟩))) = W5 at *
    generalize ~~~s0 = q0 at *
    generalize ~~~s1 = q1 at *
    generalize ~~~s2 = q2 at *
    generalize ~~~s3 = q3 at *
    obtain ⟨pf, hpf⟩ : ∃ pf : List UInt8, pf = [91, 94] := ⟨_, rfl⟩
    rw [← hpf] at HQ ho5
    have hpl : pf.length ≤ 2 := by rw [hpf]; simp
    clear hpf d0 d1 d2 d3 o0 of hbo hBo hf4 hblk4 hB4 hb4 HW hneg
    refine (callsIn_wide.2 (Runs_any q0 q1 q2 q3 _)).mono ?_
    rintro e w' ⟨rfl, rfl⟩
    gi_wp2_with fail
    clear c0 c1 c2 c3 hf0 hblk heq hle hB3 hsz3 HT HC hlt hl' hlt3
    have hlo : w3.heap.size < W5.heap.size := (Array.getElem?_eq_some_iff.1 ho5).1
    have hBox : BoxS (W5.alloc (.cells #[.int .u64 (wN q0), .int .u64 (wN q1), .int .u64 (wN q2), .int .u64 (wN q3)] 109)) W5.heap.size ⟨q0, q1, q2, q3⟩ := BoxS.new W5 q0 q1 q2 q3
    have ho6 : (W5.alloc (.cells #[.int .u64 (wN q0), .int .u64 (wN q1), .int .u64 (wN q2), .int .u64 (wN q3)] 109)).heap[w3.heap.size]? = some (.cells #[.string ⟨pf.toArray⟩] 9) := (Below.heap_alloc _ _ _ hlo).trans ho5
    have hc6 : (W5.alloc (.cells #[.int .u64 (wN q0), .int .u64 (wN q1), .int .u64 (wN q2), .int .u64 (wN q3)] 109)).cell? ⟨w3.heap.size, 0, none⟩ = some (.string ⟨(pf ++ runsW []).toArray⟩) := by rw [cell_of_row _ _ _ _ _ _ ho6]; simp [runsW]
    have hf6 : (W5.alloc (.cells #[.int .u64 (wN q0), .int .u64 (wN q1), .int .u64 (wN q2), .int .u64 (wN q3)] 109)).frozen? ⟨w3.heap.size, 0, none⟩ = false := frozen_of_row _ _ _ _ _ ho6
    have hB6 : Below w.heap.size w (W5.alloc (.cells #[.int .u64 (wN q0), .int .u64 (wN q1), .int .u64 (wN q2), .int .u64 (wN q3)] 109)) := ext_alloc hB5 _
    have hwo : w.heap.size ≤ w3.heap.size := hwo0
    refine wpIn_rangeFunc_ownF rfl (by omega) (gf := 150) (lb := #[.pointer (some ⟨W5.heap.size, 0, none⟩)]) rfl trivial (enters_of Tryz.func150 (by kernel_rfl) rfl)
      (Runs_stops _ W5.heap.size ⟨q0, q1, q2, q3⟩ _ (by simp) hBox) keepB_t (keepB_b (by simp)) (Below.refl _ _) (fun _ => rfl)
      (fun pre W => (W.cell? ⟨w3.heap.size, 0, none⟩ = some (.string ⟨(pf ++ runsW pre).toArray⟩) ∧ W.frozen? ⟨w3.heap.size, 0, none⟩ = false) ∧ (Below w.heap.size w W ∧ (Below 0 (W5.alloc (.cells #[.int .u64 (wN q0), .int .u64 (wN q1), .int .u64 (wN q2), .int .u64 (wN q3)] 109)) W ∧ pre.length ≤ 256)))
      (fun _ _ _ => False)
      (OwnFrom.and (Own.from (fun s A B row hs hg hr => ⟨cell_kept hs.1 hg hr, (frozen_kept hs.1 hg hr).trans hs.2⟩) _) (OwnFrom.and (ownFrom_below (Nat.le_refl _) (by simp; omega)) (OwnFrom.and (ownFrom_below (Nat.zero_le _) (Nat.zero_le _)) (fun _ _ _ _ hs _ _ => hs))))
      (fun _ _ _ _ _ hs _ _ => hs)
      ⟨⟨hc6, hf6⟩, hB6, Below.refl _ _, by simp⟩
      ?a1 ?assign ?body ?done ?stop
    case assign =>
      intro l x W K hK
      gi_wp2
      exact hK
    case body =>
      rintro l pre x W ⟨⟨hc, hf⟩, hB, hZ, _⟩ hlen
      have hbk : W5.heap.size < W.heap.size := by have := hZ.size; simp at this; omega
      have hlt := World.block_lt_of_cell? W _ hc
      dsimp only at hlt
      have hm : Tryz.prog.follows .mixedOrders = true := by kernel_rfl
      have hrl := runsW_len pre
      have hba := byteW_len x.a
      have hbb := byteW_len x.b
      have HY := Lib.hid (fun W => ((callsIn_wide (n := 2)).2 (Byte_any x.a x.ha W)).inRound l)
      have HZ2 := Lib.hid (fun W => ((callsIn_wide (n := 2)).2 (Byte_any x.b x.hb W)).inRound l)
      have HR : Hid (runsW (pre ++ [x]) = runsW pre ++ (byteW x.a ++ if x.a < x.b then 45 :: byteW x.b else [])) := by show _ = _; simp [runsW, runW]
      generalize hcur : pf ++ runsW pre = cur at *
      have hcl : cur.length ≤ 2306 := by rw [← hcur]; simp; omega
      have HCU := Lib.hid hcur
      generalize byteW x.a = ba at *
      generalize byteW x.b = bb at *
      clear hcur hrl
      gi_wp2_with fail
      gi_region_with_o ((refine (HY.out _).mono ?_; rintro e W1 ⟨rfl, hb1⟩; have hc1 : W1.cell? ⟨w3.heap.size, 0, none⟩ = some (.string ⟨cur.toArray⟩) := (hb1.cell (p := ⟨w3.heap.size, 0, none⟩) hlt).trans hc; have hf1 : W1.frozen? ⟨w3.heap.size, 0, none⟩ = false := (hb1.frozen (p := ⟨w3.heap.size, 0, none⟩) hlt).trans hf))
      all_goals
        have hB1 : Below W.heap.size W W1 := by repeat (first | exact Below.refl _ _ | assumption | refine Below.drew ?_ | refine ext_drewN ?_ _ | refine ext_alloc ?_ _ | refine Below.setCell ?_ (by (try simp only [World.size_alloc, World.size_setCell, World.size_drew]); omega) _ | refine ext_step ?_ (by assumption))
        have hO1 := ((OutAt.mk (KeepsOthers.refl W) (KeepB.refl W5.heap.size W) hc hf hB hZ : OutAt w (W5.alloc (.cells #[.int .u64 (wN q0), .int .u64 (wN q1), .int .u64 (wN q2), .int .u64 (wN q3)] 109)) W5.heap.size w3.heap.size W W cur).call hbk hB1).put (by omega) hwo (cur ++ ba)
        rw [show (⟨cur.toArray⟩ ++ ⟨ba.toArray⟩ : ByteArray) = ⟨(cur ++ ba).toArray⟩ from ByteArray.ext (by simp)]
        generalize W1.setCell ⟨w3.heap.size, 0, none⟩ (.string ⟨(cur ++ ba).toArray⟩) = W2 at *
        have hl2 : (cur ++ ba).length ≤ 2310 := by simp; omega
        have HC2 : Hid (cur ++ ba = pf ++ (runsW pre ++ ba)) := by show _ = _; rw [← HCU.out]; simp
        generalize hcb : cur ++ ba = cb at *
        clear hb1 hB1 hc1 hf1 hc hf hcb
        have hc2 := hO1.c
        have hf2 := hO1.f
        have hlt2 := World.block_lt_of_cell? W2 _ hc2
        dsimp only at hlt2
        have HO1 := Lib.hid hO1
        clear hO1
        by_cases hx : x.a < x.b
        · have hx' : (x.a : Int) < (x.b : Int) := by omega
          rw [if_pos hx] at HR
          gi_wp2_with fail
          gi_region_with_o ((refine (HZ2.out _).mono ?_; rintro e W3 ⟨rfl, hb3⟩; have hc3 : W3.cell? ⟨w3.heap.size, 0, none⟩ = some (.string ⟨cb.toArray⟩) := (hb3.cell (p := ⟨w3.heap.size, 0, none⟩) hlt2).trans hc2; have hf3 : W3.frozen? ⟨w3.heap.size, 0, none⟩ = false := (hb3.frozen (p := ⟨w3.heap.size, 0, none⟩) hlt2).trans hf2))
          all_goals
            have hB3 : Below W2.heap.size W2 W3 := by repeat (first | exact Below.refl _ _ | assumption | refine Below.drew ?_ | refine ext_drewN ?_ _ | refine ext_alloc ?_ _ | refine Below.setCell ?_ (by (try simp only [World.size_alloc, World.size_setCell, World.size_drew]); omega) _ | refine ext_step ?_ (by assumption))
            have hO3 := (HO1.out.call hbk hB3).put (by omega) hwo (cb ++ (45 :: bb))
            rw [show (⟨cb.toArray⟩ ++ (⟨#[45]⟩ ++ ⟨bb.toArray⟩) : ByteArray) = ⟨(cb ++ (45 :: bb)).toArray⟩ from ByteArray.ext (by simp)]
            generalize W3.setCell ⟨w3.heap.size, 0, none⟩ (.string ⟨(cb ++ (45 :: bb)).toArray⟩) = W4 at *
            rw [show cb ++ (45 :: bb) = pf ++ runsW (pre ++ [x]) by rw [HC2.out, HR.out]; simp] at hO3
            have HO3 := Lib.hid hO3
            clear hO3 hB3 hb3 hc3 hf3 hc2 hf2
            gi_wp2
            exact ⟨HO3.out.ko, HO3.out.kb, ⟨HO3.out.c, HO3.out.f⟩, HO3.out.bw, HO3.out.b0, by simp; omega⟩
        · have hx' : ¬ (x.a : Int) < (x.b : Int) := by omega
          rw [if_neg hx, List.append_nil] at HR
          have HO3 : Hid (OutAt w (W5.alloc (.cells #[.int .u64 (wN q0), .int .u64 (wN q1), .int .u64 (wN q2), .int .u64 (wN q3)] 109)) W5.heap.size w3.heap.size W W2 (pf ++ runsW (pre ++ [x]))) := by
            show OutAt _ _ _ _ _ _ _
            rw [HR.out, ← HC2.out]; exact HO1.out
          clear hc2 hf2
          gi_wp2
          exact ⟨HO3.out.ko, HO3.out.kb, ⟨HO3.out.c, HO3.out.f⟩, HO3.out.bw, HO3.out.b0, by simp; omega⟩
    case done =>
      rintro D xs W hD rfl ⟨⟨hc, hf⟩, hB, hZ, hxl⟩ hK
      have hrl := runsW_len (⟨q0, q1, q2, q3⟩ : BS).runs
      have HL : Hid (pf ++ runsW (⟨q0, q1, q2, q3⟩ : BS).runs ++ [93] = out) := HQ.out.symm
      generalize hcur : pf ++ runsW (⟨q0, q1, q2, q3⟩ : BS).runs = cur at *
      have hcl : cur.length ≤ 2306 := by rw [← hcur]; simp; omega
      clear hcur hrl
      gi_wp2
      refine ⟨by simp, .inl ⟨_, _, rfl, run_takeDeferred hK, ?_⟩⟩
      refine ⟨_, results_tmp rfl _ _ _, ⟨?_, hB.trans (belowK_b (w := w) (Nat.le_refl _) W D _ _ (by simp at hD; omega) hK rfl rfl)⟩⟩
      exact congrArg (fun s => Ending.returned (.string s)) (ByteArray.ext (by rw [← HL.out]; simp))
    case stop =>
      rintro D c pre W _ _ h _
      exact h.elim
  · have hneg' : ¬ (128 : Int) < (ln : Int) := by omega
    gi_wp2_with fail
    refine (callsIn_wide.2 (Len_any s0 s1 s2 s3 _)).mono ?_
    rintro e w2 ⟨rfl, rfl⟩
    rw [hln]
    have hbo : ((w3.alloc (.cells #[.string ⟨#[91]⟩] 9)).alloc (.cells #[.int .u64 (wN s0), .int .u64 (wN s1), .int .u64 (wN s2), .int .u64 (wN s3)] 109)).heap[w3.heap.size]? = some (.cells #[.string ⟨#[91]⟩] 9) := (Below.heap_alloc _ _ _ (by simp)).trans (heap_alloc_last _ _)
    gi_wp2_with fail
    have HQ : Hid (out = ([91] : List UInt8) ++ runsW (⟨s0, s1, s2, s3⟩ : BS).runs ++ [93]) := by show _ = _; rw [HW.out, if_neg hneg]
    have hB5 : Below w.heap.size w ((w3.alloc (.cells #[.string (⟨#[91]⟩ ++ ⟨#[]⟩)] 9)).alloc (.cells #[.int .u64 (wN s0), .int .u64 (wN s1), .int .u64 (wN s2), .int .u64 (wN s3)] 109)) := by
      have h3 : Below w.heap.size w w3 := hle.trans (hB3.mono (by simp))
      exact ext_alloc (ext_alloc h3 _) _
    have ho5 : ((w3.alloc (.cells #[.string (⟨#[91]⟩ ++ ⟨#[]⟩)] 9)).alloc (.cells #[.int .u64 (wN s0), .int .u64 (wN s1), .int .u64 (wN s2), .int .u64 (wN s3)] 109)).heap[w3.heap.size]? = some (.cells #[.string ⟨([91] : List UInt8).toArray⟩] 9) := (Below.heap_alloc _ _ _ (by simp)).trans (heap_alloc_last _ _)
    generalize ((w3.alloc (.cells #[.string (⟨#[91]⟩ ++ ⟨#[]⟩)] 9)).alloc (.cells #[.int .u64 (wN s0), .int .u64 (wN s1), .int .u64 (wN s2), .int .u64 (wN s3)] 109)) = W5 at *
    obtain ⟨q0, hq0⟩ : ∃ q, q = s0 := ⟨_, rfl⟩
    obtain ⟨q1, hq1⟩ : ∃ q, q = s1 := ⟨_, rfl⟩
    obtain ⟨q2, hq2⟩ : ∃ q, q = s2 := ⟨_, rfl⟩
    obtain ⟨q3, hq3⟩ : ∃ q, q = s3 := ⟨_, rfl⟩
    rw [← hq0, ← hq1, ← hq2, ← hq3] at HQ
    rw [← hq0, ← hq1, ← hq2, ← hq3]
    obtain ⟨pf, hpf⟩ : ∃ pf : List UInt8, pf = [91] := ⟨_, rfl⟩
    rw [← hpf] at HQ ho5
    have hpl : pf.length ≤ 2 := by rw [hpf]; simp
    clear hpf hbo HW hneg hq0 hq1 hq2 hq3
    refine (callsIn_wide.2 (Runs_any q0 q1 q2 q3 _)).mono ?_
    rintro e w' ⟨rfl, rfl⟩
    gi_wp2_with fail
    clear c0 c1 c2 c3 hf0 hblk heq hle hB3 hsz3 HT HC hlt hl' hlt3
    have hlo : w3.heap.size < W5.heap.size := (Array.getElem?_eq_some_iff.1 ho5).1
    have hBox : BoxS (W5.alloc (.cells #[.int .u64 (wN q0), .int .u64 (wN q1), .int .u64 (wN q2), .int .u64 (wN q3)] 109)) W5.heap.size ⟨q0, q1, q2, q3⟩ := BoxS.new W5 q0 q1 q2 q3
    have ho6 : (W5.alloc (.cells #[.int .u64 (wN q0), .int .u64 (wN q1), .int .u64 (wN q2), .int .u64 (wN q3)] 109)).heap[w3.heap.size]? = some (.cells #[.string ⟨pf.toArray⟩] 9) := (Below.heap_alloc _ _ _ hlo).trans ho5
    have hc6 : (W5.alloc (.cells #[.int .u64 (wN q0), .int .u64 (wN q1), .int .u64 (wN q2), .int .u64 (wN q3)] 109)).cell? ⟨w3.heap.size, 0, none⟩ = some (.string ⟨(pf ++ runsW []).toArray⟩) := by rw [cell_of_row _ _ _ _ _ _ ho6]; simp [runsW]
    have hf6 : (W5.alloc (.cells #[.int .u64 (wN q0), .int .u64 (wN q1), .int .u64 (wN q2), .int .u64 (wN q3)] 109)).frozen? ⟨w3.heap.size, 0, none⟩ = false := frozen_of_row _ _ _ _ _ ho6
    have hB6 : Below w.heap.size w (W5.alloc (.cells #[.int .u64 (wN q0), .int .u64 (wN q1), .int .u64 (wN q2), .int .u64 (wN q3)] 109)) := ext_alloc hB5 _
    have hwo : w.heap.size ≤ w3.heap.size := hwo0
    refine wpIn_rangeFunc_ownF rfl (by omega) (gf := 150) (lb := #[.pointer (some ⟨W5.heap.size, 0, none⟩)]) rfl trivial (enters_of Tryz.func150 (by kernel_rfl) rfl)
      (Runs_stops _ W5.heap.size ⟨q0, q1, q2, q3⟩ _ (by simp) hBox) keepB_t (keepB_b (by simp)) (Below.refl _ _) (fun _ => rfl)
      (fun pre W => (W.cell? ⟨w3.heap.size, 0, none⟩ = some (.string ⟨(pf ++ runsW pre).toArray⟩) ∧ W.frozen? ⟨w3.heap.size, 0, none⟩ = false) ∧ (Below w.heap.size w W ∧ (Below 0 (W5.alloc (.cells #[.int .u64 (wN q0), .int .u64 (wN q1), .int .u64 (wN q2), .int .u64 (wN q3)] 109)) W ∧ pre.length ≤ 256)))
      (fun _ _ _ => False)
      (OwnFrom.and (Own.from (fun s A B row hs hg hr => ⟨cell_kept hs.1 hg hr, (frozen_kept hs.1 hg hr).trans hs.2⟩) _) (OwnFrom.and (ownFrom_below (Nat.le_refl _) (by simp; omega)) (OwnFrom.and (ownFrom_below (Nat.zero_le _) (Nat.zero_le _)) (fun _ _ _ _ hs _ _ => hs))))
      (fun _ _ _ _ _ hs _ _ => hs)
      ⟨⟨hc6, hf6⟩, hB6, Below.refl _ _, by simp⟩
      ?a12 ?assign2 ?body2 ?done2 ?stop2
    case assign2 =>
      intro l x W K hK
      gi_wp2
      exact hK
    case body2 =>
      rintro l pre x W ⟨⟨hc, hf⟩, hB, hZ, _⟩ hlen
      have hbk : W5.heap.size < W.heap.size := by have := hZ.size; simp at this; omega
      have hlt := World.block_lt_of_cell? W _ hc
      dsimp only at hlt
      have hm : Tryz.prog.follows .mixedOrders = true := by kernel_rfl
      have hrl := runsW_len pre
      have hba := byteW_len x.a
      have hbb := byteW_len x.b
      have HY := Lib.hid (fun W => ((callsIn_wide (n := 2)).2 (Byte_any x.a x.ha W)).inRound l)
      have HZ2 := Lib.hid (fun W => ((callsIn_wide (n := 2)).2 (Byte_any x.b x.hb W)).inRound l)
      have HR : Hid (runsW (pre ++ [x]) = runsW pre ++ (byteW x.a ++ if x.a < x.b then 45 :: byteW x.b else [])) := by show _ = _; simp [runsW, runW]
      generalize hcur : pf ++ runsW pre = cur at *
      have hcl : cur.length ≤ 2306 := by rw [← hcur]; simp; omega
      have HCU := Lib.hid hcur
      generalize byteW x.a = ba at *
      generalize byteW x.b = bb at *
      clear hcur hrl
      gi_wp2_with fail
      gi_region_with_o ((refine (HY.out _).mono ?_; rintro e W1 ⟨rfl, hb1⟩; have hc1 : W1.cell? ⟨w3.heap.size, 0, none⟩ = some (.string ⟨cur.toArray⟩) := (hb1.cell (p := ⟨w3.heap.size, 0, none⟩) hlt).trans hc; have hf1 : W1.frozen? ⟨w3.heap.size, 0, none⟩ = false := (hb1.frozen (p := ⟨w3.heap.size, 0, none⟩) hlt).trans hf))
      all_goals
        have hB1 : Below W.heap.size W W1 := by repeat (first | exact Below.refl _ _ | assumption | refine Below.drew ?_ | refine ext_drewN ?_ _ | refine ext_alloc ?_ _ | refine Below.setCell ?_ (by (try simp only [World.size_alloc, World.size_setCell, World.size_drew]); omega) _ | refine ext_step ?_ (by assumption))
        have hO1 := ((OutAt.mk (KeepsOthers.refl W) (KeepB.refl W5.heap.size W) hc hf hB hZ : OutAt w (W5.alloc (.cells #[.int .u64 (wN q0), .int .u64 (wN q1), .int .u64 (wN q2), .int .u64 (wN q3)] 109)) W5.heap.size w3.heap.size W W cur).call hbk hB1).put (by omega) hwo (cur ++ ba)
        rw [show (⟨cur.toArray⟩ ++ ⟨ba.toArray⟩ : ByteArray) = ⟨(cur ++ ba).toArray⟩ from ByteArray.ext (by simp)]
        generalize W1.setCell ⟨w3.heap.size, 0, none⟩ (.string ⟨(cur ++ ba).toArray⟩) = W2 at *
        have hl2 : (cur ++ ba).length ≤ 2310 := by simp; omega
        have HC2 : Hid (cur ++ ba = pf ++ (runsW pre ++ ba)) := by show _ = _; rw [← HCU.out]; simp
        generalize hcb : cur ++ ba = cb at *
        clear hb1 hB1 hc1 hf1 hc hf hcb
        have hc2 := hO1.c
        have hf2 := hO1.f
        have hlt2 := World.block_lt_of_cell? W2 _ hc2
        dsimp only at hlt2
        have HO1 := Lib.hid hO1
        clear hO1
        by_cases hx : x.a < x.b
        · have hx' : (x.a : Int) < (x.b : Int) := by omega
          rw [if_pos hx] at HR
          gi_wp2_with fail
          gi_region_with_o ((refine (HZ2.out _).mono ?_; rintro e W3 ⟨rfl, hb3⟩; have hc3 : W3.cell? ⟨w3.heap.size, 0, none⟩ = some (.string ⟨cb.toArray⟩) := (hb3.cell (p := ⟨w3.heap.size, 0, none⟩) hlt2).trans hc2; have hf3 : W3.frozen? ⟨w3.heap.size, 0, none⟩ = false := (hb3.frozen (p := ⟨w3.heap.size, 0, none⟩) hlt2).trans hf2))
          all_goals
            have hB3 : Below W2.heap.size W2 W3 := by repeat (first | exact Below.refl _ _ | assumption | refine Below.drew ?_ | refine ext_drewN ?_ _ | refine ext_alloc ?_ _ | refine Below.setCell ?_ (by (try simp only [World.size_alloc, World.size_setCell, World.size_drew]); omega) _ | refine ext_step ?_ (by assumption))
            have hO3 := (HO1.out.call hbk hB3).put (by omega) hwo (cb ++ (45 :: bb))
            rw [show (⟨cb.toArray⟩ ++ (⟨#[45]⟩ ++ ⟨bb.toArray⟩) : ByteArray) = ⟨(cb ++ (45 :: bb)).toArray⟩ from ByteArray.ext (by simp)]
            generalize W3.setCell ⟨w3.heap.size, 0, none⟩ (.string ⟨(cb ++ (45 :: bb)).toArray⟩) = W4 at *
            rw [show cb ++ (45 :: bb) = pf ++ runsW (pre ++ [x]) by rw [HC2.out, HR.out]; simp] at hO3
            have HO3 := Lib.hid hO3
            clear hO3 hB3 hb3 hc3 hf3 hc2 hf2
            gi_wp2
            exact ⟨HO3.out.ko, HO3.out.kb, ⟨HO3.out.c, HO3.out.f⟩, HO3.out.bw, HO3.out.b0, by simp; omega⟩
        · have hx' : ¬ (x.a : Int) < (x.b : Int) := by omega
          rw [if_neg hx, List.append_nil] at HR
          have HO3 : Hid (OutAt w (W5.alloc (.cells #[.int .u64 (wN q0), .int .u64 (wN q1), .int .u64 (wN q2), .int .u64 (wN q3)] 109)) W5.heap.size w3.heap.size W W2 (pf ++ runsW (pre ++ [x]))) := by
            show OutAt _ _ _ _ _ _ _
            rw [HR.out, ← HC2.out]; exact HO1.out
          clear hc2 hf2
          gi_wp2
          exact ⟨HO3.out.ko, HO3.out.kb, ⟨HO3.out.c, HO3.out.f⟩, HO3.out.bw, HO3.out.b0, by simp; omega⟩
    case done2 =>
      rintro D xs W hD rfl ⟨⟨hc, hf⟩, hB, hZ, hxl⟩ hK
      have hrl := runsW_len (⟨q0, q1, q2, q3⟩ : BS).runs
      have HL : Hid (pf ++ runsW (⟨q0, q1, q2, q3⟩ : BS).runs ++ [93] = out) := HQ.out.symm
      generalize hcur : pf ++ runsW (⟨q0, q1, q2, q3⟩ : BS).runs = cur at *
      have hcl : cur.length ≤ 2306 := by rw [← hcur]; simp; omega
      clear hcur hrl
      gi_wp2
      refine ⟨by simp, .inl ⟨_, _, rfl, run_takeDeferred hK, ?_⟩⟩
      refine ⟨_, results_tmp rfl _ _ _, ⟨?_, hB.trans (belowK_b (w := w) (Nat.le_refl _) W D _ _ (by simp at hD; omega) hK rfl rfl)⟩⟩
      exact congrArg (fun s => Ending.returned (.string s)) (ByteArray.ext (by rw [← HL.out]; simp))
    case stop2 =>
      rintro D c pre W _ _ h _
      exact h.elim
/-- a set as it is written -/
theorem class_any (s0 s1 s2 s3 : BitVec 64) (w : World) (hT : Tab w) (hle : (⟨s0, s1, s2, s3⟩ : BS).least < 256) :
    Calls Tryz.prog 64 #[.agg #[.int .u64 (wN s0), .int .u64 (wN s1), .int .u64 (wN s2), .int .u64 (wN s3)]] w fun e w' => e = .returned (.string ⟨(classW ⟨s0, s1, s2, s3⟩).toArray⟩) ∧ Below w.heap.size w w' := by
  unfold classW
  split
  · rename_i h
    exact class_one s0 s1 s2 s3 _ hle h rfl w hT
  · split
    · rename_i h1 h2; exact class_all s0 s1 s2 s3 h1 h2 w hT
    · rename_i h1 h2; exact class_runs s0 s1 s2 s3 h1 h2 w hT
end Go.Proofs.YtgamknphlmcgnaaGreatDoor
end
