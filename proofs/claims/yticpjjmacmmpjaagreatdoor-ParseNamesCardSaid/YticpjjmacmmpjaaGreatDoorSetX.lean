/-
  The iterator over a set's runs, walked through the program: it hands on each run of the set, in order, and stops where it is told to.
-/
import Derived.Test.YticpjjmacmmpjaaGreatDoorSetP
import Derived.Test.YticpjjmacmmpjaaGreatDoorRows
import Derived.WalkSpells
import Derived.WalkLawsBesides
import Derived.Deep.RegionHeld3
import Derived.LoopN
import Derived.Lib.Hide
import Derived.ProofKit
import Derived.OpenShut
import Derived.ShutString
import Derived.ChangeOld
import Derived.Below
import Derived.Lib.SmallJoins
import Derived.RangeFuncNested
import Derived.RangeFuncBound
import Derived.RangeFuncCalls
import Derived.RangeFuncLeaves
import Derived.RangeFuncFrom
import Derived.Shelf.Abstract
import Derived.Shelf.RegionOpen
import Derived.OwnWalkIn
import Derived.TacticsInMore
import Derived.LoopNIn
import Derived.LoopIn
set_option linter.unusedSimpArgs false
set_option linter.unusedVariables false
set_option maxRecDepth 100000
set_option linter.unnecessarySimpa false
namespace Go.Proofs.YticpjjmacmmpjaaGreatDoor
open Go.RowKit

theorem undSet : Tryz.prog.underlying 112 = some (.array 4 75) := by kernel_rfl
theorem undWord : Tryz.prog.underlying 75 = some (.int .u64) := by kernel_rfl

/-- two sets held against each other, word by word -/
theorem eq_words (a0 a1 a2 a3 b0 b1 b2 b3 : Int) (w : World) :
   (Op.equalIn 10000 112 (.agg #[.int .u64 a0, .int .u64 a1, .int .u64 a2, .int .u64 a3]) (.agg #[.int .u64 b0, .int .u64 b1, .int .u64 b2, .int .u64 b3])).run Tryz.prog w =
    .ok (a0 == b0 && (a1 == b1 && (a2 == b2 && a3 == b3))) w := by
  rw [Op.equalIn]
  simp only [Sem.run_bind, run_underlying undSet, Result.andThen_ok]
  have hs : ∀ w, (sizeOf 75).run Tryz.prog w = .ok 1 w := fun _ => by kernel_rfl
  have p0 : ∀ (x0 x1 x2 x3 : Value) (w : World), (part 75 #[x0, x1, x2, x3] (0 * 1)).run Tryz.prog w = .ok x0 w := fun _ _ _ _ _ => by kernel_rfl
  have p1 : ∀ (x0 x1 x2 x3 : Value) (w : World), (part 75 #[x0, x1, x2, x3] ((0 + 1) * 1)).run Tryz.prog w = .ok x1 w := fun _ _ _ _ _ => by kernel_rfl
  have p2 : ∀ (x0 x1 x2 x3 : Value) (w : World), (part 75 #[x0, x1, x2, x3] ((0 + 1 + 1) * 1)).run Tryz.prog w = .ok x2 w := fun _ _ _ _ _ => by kernel_rfl
  have p3 : ∀ (x0 x1 x2 x3 : Value) (w : World), (part 75 #[x0, x1, x2, x3] ((0 + 1 + 1 + 1) * 1)).run Tryz.prog w = .ok x3 w := fun _ _ _ _ _ => by kernel_rfl
  have he : ∀ (a b : Int) (w : World), (Op.equalIn 9999 75 (.int .u64 a) (.int .u64 b)).run Tryz.prog w = .ok (a == b) w := fun a b w => run_equalIn_int w 9998 75 .u64 .u64 a b undWord
  simp only [hs, Result.andThen_ok]
  rw [Std.Legacy.Range.forIn_eq_forIn_range']
  simp only [Std.Legacy.Range.size, List.range', List.forIn_cons, List.forIn_nil]
  by_cases h0 : a0 = b0
  · by_cases h1 : a1 = b1
    · by_cases h2 : a2 = b2
      · by_cases h3 : a3 = b3
        · simp [p0, p1, p2, p3, he, h0, h1, h2, h3]
        · simp [p0, p1, p2, p3, he, h0, h1, h2, h3]
      · simp [p0, p1, p2, p3, he, h0, h1, h2]
    · simp [p0, p1, p2, p3, he, h0, h1]
  · simp [p0, p1, p2, p3, he, h0]

set_option maxHeartbeats 400000 in
theorem Not1_any (x y : BitVec 64) (w : World) :
    Calls Tryz.prog 139 #[.int .u64 (wN x), .int .u64 (wN y)] w fun e w' => e = .returned (.int .u64 (wN (~~~x))) ∧ w' = w := by
  go_enter Tryz.func139, Tryz.ntmps139
  go_wp2
  go_ret
  exact ⟨by simp only [← bits_not_bv]; rfl, rfl⟩

set_option maxHeartbeats 800000 in
theorem each_any (k : Nat) (g : BitVec 64 → BitVec 64 → BitVec 64)
   (hk : ∀ x y w, Calls Tryz.prog k #[.int .u64 (wN (x : BitVec 64)), .int .u64 (wN (y : BitVec 64))] w fun e w' => e = .returned (.int .u64 (wN (g x y))) ∧ w' = w)
   (he : ∀ args w, (callFunc k args).run Tryz.prog w = .ok (.enter k args) w)
   (a0 a1 a2 a3 b0 b1 b2 b3 : BitVec 64) (w : World) :
    Calls Tryz.prog 138 #[.agg #[.int .u64 (wN a0), .int .u64 (wN a1), .int .u64 (wN a2), .int .u64 (wN a3)], .agg #[.int .u64 (wN b0), .int .u64 (wN b1), .int .u64 (wN b2), .int .u64 (wN b3)], .func (.func k) #[] #[]] w fun e w' =>
     e = .returned (.agg #[.int .u64 (wN (g a0 b0)), .int .u64 (wN (g a1 b1)), .int .u64 (wN (g a2 b2)), .int .u64 (wN (g a3 b3))]) ∧ Below w.heap.size w w' := by
  have H := Lib.hid hk; clear hk
  go_enter Tryz.func138, Tryz.ntmps138
  go_wp2
  refine wp_loop_rounds 5 ?_
  rw [rounds_succ]
  go_wp2_with fail
  go_region_held3 (fun w' => w'.cell? ⟨w.heap.size, 0, none⟩ = some (.int .u64 (wN a0)) ∧ w'.cell? ⟨w.heap.size + 1, 0, none⟩ = some (.int .u64 (wN b0))) (go_keep) ((refine (H.out _ _ _).mono ?_; rintro e w' ⟨rfl, rfl⟩))
  go_wp2_with fail
  rw [rounds_succ]
  go_wp2_with fail
  go_region_held3 (fun w' => w'.cell? ⟨w.heap.size, 1, none⟩ = some (.int .u64 (wN a1)) ∧ w'.cell? ⟨w.heap.size + 1, 1, none⟩ = some (.int .u64 (wN b1))) (go_keep) ((refine (H.out _ _ _).mono ?_; rintro e w' ⟨rfl, rfl⟩))
  go_wp2_with fail
  rw [rounds_succ]
  go_wp2_with fail
  go_region_held3 (fun w' => w'.cell? ⟨w.heap.size, 2, none⟩ = some (.int .u64 (wN a2)) ∧ w'.cell? ⟨w.heap.size + 1, 2, none⟩ = some (.int .u64 (wN b2))) (go_keep) ((refine (H.out _ _ _).mono ?_; rintro e w' ⟨rfl, rfl⟩))
  go_wp2_with fail
  rw [rounds_succ]
  go_wp2_with fail
  go_region_held3 (fun w' => w'.cell? ⟨w.heap.size, 3, none⟩ = some (.int .u64 (wN a3)) ∧ w'.cell? ⟨w.heap.size + 1, 3, none⟩ = some (.int .u64 (wN b3))) (go_keep) ((refine (H.out _ _ _).mono ?_; rintro e w' ⟨rfl, rfl⟩))
  go_wp2_with fail
  rw [rounds_succ]
  go_wp2_with fail
  refine bodyPost_ret (v := .agg #[.int .u64 (wN (g a0 b0)), .int .u64 (wN (g a1 b1)), .int .u64 (wN (g a2 b2)), .int .u64 (wN (g a3 b3))]) (by simp [results, Tryz.results138, go_sem]) rfl ⟨rfl, ?_⟩
  repeat (first | exact Below.refl _ _ | assumption | refine Below.drew ?_ | refine ext_drewN ?_ _ | refine ext_alloc ?_ _ | refine Below.setCell ?_ (by (try simp only [World.size_alloc, World.size_setCell, World.size_drew]); omega) _ | refine ext_step ?_ (by assumption))

set_option maxHeartbeats 400000 in
theorem Not_any (a0 a1 a2 a3 : BitVec 64) (w : World) :
    Calls Tryz.prog 101 #[.agg #[.int .u64 (wN a0), .int .u64 (wN a1), .int .u64 (wN a2), .int .u64 (wN a3)]] w fun e w' => e = .returned (.agg #[.int .u64 (wN (~~~a0)), .int .u64 (wN (~~~a1)), .int .u64 (wN (~~~a2)), .int .u64 (wN (~~~a3))]) ∧ Below w.heap.size w w' := by
  go_enter Tryz.func101, Tryz.ntmps101
  go_wp2_with fail
  refine (each_any 139 (fun x _ => ~~~x) Not1_any (fun _ _ => by kernel_rfl) a0 a1 a2 a3 a0 a1 a2 a3 _).mono ?_
  rintro e w1 ⟨rfl, hb⟩
  obtain ⟨hc, hf⟩ := bcell hb
  go_wp2
  refine bodyPost_ret (v := .agg #[.int .u64 (wN (~~~a0)), .int .u64 (wN (~~~a1)), .int .u64 (wN (~~~a2)), .int .u64 (wN (~~~a3))]) (by simp [results, Tryz.results101, go_sem, hc]) rfl ⟨rfl, ?_⟩
  repeat (first | exact Below.refl _ _ | assumption | refine Below.drew ?_ | refine ext_drewN ?_ _ | refine ext_alloc ?_ _ | refine Below.setCell ?_ (by (try simp only [World.size_alloc, World.size_setCell, World.size_drew]); omega) _ | refine ext_step ?_ (by assumption))
end Go.Proofs.YticpjjmacmmpjaaGreatDoor
namespace Go.Proofs.YticpjjmacmmpjaaGreatDoor
open Go.RowKit

/-! ### How many; whether none; whether a byte is in it -/
set_option maxHeartbeats 400000 in
theorem Ones_any (x : BitVec 64) (w : World) :
    Calls Tryz.prog 137 #[.int .u64 (wN x)] w fun e w' => e = .returned (.int .i64 (pop 64 x.toNat : Nat)) ∧ w' = w := by
  have hl := wN_lo x
  have hh := wN_hi x
  rw [← onesI_pop]
  go_enter Tryz.func137, Tryz.ntmps137
  go_wp2
  go_ret
  refine ⟨?_, rfl⟩
  simp only [onesI, o1, o2, o3, o4, o5, o6]
  rfl

set_option maxHeartbeats 400000 in
theorem Empty_any (a0 a1 a2 a3 : BitVec 64) (w : World) :
    Calls Tryz.prog 72 #[.agg #[.int .u64 (wN a0), .int .u64 (wN a1), .int .u64 (wN a2), .int .u64 (wN a3)]] w fun e w' =>
     e = .returned (.bool (decide ((⟨a0, a1, a2, a3⟩ : BS) = BS.none))) ∧ w' = w.alloc (.cells #[.int .u64 (wN a0), .int .u64 (wN a1), .int .u64 (wN a2), .int .u64 (wN a3)] 112) := by
  have h := eq_words (wN a0) (wN a1) (wN a2) (wN a3) 0 0 0 0
  go_enter Tryz.func72, Tryz.ntmps72
  go_wp2
  go_ret
  refine ⟨?_, rfl⟩
  have e : (wN a0 == 0 && (wN a1 == 0 && (wN a2 == 0 && wN a3 == 0))) = decide ((⟨a0, a1, a2, a3⟩ : BS) = BS.none) := by
    rw [wN_zero, wN_beq, wN_beq, wN_beq, wN_beq]
    simp [BS.none, Bool.decide_and]
  rw [← e]
  rfl

theorem has_word (x : BitVec 64) (k : Nat) (hk : k < 64) : (bits .and .u64 (wN x / 2 ^ k) 1 == 1) = x.getLsbD k := by
  have hx : x.toNat / 2 ^ k < 18446744073709551616 := Nat.lt_of_le_of_lt (Nat.div_le_self _ _) x.isLt
  have e : wN x / 2 ^ k = ((x.toNat / 2 ^ k : Nat) : Int) := by unfold wN; norm_cast
  rw [e, show (1 : Int) = ((1 : Nat) : Int) from rfl, u64_and_nat _ _ hx (by omega), Nat.and_one_is_mod]
  show _ = x.toNat.testBit k
  rw [Nat.testBit_eq_decide_div_mod_eq]
  rcases Nat.mod_two_eq_zero_or_one (x.toNat / 2 ^ k) with h | h <;> rw [h] <;> rfl
theorem cell_of_words (a0 a1 a2 a3 : BitVec 64) (q : Nat) (hq : q < 4) (w : World) :
    (w.alloc (.cells #[.int .u64 (wN a0), .int .u64 (wN a1), .int .u64 (wN a2), .int .u64 (wN a3)] 112)).cell? ⟨w.heap.size, q, none⟩ = some (.int .u64 (wN ((⟨a0, a1, a2, a3⟩ : BS).wd q))) := by
  rw [World.cell?_alloc_new]
  match q, hq with
  | 0, _ => rfl
  | 1, _ => rfl
  | 2, _ => rfl
  | 3, _ => rfl
set_option maxHeartbeats 400000 in
theorem Has_any (a0 a1 a2 a3 : BitVec 64) (b : Int) (h0 : 0 ≤ b) (h1 : b ≤ 255) (w : World) :
    Calls Tryz.prog 141 #[.agg #[.int .u64 (wN a0), .int .u64 (wN a1), .int .u64 (wN a2), .int .u64 (wN a3)], .int .u8 b] w fun e w' =>
     e = .returned (.bool ((⟨a0, a1, a2, a3⟩ : BS).has b.toNat)) ∧ w' = w.alloc (.cells #[.int .u64 (wN a0), .int .u64 (wN a1), .int .u64 (wN a2), .int .u64 (wN a3)] 112) := by
  have hx := cell_of_words a0 a1 a2 a3 (b / 64).toNat (by omega) w
  have hw := has_word ((⟨a0, a1, a2, a3⟩ : BS).wd (b / 64).toNat) (b % 64).toNat (by omega)
  have e1 : (b / 64).toNat = b.toNat / 64 := by omega
  have e2 : (b % 64).toNat = b.toNat % 64 := by omega
  have H : Hid ((⟨a0, a1, a2, a3⟩ : BS).has b.toNat = ((⟨a0, a1, a2, a3⟩ : BS).wd (b / 64).toNat).getLsbD (b % 64).toNat) := by
    show _ = _
    unfold BS.has
    rw [e1, e2]
  clear e1 e2
  generalize ((⟨a0, a1, a2, a3⟩ : BS).wd (b / 64).toNat) = x at *
  rw [H.out]
  have HW := Lib.hid hw
  clear hw H
  have hl := wN_lo x
  have hh := wN_hi x
  go_enter Tryz.func141, Tryz.ntmps141
  go_wp2
  go_ret
  refine ⟨?_, rfl⟩
  rw [← HW.out]
  rfl

theorem ret_int {k : IntKind} {a b : Int} (h : a = b) : Ending.returned (.int k a) = .returned (.int k b) := by rw [h]
set_option maxHeartbeats 800000 in
theorem Len_any (a0 a1 a2 a3 : BitVec 64) (w : World) :
    Calls Tryz.prog 99 #[.agg #[.int .u64 (wN a0), .int .u64 (wN a1), .int .u64 (wN a2), .int .u64 (wN a3)]] w fun e w' =>
     e = .returned (.int .i64 ((⟨a0, a1, a2, a3⟩ : BS).len : Nat)) ∧ w' = w.alloc (.cells #[.int .u64 (wN a0), .int .u64 (wN a1), .int .u64 (wN a2), .int .u64 (wN a3)] 112) := by
  have p0 := pop_le 64 a0.toNat; have p1 := pop_le 64 a1.toNat; have p2 := pop_le 64 a2.toNat; have p3 := pop_le 64 a3.toNat
  have i0 : ∀ w, (Instr.index 112 (.agg #[.int .u64 (wN a0), .int .u64 (wN a1), .int .u64 (wN a2), .int .u64 (wN a3)]) (.int .i64 0)).run Tryz.prog w = .ok (.int .u64 (wN a0)) w := fun _ => by kernel_rfl
  have i1 : ∀ w, (Instr.index 112 (.agg #[.int .u64 (wN a0), .int .u64 (wN a1), .int .u64 (wN a2), .int .u64 (wN a3)]) (.int .i64 1)).run Tryz.prog w = .ok (.int .u64 (wN a1)) w := fun _ => by kernel_rfl
  have i2 : ∀ w, (Instr.index 112 (.agg #[.int .u64 (wN a0), .int .u64 (wN a1), .int .u64 (wN a2), .int .u64 (wN a3)]) (.int .i64 2)).run Tryz.prog w = .ok (.int .u64 (wN a2)) w := fun _ => by kernel_rfl
  have i3 : ∀ w, (Instr.index 112 (.agg #[.int .u64 (wN a0), .int .u64 (wN a1), .int .u64 (wN a2), .int .u64 (wN a3)]) (.int .i64 3)).run Tryz.prog w = .ok (.int .u64 (wN a3)) w := fun _ => by kernel_rfl
  go_enter Tryz.func99, Tryz.ntmps99
  go_wp2
  refine wp_loop_rounds 5 ?_
  rw [rounds_succ]
  go_wp2_with (go_at_call 137; refine (Ones_any _ _).mono ?_; rintro e w' ⟨rfl, rfl⟩)
  rw [rounds_succ]
  go_wp2_with (go_at_call 137; refine (Ones_any _ _).mono ?_; rintro e w' ⟨rfl, rfl⟩)
  rw [rounds_succ]
  go_wp2_with (go_at_call 137; refine (Ones_any _ _).mono ?_; rintro e w' ⟨rfl, rfl⟩)
  rw [rounds_succ]
  go_wp2_with (go_at_call 137; refine (Ones_any _ _).mono ?_; rintro e w' ⟨rfl, rfl⟩)
  rw [rounds_succ]
  go_wp2
  go_ret
  exact ⟨ret_int (by unfold BS.len; dsimp only; push_cast; rfl), rfl⟩
end Go.Proofs.YticpjjmacmmpjaaGreatDoor
namespace Go.Proofs.YticpjjmacmmpjaaGreatDoor
open Go.RowKit

set_option maxHeartbeats 400000 in
theorem All_any (w : World) :
    Calls Tryz.prog 100 #[] w fun e w' => e = .returned (.agg #[.int .u64 (wN fullW), .int .u64 (wN fullW), .int .u64 (wN fullW), .int .u64 (wN fullW)]) ∧ Below w.heap.size w w' := by
  have hn : ∀ w, Calls Tryz.prog 101 #[.agg #[.int .u64 0, .int .u64 0, .int .u64 0, .int .u64 0]] w fun e w' => e = .returned (.agg #[.int .u64 (wN fullW), .int .u64 (wN fullW), .int .u64 (wN fullW), .int .u64 (wN fullW)]) ∧ Below w.heap.size w w' := fun w => Not_any 0 0 0 0 w
  have HN := Lib.hid hn
  clear hn
  go_enter Tryz.func100, Tryz.ntmps100
  go_wp2_with fail
  refine (HN.out _).mono ?_
  rintro e w1 ⟨rfl, hb⟩
  obtain ⟨hc, hf⟩ := bcell hb
  go_wp2
  refine bodyPost_ret (v := .agg #[.int .u64 (wN fullW), .int .u64 (wN fullW), .int .u64 (wN fullW), .int .u64 (wN fullW)]) (by simp [results, Tryz.results100, go_sem, hc]) rfl ⟨rfl, ?_⟩
  repeat (first | exact Below.refl _ _ | assumption | refine Below.drew ?_ | refine ext_drewN ?_ _ | refine ext_alloc ?_ _ | refine Below.setCell ?_ (by (try simp only [World.size_alloc, World.size_setCell, World.size_drew]); omega) _ | refine ext_step ?_ (by assumption))

def ofW (w : World) (s : BS) : World := (w.alloc (.cells #[.int .u64 0, .int .u64 0, .int .u64 0, .int .u64 0] 112)).alloc (.cells #[.int .u64 (wN s.a), .int .u64 (wN s.b), .int .u64 (wN s.c), .int .u64 (wN s.d)] 112)
def OfAt (xs : List Int) (w : World) (i : Value) (wr : World) : Prop := ∃ (k : Nat), k ≤ xs.length ∧ i = .int .i64 k ∧ wr = ofW w (BS.ofL (xs.take k))
theorem take_snoc_getD (xs : List Int) (k : Nat) (h : k < xs.length) : xs.take (k + 1) = xs.take k ++ [xs.getD k 0] := by
  rw [List.take_succ_eq_append_getElem h]; simp [List.getD, h]
set_option maxHeartbeats 800000 in
theorem Of_any (b off cap : Nat) (xs : List Int) (hx : ∀ i, i < xs.length → 0 ≤ xs.getD i 0 ∧ xs.getD i 0 ≤ 255) (hm : xs.length ≤ 140737488351232) (w : World)
   (hc : ∀ i, i < xs.length → w.cell? ⟨b, off + i, none⟩ = some (.int .u8 (xs.getD i 0))) :
    Calls Tryz.prog 84 #[.slice (some ⟨b, off, none⟩) xs.length cap] w fun e w' => e = .returned (.agg #[.int .u64 (wN (BS.ofL xs).a), .int .u64 (wN (BS.ofL xs).b), .int .u64 (wN (BS.ofL xs).c), .int .u64 (wN (BS.ofL xs).d)]) ∧ Below w.heap.size w w' := by
  have HC := Lib.hid hc
  clear hc
  go_enter Tryz.func84, Tryz.ntmps84
  go_wp2
  go_loopw [8] (fun i wr => OfAt xs w i wr) (fun i _ => xs.length - (intOf i).toNat)
  case atStart => exact ⟨0, by omega, rfl, rfl⟩
  case round =>
    obtain ⟨k, hk, rfl, rfl⟩ := hrel
    by_cases hlt : k < xs.length
    · have hcell := HC.out k hlt
      have hcell : ∀ s, (ofW w s).cell? ⟨b, off + k, none⟩ = some (.int .u8 (xs.getD k 0)) := fun s => by
        unfold ofW
        have hb := World.block_lt_of_cell? w _ hcell
        rw [World.cell?_alloc_old _ _ _ (by simp at hb ⊢; omega), World.cell?_alloc_old _ _ _ (by simp at hb ⊢; omega), hcell]
      obtain ⟨h0, h1⟩ := hx k hlt
      have HS : Hid (BS.ofL (xs.take (k + 1)) = (BS.ofL (xs.take k)).add (xs.getD k 0).toNat) := by
        show _ = _
        rw [take_snoc_getD xs k hlt, BS.ofL_snoc]
      generalize xs.getD k 0 = x at *
      generalize hs : BS.ofL (xs.take k) = s at *
      clear hs
      obtain ⟨s0, s1, s2, s3⟩ := s
      have hcell := hcell ⟨s0, s1, s2, s3⟩
      have e1 : (x % 64).toNat = x.toNat % 64 := by omega
      have E1 := Lib.hid e1
      clear e1
      have hm64 : (x % 64).toNat < 64 := by omega
      rcases (show x / 64 = 0 ∨ x / 64 = 1 ∨ x / 64 = 2 ∨ x / 64 = 3 by omega) with hq | hq | hq | hq
      · have HA : Hid ((⟨s0, s1, s2, s3⟩ : BS).add x.toNat = ⟨s0 ||| BitVec.twoPow 64 (x % 64).toNat, s1, s2, s3⟩) := by rw [E1.out]; exact BS.add0 s0 s1 s2 s3 _ (by omega)
        have hbit := or_bit s0 (x % 64).toNat hm64
        dsimp only [ofW] at hcell ⊢
        go_wp2
        go_roundw
        case rel => exact ⟨k + 1, by omega, by go_num, by rw [HS.out, HA.out]; rfl⟩
        case measure => simp [intOf]; omega
      · have HA : Hid ((⟨s0, s1, s2, s3⟩ : BS).add x.toNat = ⟨s0, s1 ||| BitVec.twoPow 64 (x % 64).toNat, s2, s3⟩) := by rw [E1.out]; exact BS.add1 s0 s1 s2 s3 _ (by omega)
        have hbit := or_bit s1 (x % 64).toNat hm64
        dsimp only [ofW] at hcell ⊢
        go_wp2
        go_roundw
        case rel => exact ⟨k + 1, by omega, by go_num, by rw [HS.out, HA.out]; rfl⟩
        case measure => simp [intOf]; omega
      · have HA : Hid ((⟨s0, s1, s2, s3⟩ : BS).add x.toNat = ⟨s0, s1, s2 ||| BitVec.twoPow 64 (x % 64).toNat, s3⟩) := by rw [E1.out]; exact BS.add2 s0 s1 s2 s3 _ (by omega)
        have hbit := or_bit s2 (x % 64).toNat hm64
        dsimp only [ofW] at hcell ⊢
        go_wp2
        go_roundw
        case rel => exact ⟨k + 1, by omega, by go_num, by rw [HS.out, HA.out]; rfl⟩
        case measure => simp [intOf]; omega
      · have HA : Hid ((⟨s0, s1, s2, s3⟩ : BS).add x.toNat = ⟨s0, s1, s2, s3 ||| BitVec.twoPow 64 (x % 64).toNat⟩) := by rw [E1.out]; exact BS.add3 s0 s1 s2 s3 _ (by omega)
        have hbit := or_bit s3 (x % 64).toNat hm64
        dsimp only [ofW] at hcell ⊢
        go_wp2
        go_roundw
        case rel => exact ⟨k + 1, by omega, by go_num, by rw [HS.out, HA.out]; rfl⟩
        case measure => simp [intOf]; omega
    · obtain rfl : k = xs.length := by omega
      rw [List.take_length]
      generalize hs : BS.ofL xs = s
      obtain ⟨s0, s1, s2, s3⟩ := s
      have HE := Lib.hid hs
      clear hs
      dsimp only [ofW]
      go_wp2
      refine bodyPost_ret (v := .agg #[.int .u64 (wN s0), .int .u64 (wN s1), .int .u64 (wN s2), .int .u64 (wN s3)]) (by simp [results, Tryz.results84, go_sem]) rfl ⟨by rw [HE.out], ?_⟩
      repeat (first | exact Below.refl _ _ | assumption | refine Below.drew ?_ | refine ext_drewN ?_ _ | refine ext_alloc ?_ _ | refine Below.setCell ?_ (by (try simp only [World.size_alloc, World.size_setCell, World.size_drew]); omega) _ | refine ext_step ?_ (by assumption))

theorem and63 : ∀ j < 256, bits .and .i64 ((j : Nat) : Int) 63 = (j : Int) % 64 := by decide +kernel
theorem ofW_set0 (w : World) (s0 s1 s2 s3 x : BitVec 64) (m : Nat) : ((ofW w ⟨s0, s1, s2, s3⟩).drewN (m + 1)).setCell ⟨w.heap.size + 1, 0, none⟩ (.int .u64 (wN x)) = (ofW w ⟨x, s1, s2, s3⟩).drewN (m + 1) := by
  show (World.setCell (ofW w _) _ _).drewN (m + 1) = _
  congr 1
  unfold ofW
  rw [World.setCell_alloc_at _ _ _ _ _ (by simp)]
  rfl
theorem ofW_set1 (w : World) (s0 s1 s2 s3 x : BitVec 64) (m : Nat) : ((ofW w ⟨s0, s1, s2, s3⟩).drewN (m + 1)).setCell ⟨w.heap.size + 1, 1, none⟩ (.int .u64 (wN x)) = (ofW w ⟨s0, x, s2, s3⟩).drewN (m + 1) := by
  show (World.setCell (ofW w _) _ _).drewN (m + 1) = _
  congr 1
  unfold ofW
  rw [World.setCell_alloc_at _ _ _ _ _ (by simp)]
  rfl
theorem ofW_set2 (w : World) (s0 s1 s2 s3 x : BitVec 64) (m : Nat) : ((ofW w ⟨s0, s1, s2, s3⟩).drewN (m + 1)).setCell ⟨w.heap.size + 1, 2, none⟩ (.int .u64 (wN x)) = (ofW w ⟨s0, s1, x, s3⟩).drewN (m + 1) := by
  show (World.setCell (ofW w _) _ _).drewN (m + 1) = _
  congr 1
  unfold ofW
  rw [World.setCell_alloc_at _ _ _ _ _ (by simp)]
  rfl
theorem ofW_set3 (w : World) (s0 s1 s2 s3 x : BitVec 64) (m : Nat) : ((ofW w ⟨s0, s1, s2, s3⟩).drewN (m + 1)).setCell ⟨w.heap.size + 1, 3, none⟩ (.int .u64 (wN x)) = (ofW w ⟨s0, s1, s2, x⟩).drewN (m + 1) := by
  show (World.setCell (ofW w _) _ _).drewN (m + 1) = _
  congr 1
  unfold ofW
  rw [World.setCell_alloc_at _ _ _ _ _ (by simp)]
  rfl
end Go.Proofs.YticpjjmacmmpjaaGreatDoor
namespace Go.Proofs.YticpjjmacmmpjaaGreatDoor
open Go.RowKit

set_option maxHeartbeats 400000 in
theorem And1_any (x y : BitVec 64) (w : World) :
    Calls Tryz.prog 154 #[.int .u64 (wN x), .int .u64 (wN y)] w fun e w' => e = .returned (.int .u64 (wN (x &&& y))) ∧ w' = w := by
  go_enter Tryz.func154, Tryz.ntmps154
  go_wp2
  go_ret
  exact ⟨by simp only [← bits_and_bv]; rfl, rfl⟩

set_option maxHeartbeats 400000 in
theorem Or1_any (x y : BitVec 64) (w : World) :
    Calls Tryz.prog 153 #[.int .u64 (wN x), .int .u64 (wN y)] w fun e w' => e = .returned (.int .u64 (wN (x ||| y))) ∧ w' = w := by
  go_enter Tryz.func153, Tryz.ntmps153
  go_wp2
  go_ret
  exact ⟨by simp only [← bits_or_bv]; rfl, rfl⟩

set_option maxHeartbeats 400000 in
theorem Minus1_any (x y : BitVec 64) (w : World) :
    Calls Tryz.prog 155 #[.int .u64 (wN x), .int .u64 (wN y)] w fun e w' => e = .returned (.int .u64 (wN (x &&& ~~~y))) ∧ w' = w := by
  go_enter Tryz.func155, Tryz.ntmps155
  go_wp2
  go_ret
  exact ⟨by simp only [← bits_andNot_bv]; rfl, rfl⟩

set_option maxHeartbeats 400000 in
theorem And_any (a0 a1 a2 a3 b0 b1 b2 b3 : BitVec 64) (w : World) :
    Calls Tryz.prog 130 #[.agg #[.int .u64 (wN a0), .int .u64 (wN a1), .int .u64 (wN a2), .int .u64 (wN a3)], .agg #[.int .u64 (wN b0), .int .u64 (wN b1), .int .u64 (wN b2), .int .u64 (wN b3)]] w fun e w' => e = .returned (.agg #[.int .u64 (wN (a0 &&& b0)), .int .u64 (wN (a1 &&& b1)), .int .u64 (wN (a2 &&& b2)), .int .u64 (wN (a3 &&& b3))]) ∧ Below w.heap.size w w' := by
  go_enter Tryz.func130, Tryz.ntmps130
  go_wp2_with fail
  refine (each_any 154 (fun x y => x &&& y) And1_any (fun _ _ => by kernel_rfl) a0 a1 a2 a3 b0 b1 b2 b3 _).mono ?_
  rintro e w1 ⟨rfl, hb⟩
  obtain ⟨hc, hf⟩ := bcell hb
  go_wp2
  refine bodyPost_ret (v := .agg #[.int .u64 (wN (a0 &&& b0)), .int .u64 (wN (a1 &&& b1)), .int .u64 (wN (a2 &&& b2)), .int .u64 (wN (a3 &&& b3))]) (by simp [results, Tryz.results130, go_sem, hc]) rfl ⟨rfl, ?_⟩
  repeat (first | exact Below.refl _ _ | assumption | refine Below.drew ?_ | refine ext_drewN ?_ _ | refine ext_alloc ?_ _ | refine Below.setCell ?_ (by (try simp only [World.size_alloc, World.size_setCell, World.size_drew]); omega) _ | refine ext_step ?_ (by assumption))

set_option maxHeartbeats 400000 in
theorem Or_any (a0 a1 a2 a3 b0 b1 b2 b3 : BitVec 64) (w : World) :
    Calls Tryz.prog 126 #[.agg #[.int .u64 (wN a0), .int .u64 (wN a1), .int .u64 (wN a2), .int .u64 (wN a3)], .agg #[.int .u64 (wN b0), .int .u64 (wN b1), .int .u64 (wN b2), .int .u64 (wN b3)]] w fun e w' => e = .returned (.agg #[.int .u64 (wN (a0 ||| b0)), .int .u64 (wN (a1 ||| b1)), .int .u64 (wN (a2 ||| b2)), .int .u64 (wN (a3 ||| b3))]) ∧ Below w.heap.size w w' := by
  go_enter Tryz.func126, Tryz.ntmps126
  go_wp2_with fail
  refine (each_any 153 (fun x y => x ||| y) Or1_any (fun _ _ => by kernel_rfl) a0 a1 a2 a3 b0 b1 b2 b3 _).mono ?_
  rintro e w1 ⟨rfl, hb⟩
  obtain ⟨hc, hf⟩ := bcell hb
  go_wp2
  refine bodyPost_ret (v := .agg #[.int .u64 (wN (a0 ||| b0)), .int .u64 (wN (a1 ||| b1)), .int .u64 (wN (a2 ||| b2)), .int .u64 (wN (a3 ||| b3))]) (by simp [results, Tryz.results126, go_sem, hc]) rfl ⟨rfl, ?_⟩
  repeat (first | exact Below.refl _ _ | assumption | refine Below.drew ?_ | refine ext_drewN ?_ _ | refine ext_alloc ?_ _ | refine Below.setCell ?_ (by (try simp only [World.size_alloc, World.size_setCell, World.size_drew]); omega) _ | refine ext_step ?_ (by assumption))

set_option maxHeartbeats 400000 in
theorem Minus_any (a0 a1 a2 a3 b0 b1 b2 b3 : BitVec 64) (w : World) :
    Calls Tryz.prog 131 #[.agg #[.int .u64 (wN a0), .int .u64 (wN a1), .int .u64 (wN a2), .int .u64 (wN a3)], .agg #[.int .u64 (wN b0), .int .u64 (wN b1), .int .u64 (wN b2), .int .u64 (wN b3)]] w fun e w' => e = .returned (.agg #[.int .u64 (wN (a0 &&& ~~~b0)), .int .u64 (wN (a1 &&& ~~~b1)), .int .u64 (wN (a2 &&& ~~~b2)), .int .u64 (wN (a3 &&& ~~~b3))]) ∧ Below w.heap.size w w' := by
  go_enter Tryz.func131, Tryz.ntmps131
  go_wp2_with fail
  refine (each_any 155 (fun x y => x &&& ~~~y) Minus1_any (fun _ _ => by kernel_rfl) a0 a1 a2 a3 b0 b1 b2 b3 _).mono ?_
  rintro e w1 ⟨rfl, hb⟩
  obtain ⟨hc, hf⟩ := bcell hb
  go_wp2
  refine bodyPost_ret (v := .agg #[.int .u64 (wN (a0 &&& ~~~b0)), .int .u64 (wN (a1 &&& ~~~b1)), .int .u64 (wN (a2 &&& ~~~b2)), .int .u64 (wN (a3 &&& ~~~b3))]) (by simp [results, Tryz.results131, go_sem, hc]) rfl ⟨rfl, ?_⟩
  repeat (first | exact Below.refl _ _ | assumption | refine Below.drew ?_ | refine ext_drewN ?_ _ | refine ext_alloc ?_ _ | refine Below.setCell ?_ (by (try simp only [World.size_alloc, World.size_setCell, World.size_drew]); omega) _ | refine ext_step ?_ (by assumption))
end Go.Proofs.YticpjjmacmmpjaaGreatDoor
namespace Go.Proofs.YticpjjmacmmpjaaGreatDoor
open Go.RowKit

def FromAt (low high : Nat) (w : World) (i : Value) (wr : World) : Prop := ∃ (n m : Nat), low + n ≤ 256 ∧ (n = 0 ∨ low + n ≤ high + 1) ∧ i = .int .i64 ((low + n : Nat) : Int) ∧ wr = (ofW w (BS.run low n)).drewN m
set_option maxHeartbeats 1600000 in
theorem From_any (low high : Nat) (hlo : low < 256) (hhi : high < 256) (w : World) :
    Calls Tryz.prog 89 #[.int .u8 (low : Int), .int .u8 (high : Int)] w fun e w' => e = .returned (.agg #[.int .u64 (wN (BS.run low (high + 1 - low)).a), .int .u64 (wN (BS.run low (high + 1 - low)).b), .int .u64 (wN (BS.run low (high + 1 - low)).c), .int .u64 (wN (BS.run low (high + 1 - low)).d)]) ∧ Below w.heap.size w w' := by
  go_enter Tryz.func89, Tryz.ntmps89
  go_wp2
  go_loopw [6] (fun i wr => FromAt low high w i wr) (fun i _ => 256 - (intOf i).toNat)
  case atStart => exact ⟨0, 0, by omega, by omega, by go_num, rfl⟩
  case round =>
    obtain ⟨n, m, hk, hn, rfl, rfl⟩ := hrel
    by_cases hlt : low + n ≤ high
    · have HS : Hid (BS.run low (n + 1) = (BS.run low n).add (low + n)) := rfl
      generalize hs : BS.run low n = s at *
      clear hs
      obtain ⟨s0, s1, s2, s3⟩ := s
      generalize hj : low + n = j at *
      have HJ := Lib.hid hj
      clear hj
      have hm64 : (j % 64) < 64 := by omega
      have hj256 : j ≤ 255 := by omega
      have h63 := and63 j (by omega)
      rcases (show (j : Int) / 64 = 0 ∨ (j : Int) / 64 = 1 ∨ (j : Int) / 64 = 2 ∨ (j : Int) / 64 = 3 by omega) with hq | hq | hq | hq
      · have HA : Hid ((⟨s0, s1, s2, s3⟩ : BS).add j = ⟨s0 ||| BitVec.twoPow 64 (j % 64), s1, s2, s3⟩) := by exact BS.add0 s0 s1 s2 s3 _ (by omega)
        have hbit := or_bit s0 (j % 64) hm64
        dsimp only [ofW]
        go_wp2
        go_region
        go_wp2
        go_roundw
        case rel => exact ⟨n + 1, m + 1, by have := HJ.out; omega, by have := HJ.out; omega, by rw [← Nat.add_assoc, HJ.out]; go_num, by rw [HS.out, HA.out]; exact ofW_set0 w s0 s1 s2 s3 _ _⟩
        case measure => simp [intOf]; omega
      · have HA : Hid ((⟨s0, s1, s2, s3⟩ : BS).add j = ⟨s0, s1 ||| BitVec.twoPow 64 (j % 64), s2, s3⟩) := by exact BS.add1 s0 s1 s2 s3 _ (by omega)
        have hbit := or_bit s1 (j % 64) hm64
        dsimp only [ofW]
        go_wp2
        go_region
        go_wp2
        go_roundw
        case rel => exact ⟨n + 1, m + 1, by have := HJ.out; omega, by have := HJ.out; omega, by rw [← Nat.add_assoc, HJ.out]; go_num, by rw [HS.out, HA.out]; exact ofW_set1 w s0 s1 s2 s3 _ _⟩
        case measure => simp [intOf]; omega
      · have HA : Hid ((⟨s0, s1, s2, s3⟩ : BS).add j = ⟨s0, s1, s2 ||| BitVec.twoPow 64 (j % 64), s3⟩) := by exact BS.add2 s0 s1 s2 s3 _ (by omega)
        have hbit := or_bit s2 (j % 64) hm64
        dsimp only [ofW]
        go_wp2
        go_region
        go_wp2
        go_roundw
        case rel => exact ⟨n + 1, m + 1, by have := HJ.out; omega, by have := HJ.out; omega, by rw [← Nat.add_assoc, HJ.out]; go_num, by rw [HS.out, HA.out]; exact ofW_set2 w s0 s1 s2 s3 _ _⟩
        case measure => simp [intOf]; omega
      · have HA : Hid ((⟨s0, s1, s2, s3⟩ : BS).add j = ⟨s0, s1, s2, s3 ||| BitVec.twoPow 64 (j % 64)⟩) := by exact BS.add3 s0 s1 s2 s3 _ (by omega)
        have hbit := or_bit s3 (j % 64) hm64
        dsimp only [ofW]
        go_wp2
        go_region
        go_wp2
        go_roundw
        case rel => exact ⟨n + 1, m + 1, by have := HJ.out; omega, by have := HJ.out; omega, by rw [← Nat.add_assoc, HJ.out]; go_num, by rw [HS.out, HA.out]; exact ofW_set3 w s0 s1 s2 s3 _ _⟩
        case measure => simp [intOf]; omega
    · obtain rfl : n = high + 1 - low := by omega
      generalize hs : BS.run low (high + 1 - low) = s
      obtain ⟨s0, s1, s2, s3⟩ := s
      have HE := Lib.hid hs
      clear hs
      generalize low + (high + 1 - low) = j at *
      dsimp only [ofW]
      go_wp2
      refine bodyPost_ret (v := .agg #[.int .u64 (wN s0), .int .u64 (wN s1), .int .u64 (wN s2), .int .u64 (wN s3)]) (by simp [results, Tryz.results89, go_sem]) rfl ⟨by rw [HE.out], ?_⟩
      repeat (first | exact Below.refl _ _ | assumption | refine Below.drew ?_ | refine ext_drewN ?_ _ | refine ext_alloc ?_ _ | refine Below.setCell ?_ (by (try simp only [World.size_alloc, World.size_setCell, World.size_drew]); omega) _ | refine ext_step ?_ (by assumption))
end Go.Proofs.YticpjjmacmmpjaaGreatDoor
namespace Go.Proofs.YticpjjmacmmpjaaGreatDoor
open Go.ChangeShapes Go.WideShapes Go.ChangeAt Go.RowKit

theorem own : ownKnob Tryz.prog.godebug = none := by kernel_rfl
theorem laidOut : laidOutB Tryz.prog = true := by kernel_rfl
theorem undS : Tryz.prog.underlying 112 = some (.array 4 75) := by kernel_rfl
theorem cellsW : Tryz.prog.cellsOf 75 = 1 := by kernel_rfl
theorem cellsS : Tryz.prog.cellsOf 112 = 4 := by kernel_rfl
theorem undW : Tryz.prog.underlying 75 = some (.int .u64) := by kernel_rfl

theorem word_of {n : Int} (h : (Lit.int .u64 n).wf = true) : ∃ x : BitVec 64, n = wN x := by
  have hb := bounds_u64 h
  refine ⟨BitVec.ofNat 64 n.toNat, ?_⟩
  unfold wN
  rw [BitVec.toNat_ofNat, Nat.mod_eq_of_lt (by omega)]
  omega
theorem open_set {H : Type} {enc : TypeId × Value → H} {W : World} {base : Nat} {spare : Nat → Bool} {held : Bool} {b0 : Nat} {v : Value} {d : DataW H} {p : List MemPlace}
    (hv : Value.okWide Tryz.prog W .any b0 112 v) (h : DataW.Trod enc Tryz.prog W base spare held 112 v d p) :
    ∃ a0 a1 a2 a3 : BitVec 64, v = .agg #[.int .u64 (wN a0), .int .u64 (wN a1), .int .u64 (wN a2), .int .u64 (wN a3)] := by
  obtain ⟨cs, rfl, hsz, _⟩ : ∃ cs, v = .agg cs ∧ cs.size = Tryz.prog.cellsOf 112 ∧ Row.okWide Tryz.prog W .any b0 112 cs := by
    simpa [Value.okWide, undS] using hv
  rw [cellsS] at hsz
  obtain ⟨c0, c1, c2, c3, rfl⟩ := Go.Joins.array4 hsz
  obtain ⟨fuel, hf⟩ := h
  obtain ⟨xs, m, _, ex, hlen, hl, hel⟩ := DataW.trod_array undS hf
  have g : ∀ i, i < 4 → ∃ y, xs[i]? = some y := fun i hi => ⟨xs[i]'(by omega), List.getElem?_eq_getElem (by omega)⟩
  obtain ⟨y0, g0⟩ := g 0 (by omega); obtain ⟨y1, g1⟩ := g 1 (by omega); obtain ⟨y2, g2⟩ := g 2 (by omega); obtain ⟨y3, g3⟩ := g 3 (by omega)
  have h0 := hel 0 (by omega); have h1 := hel 1 (by omega); have h2 := hel 2 (by omega); have h3 := hel 3 (by omega)
  rw [g0] at h0; rw [g1] at h1; rw [g2] at h2; rw [g3] at h3
  simp only [cellsW, Value.cells] at h0 h1 h2 h3
  obtain ⟨n0, e0, _, w0⟩ := DataW.trod_int undW h0
  obtain ⟨n1, e1, _, w1⟩ := DataW.trod_int undW h1
  obtain ⟨n2, e2, _, w2⟩ := DataW.trod_int undW h2
  obtain ⟨n3, e3, _, w3⟩ := DataW.trod_int undW h3
  simp at e0 e1 e2 e3
  subst e0 e1 e2 e3
  obtain ⟨x0, rfl⟩ := word_of w0; obtain ⟨x1, rfl⟩ := word_of w1; obtain ⟨x2, rfl⟩ := word_of w2; obtain ⟨x3, rfl⟩ := word_of w3
  exact ⟨x0, x1, x2, x3, rfl⟩
end Go.Proofs.YticpjjmacmmpjaaGreatDoor
namespace Go.Proofs.YticpjjmacmmpjaaGreatDoor
open Go.RowKit Go.Shelf
attribute [local go_sem] Oper.semAt_some

theorem wide_fn (f : FuncId) : Fence.wide.fn f = True := rfl
theorem wide_depth : Fence.wide.depth = none := rfl
attribute [local go_sem] wide_fn wide_depth
theorem wd {k : Nat} : Fence.wide.depth.isSome = true → 1 ≤ k := fun h => by cases h
/-- block B lies as it lay -/
structure KeepB (B : Nat) (W W' : World) : Prop where
  size : W.heap.size ≤ W'.heap.size
  block : W'.heap[B]? = W.heap[B]?
theorem KeepB.refl (B : Nat) (W : World) : KeepB B W W := ⟨Nat.le_refl _, rfl⟩
theorem KeepB.trans {B : Nat} {X Y Z : World} (h : KeepB B X Y) (k : KeepB B Y Z) : KeepB B X Z := ⟨Nat.le_trans h.size k.size, k.block.trans h.block⟩
theorem KeepB.alloc {B : Nat} {X Y : World} (h : KeepB B X Y) (hB : B < X.heap.size) (o : Obj) : KeepB B X (Y.alloc o) :=
  ⟨by have := h.size; simp; omega, (Below.heap_alloc _ _ _ (by have := h.size; omega)).trans h.block⟩
theorem KeepB.setCell {B : Nat} {X Y : World} (h : KeepB B X Y) {p : Addr} (hp : B ≠ p.block) (v : Value) : KeepB B X (Y.setCell p v) :=
  ⟨by have := h.size; simp; omega, (Below.heap_setCell _ _ _ _ hp).trans h.block⟩
theorem KeepB.drew {B : Nat} {X Y : World} (h : KeepB B X Y) : KeepB B X Y.drew := ⟨h.size, h.block⟩
theorem KeepB.step {B : Nat} {X Y Z : World} (h : KeepB B X Y) (hB : B < X.heap.size) (hb : Below Y.heap.size Y Z) : KeepB B X Z :=
  ⟨Nat.le_trans h.size hb.size, (hb.block B (by have := h.size; omega)).trans h.block⟩
theorem keepB_t {B : Nat} {X Y Z : World} (h : KeepB B X Y) (k : KeepB B Y Z) : KeepB B X Z := h.trans k
theorem keepB_b {B : Nat} {w : World} (hB : B < w.heap.size) (W : World) (l : Nat) (o o' : Obj) (hl : w.heap.size ≤ l) (h : W.heap[l]? = some o) (_ : o.isCells = false) (_ : o.isWalk = false) : KeepB B W (W.putObj l o') :=
  ⟨by simp, World.putObj_heap_other (by omega)⟩
abbrev encB (x : Byt) : Array Value := #[.int .u8 (x.n : Int)]
/-- the box at block b holds the four words -/
def BoxS (w : World) (b : Nat) (s : BS) : Prop :=
  w.cell? ⟨b, 0, none⟩ = some (.int .u64 (wN s.a)) ∧ w.cell? ⟨b, 1, none⟩ = some (.int .u64 (wN s.b)) ∧ w.cell? ⟨b, 2, none⟩ = some (.int .u64 (wN s.c)) ∧ w.cell? ⟨b, 3, none⟩ = some (.int .u64 (wN s.d))
theorem BoxS.later {B : Nat} {w w1 : World} {b : Nat} {s : BS} (h : BoxS w b s) (hb : Below B w w1) (hlt : b < B) : BoxS w1 b s :=
  ⟨(hb.cell (p := ⟨b, 0, none⟩) hlt).trans h.1, (hb.cell (p := ⟨b, 1, none⟩) hlt).trans h.2.1, (hb.cell (p := ⟨b, 2, none⟩) hlt).trans h.2.2.1, (hb.cell (p := ⟨b, 3, none⟩) hlt).trans h.2.2.2⟩
theorem BoxS.kept {w w1 : World} {b : Nat} {s : BS} (h : BoxS w b s) (hb : KeepB b w w1) : BoxS w1 b s :=
  ⟨(World.cell?_of_block (w := w) hb.block).trans h.1, (World.cell?_of_block (w := w) hb.block).trans h.2.1, (World.cell?_of_block (w := w) hb.block).trans h.2.2.1, (World.cell?_of_block (w := w) hb.block).trans h.2.2.2⟩
theorem BoxS.new (w : World) (a0 a1 a2 a3 : BitVec 64) : BoxS (w.alloc (.cells #[.int .u64 (wN a0), .int .u64 (wN a1), .int .u64 (wN a2), .int .u64 (wN a3)] 112)) w.heap.size ⟨a0, a1, a2, a3⟩ :=
  ⟨by simp, by simp, by simp, by simp⟩
abbrev encR (x : Rn) : Array Value := #[.int .u8 (x.a : Int), .int .u8 (x.b : Int)]
def RunsAt (s : BS) (B : Nat) (W : World) (J : List Rn → World → Prop) (i : Value) (wr : World) : Prop :=
  ∃ (k : Nat) (pre : List Rn), k ≤ 256 ∧ i = .int .i64 k ∧ pre ++ s.runsFrom k = s.runs ∧ J pre wr ∧ KeepB B W wr
def RunIn (s : BS) (B : Nat) (W : World) (J : List Rn → World → Prop) (pre : List Rn) (f : Nat) (i : Value) (wr : World) : Prop :=
  ∃ k : Nat, f ≤ k ∧ k < 256 ∧ i = .int .i64 k ∧ s.runEnd k = s.runEnd f ∧ J pre wr ∧ KeepB B W wr
set_option maxRecDepth 100000 in
set_option maxHeartbeats 2000000 in
theorem RunsLit_in (n l B : Nat) (s : BS) (J Jx : List Rn → World → Prop) (W : World) (hBn : B < W.heap.size) (hbox : BoxS W B s) (hJ : AbidesFrom W.heap.size J)
    (hY : ∀ pre x W1, J pre W1 → pre.length < 256 → YieldAt Fence.wide (n - 1) Tryz.prog l (encR x) W1 fun e W' =>
      (e = .returned (.bool true) ∧ J (pre ++ [x]) W' ∧ KeepB B W1 W') ∨ (e = .returned (.bool false) ∧ Jx (pre ++ [x]) W'))
    (h0 : J [] W) :
    CallsIn Fence.wide n Tryz.prog 140 #[.func (.yield l) #[] #[], .pointer (some ⟨B, 0, none⟩)] W fun e W' => (∃ v, e = .returned v) ∧
      ((∃ xs, xs = s.runs ∧ J xs W') ∨ (∃ pre, pre <+: s.runs ∧ Jx pre W')) := by
  obtain ⟨a0, a1, a2, a3⟩ := s
  refine callsIn_of_wp Tryz.func140 rfl trivial ?_ rfl
  simp only [Tryz.ntmps140, List.size_toArray, List.length_cons, List.length_nil, Nat.reduceAdd, Nat.reduceSub, Array.replicate_succ, Array.replicate_zero, List.push_toArray, List.append_toArray, List.nil_append, List.cons_append]
  gi_wp2
  gi_loopw [3] (fun i wr => RunsAt ⟨a0, a1, a2, a3⟩ B W J i wr) (fun i _ => 256 - (intOf i).toNat)
  case atStart => exact ⟨0, [], by omega, rfl, rfl, h0, KeepB.refl _ _⟩
  case round =>
    obtain ⟨k, pre, hk, rfl, hpre, hJs, hB⟩ := hrel
    by_cases hlt : k < 256
    · have hk0 : (0 : Int) ≤ k := by omega
      have hk255 : (k : Int) ≤ 255 := by omega
      obtain ⟨c0, c1, c2, c3⟩ := hbox.kept hB
      dsimp only at c0 c1 c2 c3
      have hsz : W.heap.size ≤ wr.heap.size := hB.size
      have hJa := hJ _ wr (wr.alloc (.cells #[.int .u64 (wN a0), .int .u64 (wN a1), .int .u64 (wN a2), .int .u64 (wN a3)] 112)) none hJs (World.grownBy_alloc wr _ none) (fun r e => by cases e)
      have hBa : KeepB B W (wr.alloc (.cells #[.int .u64 (wN a0), .int .u64 (wN a1), .int .u64 (wN a2), .int .u64 (wN a3)] 112)) := hB.alloc hBn _
      cases hhas : (⟨a0, a1, a2, a3⟩ : BS).has k with
      | false =>
        rw [BS.runsFrom_no _ k hlt hhas] at hpre
        have HP := Lib.hid hpre
        clear hpre
        have HH := Lib.hid hhas
        clear hhas
        gi_wp2_with (gi_at_call 141; refine (callsIn_wide.2 (Has_any a0 a1 a2 a3 k hk0 hk255 _)).mono ?_; rintro e w' ⟨rfl, rfl⟩; rw [Int.toNat_natCast, HH.out])
        go_roundw
        case rel => exact ⟨k + 1, pre, by omega, by go_num, HP.out, hJa, hBa⟩
        case measure => simp [intOf]; omega
      | true =>
        rw [BS.runsFrom_yes _ k hlt hhas] at hpre
        have HP := Lib.hid hpre
        clear hpre
        have HH := Lib.hid hhas
        clear hhas
        gi_wp2_with (gi_at_call 141; refine (callsIn_wide.2 (Has_any a0 a1 a2 a3 k hk0 hk255 _)).mono ?_; rintro e w' ⟨rfl, rfl⟩; rw [Int.toNat_natCast, HH.out])
        have HJa := hJa
        gi_loopw [3] (fun i wr => RunIn ⟨a0, a1, a2, a3⟩ B W J pre k i wr) (fun i _ => 256 - (intOf i).toNat)
        case atStart => exact ⟨k, by omega, hlt, rfl, rfl, hJa, hBa⟩
        case round =>
          clear hJa hBa HJa c0 c1 c2 c3 hsz hB hJs
          obtain ⟨j, hkj, hj, rfl, hrun, hJ2, hB2⟩ := hrel
          have HR2 := Lib.hid hrun
          clear hrun
          obtain ⟨c0, c1, c2, c3⟩ := hbox.kept hB2
          dsimp only at c0 c1 c2 c3
          have hsz2 : W.heap.size ≤ wr.heap.size := hB2.size
          have hJa2 := hJ _ wr (wr.alloc (.cells #[.int .u64 (wN a0), .int .u64 (wN a1), .int .u64 (wN a2), .int .u64 (wN a3)] 112)) none hJ2 (World.grownBy_alloc wr _ none) (fun r e => by cases e)
          have hBa2 : KeepB B W (wr.alloc (.cells #[.int .u64 (wN a0), .int .u64 (wN a1), .int .u64 (wN a2), .int .u64 (wN a3)] 112)) := hB2.alloc hBn _
          by_cases hj1 : j < 255
          · have hj0 : (0 : Int) ≤ (j : Int) + 1 := by omega
            have hj255 : (j : Int) + 1 ≤ 255 := by omega
            cases hh2 : (⟨a0, a1, a2, a3⟩ : BS).has (j + 1) with
            | true =>
              have hgo := BS.runEnd_go ⟨a0, a1, a2, a3⟩ j hj1 hh2
              rw [HR2.out] at hgo
              have HGO := Lib.hid hgo
              have HH2 := Lib.hid hh2
              clear hgo hh2
              gi_wp2_with (gi_at_call 141; refine (callsIn_wide.2 (Has_any a0 a1 a2 a3 ((j : Int) + 1) hj0 hj255 _)).mono ?_; rintro e w' ⟨rfl, rfl⟩; rw [show ((j : Int) + 1).toNat = j + 1 from rfl, HH2.out])
              go_roundw
              case rel => exact ⟨j + 1, by omega, by omega, by go_num, HGO.out.symm, hJa2, hBa2⟩
              case measure => simp [intOf]; omega
            | false =>
              have hnot : ¬ (j < 255 ∧ (⟨a0, a1, a2, a3⟩ : BS).has (j + 1) = true) := fun h => by rw [hh2] at h; exact absurd h.2 (by decide)
              have HH2 := Lib.hid hh2
              clear hh2
              have hE : (⟨a0, a1, a2, a3⟩ : BS).runEnd k = j := by rw [← HR2.out]; exact BS.runEnd_stop _ j (by exact hnot)
              have hlen : pre.length < 256 := by
                have h1 := congrArg List.length HP.out
                have h2 := (⟨a0, a1, a2, a3⟩ : BS).runsFrom_len 0
                unfold BS.runs at h1
                simp only [List.length_append, List.length_cons] at h1
                omega
              obtain ⟨fn, tmps, assign, body, hy, hR⟩ := hY pre ⟨k, j, hlt, hj⟩ _ hJa2 hlen
              have HP2 : Hid ((pre ++ [(⟨k, j, hlt, hj⟩ : Rn)]) ++ (⟨a0, a1, a2, a3⟩ : BS).runsFrom (j + 1) = (⟨a0, a1, a2, a3⟩ : BS).runs) := by
                have h := HP.out
                simp only [hE] at h
                rw [List.append_assoc]; exact h
              dsimp only [encR] at hy
              have HR := Lib.hid hR
              have HE := Lib.hid hE
              clear hE hR
              gi_wp2_with (gi_at_call 141; refine (callsIn_wide.2 (Has_any a0 a1 a2 a3 ((j : Int) + 1) hj0 hj255 _)).mono ?_; rintro e w' ⟨rfl, rfl⟩; rw [show ((j : Int) + 1).toNat = j + 1 from rfl, HH2.out])
              refine HR.out.mono ?_
              rintro e W3 (⟨rfl, hJ3, hk3⟩ | ⟨rfl, hJx3⟩)
              · gi_wp2
                go_roundw
                case rel => exact ⟨j + 1, _, by omega, by go_num, HP2.out, hJ3, hBa2.trans hk3⟩
                case measure => simp [intOf]; omega
              · gi_wp2
                refine bodyPost_ret (results_none rfl _ _ _) rfl ?_
                exact ⟨⟨_, rfl⟩, .inr ⟨_, ⟨_, HP2.out⟩, hJx3⟩⟩
          · have hnot : ¬ (j < 255 ∧ (⟨a0, a1, a2, a3⟩ : BS).has (j + 1) = true) := fun h => hj1 h.1
            have hj255 : 255 ≤ (j : Int) := by omega
            have hE : (⟨a0, a1, a2, a3⟩ : BS).runEnd k = j := by rw [← HR2.out]; exact BS.runEnd_stop _ j (by exact hnot)
            have hlen : pre.length < 256 := by
              have h1 := congrArg List.length HP.out
              have h2 := (⟨a0, a1, a2, a3⟩ : BS).runsFrom_len 0
              unfold BS.runs at h1
              simp only [List.length_append, List.length_cons] at h1
              omega
            obtain ⟨fn, tmps, assign, body, hy, hR⟩ := hY pre ⟨k, j, hlt, hj⟩ _ hJ2 hlen
            have HP2 : Hid ((pre ++ [(⟨k, j, hlt, hj⟩ : Rn)]) ++ (⟨a0, a1, a2, a3⟩ : BS).runsFrom (j + 1) = (⟨a0, a1, a2, a3⟩ : BS).runs) := by
              have h := HP.out
              simp only [hE] at h
              rw [List.append_assoc]; exact h
            dsimp only [encR] at hy
            have HR := Lib.hid hR
            have HE := Lib.hid hE
            clear hE hR
            gi_wp2
            refine HR.out.mono ?_
            rintro e W3 (⟨rfl, hJ3, hk3⟩ | ⟨rfl, hJx3⟩)
            · gi_wp2
              go_roundw
              case rel => exact ⟨j + 1, _, by omega, by go_num, HP2.out, hJ3, hB2.trans hk3⟩
              case measure => simp [intOf]; omega
            · gi_wp2
              refine bodyPost_ret (results_none rfl _ _ _) rfl ?_
              exact ⟨⟨_, rfl⟩, .inr ⟨_, ⟨_, HP2.out⟩, hJx3⟩⟩
    · obtain rfl : k = 256 := by omega
      rw [BS.runsFrom_end _ 256 (Nat.le_refl _), List.append_nil] at hpre
      have HP := Lib.hid hpre
      clear hpre
      gi_wp2
      go_end0
      exact ⟨⟨_, rfl⟩, .inl ⟨_, HP.out, hJs⟩⟩

theorem Runs_any (a0 a1 a2 a3 : BitVec 64) (w : World) :
    Calls Tryz.prog 102 #[.agg #[.int .u64 (wN a0), .int .u64 (wN a1), .int .u64 (wN a2), .int .u64 (wN a3)]] w fun e w' => e = .returned (.func (.func 140) #[] #[.pointer (some ⟨w.heap.size, 0, none⟩)]) ∧ w' = w.alloc (.cells #[.int .u64 (wN a0), .int .u64 (wN a1), .int .u64 (wN a2), .int .u64 (wN a3)] 112) := by
  go_enter Tryz.func102, Tryz.ntmps102
  go_wp2
  go_ret
  exact ⟨rfl, rfl⟩
/-- what s.Runs() hands back hands on the runs of s, in order -/
theorem Runs_stops (n B : Nat) (s : BS) (w : World) (hBn : B < w.heap.size) (hbox : BoxS w B s) :
    SeqStopsK Fence.wide n Tryz.prog 140 #[.pointer (some ⟨B, 0, none⟩)] encR (KeepB B) (fun xs => xs = s.runs) (fun pre => pre <+: s.runs) 256 w :=
  fun l J Jx W hW hJ _ hY h0 => RunsLit_in n l B s J Jx W (by have := hW.size; omega) (hbox.later hW hBn) hJ hY h0
end Go.Proofs.YticpjjmacmmpjaaGreatDoor
