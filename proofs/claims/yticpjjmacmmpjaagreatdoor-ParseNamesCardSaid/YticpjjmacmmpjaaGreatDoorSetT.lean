/-
  The least byte of a set, walked through the program: for whatever set; the library's table is read as its initialiser lays it.
-/
import Derived.Test.YticpjjmacmmpjaaGreatDoorSetX
import Derived.Shelf.Spec.TrailingZeros
import Derived.Shelf.Lay
set_option linter.unusedSimpArgs false
set_option linter.unusedVariables false
set_option maxRecDepth 100000
set_option linter.unnecessarySimpa false
namespace Go.Proofs
open Go.Shelf in
def Tryz.lays29_ren : Go.Shelf.Ren := ⟨fun | 29 => 136 | n => n, fun | 22 => 75 | 3 => 3 | 4 => 4 | 25 => 24 | 54 => 193 | 0 => 0 | 5 => 5 | n => n, fun | 1 => 1 | n => n⟩
open Go.Shelf in
theorem Tryz.lays29 : Go.Proofs.Lays7.n29 Tryz.prog Tryz.lays29_ren := {
  mixed := by kernel_rfl
  f29 := Tryz.func136.trans (congrArg some (by kernel_rfl))
  t0 := Tryz.underlying0
  a0 := Tryz.isAgg0
  z0 := Tryz.sizeOf0
  v0 := Tryz.zeroValue0
  i0 := by kernel_rfl
  t3 := Tryz.underlying3
  a3 := Tryz.isAgg3
  z3 := Tryz.sizeOf3
  v3 := Tryz.zeroValue3
  i3 := by kernel_rfl
  t4 := Tryz.underlying4
  a4 := Tryz.isAgg4
  z4 := Tryz.sizeOf4
  v4 := Tryz.zeroValue4
  i4 := by kernel_rfl
  t5 := Tryz.underlying5
  a5 := Tryz.isAgg5
  z5 := Tryz.sizeOf5
  v5 := Tryz.zeroValue5
  i5 := by kernel_rfl
  t22 := Tryz.underlying75
  a22 := Tryz.isAgg75
  z22 := Tryz.sizeOf75
  v22 := Tryz.zeroValue75
  i22 := by kernel_rfl
  t25 := Tryz.underlying24
  a25 := Tryz.isAgg24
  z25 := Tryz.sizeOf24
  v25 := Tryz.zeroValue24
  i25 := by kernel_rfl
  t54 := Tryz.underlying193
  a54 := Tryz.isAgg193
  z54 := Tryz.sizeOf193
  g1 := by kernel_rfl }
namespace YticpjjmacmmpjaaGreatDoor
open Go.RowKit Go.Shelf

/-- the library's table lies as its initialiser lays it -/
def Tab (w : World) : Prop := TabAt (Tryz.lays29_ren.g 1) Lib.deBruijn64tab w
theorem Tab.later {w w1 : World} (h : Tab w) (hb : Below w.heap.size w w1) : Tab w1 := fun j hj => by
  have hc := h j hj
  have := World.block_lt_of_cell? w _ hc
  rw [hb.cell (p := ⟨_, j, none⟩) this]; exact hc
theorem Tab.alloc {w : World} (h : Tab w) (o : Obj) : Tab (w.alloc o) := h.later (ext_alloc (Below.refl _ _) o)
theorem Tab.drew {w : World} (h : Tab w) : Tab w.drew := h.later (Below.refl _ _).drew
theorem TZ (x : BitVec 64) (w : World) (h : Tab w) : Calls Tryz.prog 136 #[.int .u64 (wN x)] w fun e w' => e = .returned (.int .i64 (Lib.ctz 64 x.toNat : Nat)) ∧ w' = w :=
  Any7.bits_TrailingZeros64 Tryz.lays29 x.toNat x.isLt w (fun _ => h)
theorem ctz_lt (x : BitVec 64) (h : x ≠ 0) : Lib.ctz 64 x.toNat < 64 := (Lib.lowest_bit 64 x.toNat (fun e => h (BitVec.eq_of_toNat_eq (by simpa using e))) x.isLt).2
def BS.least (s : BS) : Nat := if s.a ≠ 0 then Lib.ctz 64 s.a.toNat else if s.b ≠ 0 then 64 + Lib.ctz 64 s.b.toNat else if s.c ≠ 0 then 128 + Lib.ctz 64 s.c.toNat else if s.d ≠ 0 then 192 + Lib.ctz 64 s.d.toNat else 0
theorem wN_ne {x : BitVec 64} (h : x ≠ 0) : (wN x != 0) = true := by
  rw [bne_iff_ne, wN_zero]; exact fun e => h (wN_inj.1 e)
theorem wN_z : (wN 0 != 0) = false := by rw [wN_zero]; simp
set_option maxRecDepth 100000 in
set_option maxHeartbeats 1600000 in
theorem Least_any (a0 a1 a2 a3 : BitVec 64) (w : World) (hT : Tab w) :
    Calls Tryz.prog 98 #[.agg #[.int .u64 (wN a0), .int .u64 (wN a1), .int .u64 (wN a2), .int .u64 (wN a3)]] w fun e w' => e = .returned (.tuple #[.int .u8 ((⟨a0, a1, a2, a3⟩ : BS).least : Nat), .bool (decide ((⟨a0, a1, a2, a3⟩ : BS) ≠ BS.none))]) ∧ Below w.heap.size w w' := by
  have hz := wN_z
  have i0 : ∀ w, (Instr.index 112 (.agg #[.int .u64 (wN a0), .int .u64 (wN a1), .int .u64 (wN a2), .int .u64 (wN a3)]) (.int .i64 0)).run Tryz.prog w = .ok (.int .u64 (wN a0)) w := fun _ => by kernel_rfl
  have i1 : ∀ w, (Instr.index 112 (.agg #[.int .u64 (wN a0), .int .u64 (wN a1), .int .u64 (wN a2), .int .u64 (wN a3)]) (.int .i64 1)).run Tryz.prog w = .ok (.int .u64 (wN a1)) w := fun _ => by kernel_rfl
  have i2 : ∀ w, (Instr.index 112 (.agg #[.int .u64 (wN a0), .int .u64 (wN a1), .int .u64 (wN a2), .int .u64 (wN a3)]) (.int .i64 2)).run Tryz.prog w = .ok (.int .u64 (wN a2)) w := fun _ => by kernel_rfl
  have i3 : ∀ w, (Instr.index 112 (.agg #[.int .u64 (wN a0), .int .u64 (wN a1), .int .u64 (wN a2), .int .u64 (wN a3)]) (.int .i64 3)).run Tryz.prog w = .ok (.int .u64 (wN a3)) w := fun _ => by kernel_rfl
  have HT := Lib.hid (hT.alloc (.cells #[.int .u64 (wN a0), .int .u64 (wN a1), .int .u64 (wN a2), .int .u64 (wN a3)] 112))
  clear hT
  have hE : Below w.heap.size w (w.alloc (.cells #[.int .u64 (wN a0), .int .u64 (wN a1), .int .u64 (wN a2), .int .u64 (wN a3)] 112)) := by repeat (first | exact Below.refl _ _ | assumption | refine Below.drew ?_ | refine ext_drewN ?_ _ | refine ext_alloc ?_ _ | refine Below.setCell ?_ (by (try simp only [World.size_alloc, World.size_setCell, World.size_drew]); omega) _ | refine ext_step ?_ (by assumption))
  by_cases h0 : a0 = 0
  rotate_left
  · have hq := wN_ne h0
    have hk := ctz_lt a0 h0
    have HL : Hid ((⟨a0, a1, a2, a3⟩ : BS).least = Lib.ctz 64 a0.toNat) := Lib.hid (by show _ = _; unfold BS.least; dsimp only; rw [if_pos h0])
    have HNB : Hid (decide ((⟨a0, a1, a2, a3⟩ : BS) ≠ BS.none) = true) := Lib.hid (decide_eq_true (fun e => h0 (congrArg BS.a e)))
    have HTZ := Lib.hid (TZ a0)
    generalize Lib.ctz 64 a0.toNat = k at *
    rw [HL.out, HNB.out]
    have hk' : (k : Int) ≤ 63 := by omega
    clear h0 hk
    go_enter Tryz.func98, Tryz.ntmps98
    go_wp2_with fail
    refine wp_loop_rounds 1 ?_
    rw [rounds_succ]
    go_wp2_with (go_at_call 136; refine (HTZ.out _ HT.out).mono ?_; rintro e w' ⟨rfl, rfl⟩)
    go_ret2
    refine ⟨?_, hE⟩
    first | rfl | (push_cast; rfl)
  have hz0 : (wN a0 != 0) = false := by rw [h0]; exact wN_z
  by_cases h1 : a1 = 0
  rotate_left
  · have hq := wN_ne h1
    have hk := ctz_lt a1 h1
    have HL : Hid ((⟨a0, a1, a2, a3⟩ : BS).least = 64 + Lib.ctz 64 a1.toNat) := Lib.hid (by show _ = _; unfold BS.least; dsimp only; rw [if_neg (fun h => h h0), if_pos h1])
    have HNB : Hid (decide ((⟨a0, a1, a2, a3⟩ : BS) ≠ BS.none) = true) := Lib.hid (decide_eq_true (fun e => h1 (congrArg BS.b e)))
    have HTZ := Lib.hid (TZ a1)
    generalize Lib.ctz 64 a1.toNat = k at *
    rw [HL.out, HNB.out]
    have hk' : (k : Int) ≤ 63 := by omega
    clear h0 h1 hk
    go_enter Tryz.func98, Tryz.ntmps98
    go_wp2_with fail
    refine wp_loop_rounds 2 ?_
    rw [rounds_succ]
    go_wp2_with (go_at_call 136; refine (HTZ.out _ HT.out).mono ?_; rintro e w' ⟨rfl, rfl⟩)
    rw [rounds_succ]
    go_wp2_with (go_at_call 136; refine (HTZ.out _ HT.out).mono ?_; rintro e w' ⟨rfl, rfl⟩)
    go_ret2
    refine ⟨?_, hE⟩
    first | rfl | (push_cast; rfl)
  have hz1 : (wN a1 != 0) = false := by rw [h1]; exact wN_z
  by_cases h2 : a2 = 0
  rotate_left
  · have hq := wN_ne h2
    have hk := ctz_lt a2 h2
    have HL : Hid ((⟨a0, a1, a2, a3⟩ : BS).least = 128 + Lib.ctz 64 a2.toNat) := Lib.hid (by show _ = _; unfold BS.least; dsimp only; rw [if_neg (fun h => h h0), if_neg (fun h => h h1), if_pos h2])
    have HNB : Hid (decide ((⟨a0, a1, a2, a3⟩ : BS) ≠ BS.none) = true) := Lib.hid (decide_eq_true (fun e => h2 (congrArg BS.c e)))
    have HTZ := Lib.hid (TZ a2)
    generalize Lib.ctz 64 a2.toNat = k at *
    rw [HL.out, HNB.out]
    have hk' : (k : Int) ≤ 63 := by omega
    clear h0 h1 h2 hk
    go_enter Tryz.func98, Tryz.ntmps98
    go_wp2_with fail
    refine wp_loop_rounds 3 ?_
    rw [rounds_succ]
    go_wp2_with (go_at_call 136; refine (HTZ.out _ HT.out).mono ?_; rintro e w' ⟨rfl, rfl⟩)
    rw [rounds_succ]
    go_wp2_with (go_at_call 136; refine (HTZ.out _ HT.out).mono ?_; rintro e w' ⟨rfl, rfl⟩)
    rw [rounds_succ]
    go_wp2_with (go_at_call 136; refine (HTZ.out _ HT.out).mono ?_; rintro e w' ⟨rfl, rfl⟩)
    go_ret2
    refine ⟨?_, hE⟩
    first | rfl | (push_cast; rfl)
  have hz2 : (wN a2 != 0) = false := by rw [h2]; exact wN_z
  by_cases h3 : a3 = 0
  rotate_left
  · have hq := wN_ne h3
    have hk := ctz_lt a3 h3
    have HL : Hid ((⟨a0, a1, a2, a3⟩ : BS).least = 192 + Lib.ctz 64 a3.toNat) := Lib.hid (by show _ = _; unfold BS.least; dsimp only; rw [if_neg (fun h => h h0), if_neg (fun h => h h1), if_neg (fun h => h h2), if_pos h3])
    have HNB : Hid (decide ((⟨a0, a1, a2, a3⟩ : BS) ≠ BS.none) = true) := Lib.hid (decide_eq_true (fun e => h3 (congrArg BS.d e)))
    have HTZ := Lib.hid (TZ a3)
    generalize Lib.ctz 64 a3.toNat = k at *
    rw [HL.out, HNB.out]
    have hk' : (k : Int) ≤ 63 := by omega
    clear h0 h1 h2 h3 hk
    go_enter Tryz.func98, Tryz.ntmps98
    go_wp2_with fail
    refine wp_loop_rounds 4 ?_
    rw [rounds_succ]
    go_wp2_with (go_at_call 136; refine (HTZ.out _ HT.out).mono ?_; rintro e w' ⟨rfl, rfl⟩)
    rw [rounds_succ]
    go_wp2_with (go_at_call 136; refine (HTZ.out _ HT.out).mono ?_; rintro e w' ⟨rfl, rfl⟩)
    rw [rounds_succ]
    go_wp2_with (go_at_call 136; refine (HTZ.out _ HT.out).mono ?_; rintro e w' ⟨rfl, rfl⟩)
    rw [rounds_succ]
    go_wp2_with (go_at_call 136; refine (HTZ.out _ HT.out).mono ?_; rintro e w' ⟨rfl, rfl⟩)
    go_ret2
    refine ⟨?_, hE⟩
    first | rfl | (push_cast; rfl)
  have hz3 : (wN a3 != 0) = false := by rw [h3]; exact wN_z
  have HL : Hid ((⟨a0, a1, a2, a3⟩ : BS).least = 0) := Lib.hid (by show _ = _; unfold BS.least; dsimp only; rw [if_neg (fun h => h h0), if_neg (fun h => h h1), if_neg (fun h => h h2), if_neg (fun h => h h3)])
  have HNB : Hid (decide ((⟨a0, a1, a2, a3⟩ : BS) ≠ BS.none) = false) := Lib.hid (decide_eq_false (fun e => e (by rw [h0, h1, h2, h3]; rfl)))
  rw [HL.out, HNB.out]
  clear h0 h1 h2 h3
  go_enter Tryz.func98, Tryz.ntmps98
  go_wp2_with fail
  refine wp_loop_rounds 5 ?_
  rw [rounds_succ]
  go_wp2_with fail
  rw [rounds_succ]
  go_wp2_with fail
  rw [rounds_succ]
  go_wp2_with fail
  rw [rounds_succ]
  go_wp2_with fail
  rw [rounds_succ]
  go_wp2_with fail
  go_ret2
  exact ⟨rfl, hE⟩
end YticpjjmacmmpjaaGreatDoor
end Go.Proofs
