/-
  The iterator over a set's runs, walked through the program: it hands on each run of the set, in order, and stops where it is told to.
-/
import Derived.Test.YtpajpjocakhcdaaGreatDoorSetL
import Derived.RangeFuncNested
import Derived.RangeFuncBound
import Derived.RangeFuncCalls
import Derived.RangeFuncLeaves
import Derived.RangeFuncFrom
import Derived.Shelf.Abstract
import Derived.Shelf.RegionOpen
import Derived.OwnWalkIn
import Derived.TacticsInMore
import Derived.LoopNIn
import Derived.LoopIn
set_option linter.unusedSimpArgs false
set_option linter.unusedVariables false
set_option maxRecDepth 100000
set_option linter.unnecessarySimpa false
namespace Go.Proofs.YtpajpjocakhcdaaGreatDoor
open Go.RowKit Go.Shelf
attribute [local go_sem] Oper.semAt_some

theorem wide_fn (f : FuncId) : Fence.wide.fn f = True := rfl
theorem wide_depth : Fence.wide.depth = none := rfl
attribute [local go_sem] wide_fn wide_depth
theorem wd {k : Nat} : Fence.wide.depth.isSome = true → 1 ≤ k := fun h => by cases h
/-- block B lies as it lay -/
structure KeepB (B : Nat) (W W' : World) : Prop where
  size : W.heap.size ≤ W'.heap.size
  block : W'.heap[B]? = W.heap[B]?
theorem KeepB.refl (B : Nat) (W : World) : KeepB B W W := ⟨Nat.le_refl _, rfl⟩
theorem KeepB.trans {B : Nat} {X Y Z : World} (h : KeepB B X Y) (k : KeepB B Y Z) : KeepB B X Z := ⟨Nat.le_trans h.size k.size, k.block.trans h.block⟩
theorem KeepB.alloc {B : Nat} {X Y : World} (h : KeepB B X Y) (hB : B < X.heap.size) (o : Obj) : KeepB B X (Y.alloc o) :=
  ⟨by have := h.size; simp; omega, (Below.heap_alloc _ _ _ (by have := h.size; omega)).trans h.block⟩
theorem KeepB.setCell {B : Nat} {X Y : World} (h : KeepB B X Y) {p : Addr} (hp : B ≠ p.block) (v : Value) : KeepB B X (Y.setCell p v) :=
  ⟨by have := h.size; simp; omega, (Below.heap_setCell _ _ _ _ hp).trans h.block⟩
theorem KeepB.drew {B : Nat} {X Y : World} (h : KeepB B X Y) : KeepB B X Y.drew := ⟨h.size, h.block⟩
theorem KeepB.step {B : Nat} {X Y Z : World} (h : KeepB B X Y) (hB : B < X.heap.size) (hb : Below Y.heap.size Y Z) : KeepB B X Z :=
  ⟨Nat.le_trans h.size hb.size, (hb.block B (by have := h.size; omega)).trans h.block⟩
theorem keepB_t {B : Nat} {X Y Z : World} (h : KeepB B X Y) (k : KeepB B Y Z) : KeepB B X Z := h.trans k
theorem keepB_b {B : Nat} {w : World} (hB : B < w.heap.size) (W : World) (l : Nat) (o o' : Obj) (hl : w.heap.size ≤ l) (h : W.heap[l]? = some o) (_ : o.isCells = false) (_ : o.isWalk = false) : KeepB B W (W.putObj l o') :=
  ⟨by simp, World.putObj_heap_other (by omega)⟩
abbrev encB (x : Byt) : Array Value := #[.int .u8 (x.n : Int)]
/-- the box at block b holds the four words -/
def BoxS (w : World) (b : Nat) (s : BS) : Prop :=
  w.cell? ⟨b, 0, none⟩ = some (.int .u64 (wN s.a)) ∧ w.cell? ⟨b, 1, none⟩ = some (.int .u64 (wN s.b)) ∧ w.cell? ⟨b, 2, none⟩ = some (.int .u64 (wN s.c)) ∧ w.cell? ⟨b, 3, none⟩ = some (.int .u64 (wN s.d))
theorem BoxS.later {B : Nat} {w w1 : World} {b : Nat} {s : BS} (h : BoxS w b s) (hb : Below B w w1) (hlt : b < B) : BoxS w1 b s :=
  ⟨(hb.cell (p := ⟨b, 0, none⟩) hlt).trans h.1, (hb.cell (p := ⟨b, 1, none⟩) hlt).trans h.2.1, (hb.cell (p := ⟨b, 2, none⟩) hlt).trans h.2.2.1, (hb.cell (p := ⟨b, 3, none⟩) hlt).trans h.2.2.2⟩
theorem BoxS.kept {w w1 : World} {b : Nat} {s : BS} (h : BoxS w b s) (hb : KeepB b w w1) : BoxS w1 b s :=
  ⟨(World.cell?_of_block (w := w) hb.block).trans h.1, (World.cell?_of_block (w := w) hb.block).trans h.2.1, (World.cell?_of_block (w := w) hb.block).trans h.2.2.1, (World.cell?_of_block (w := w) hb.block).trans h.2.2.2⟩
theorem BoxS.new (w : World) (a0 a1 a2 a3 : BitVec 64) : BoxS (w.alloc (.cells #[.int .u64 (wN a0), .int .u64 (wN a1), .int .u64 (wN a2), .int .u64 (wN a3)] 54)) w.heap.size ⟨a0, a1, a2, a3⟩ :=
  ⟨by simp, by simp, by simp, by simp⟩
abbrev encR (x : Rn) : Array Value := #[.int .u8 (x.a : Int), .int .u8 (x.b : Int)]
def RunsAt (s : BS) (B : Nat) (W : World) (J : List Rn → World → Prop) (i : Value) (wr : World) : Prop :=
  ∃ (k : Nat) (pre : List Rn), k ≤ 256 ∧ i = .int .i64 k ∧ pre ++ s.runsFrom k = s.runs ∧ J pre wr ∧ KeepB B W wr
def RunIn (s : BS) (B : Nat) (W : World) (J : List Rn → World → Prop) (pre : List Rn) (f : Nat) (i : Value) (wr : World) : Prop :=
  ∃ k : Nat, f ≤ k ∧ k < 256 ∧ i = .int .i64 k ∧ s.runEnd k = s.runEnd f ∧ J pre wr ∧ KeepB B W wr
set_option maxRecDepth 100000 in
set_option maxHeartbeats 2000000 in
theorem RunsLit_in (n l B : Nat) (s : BS) (J Jx : List Rn → World → Prop) (W : World) (hBn : B < W.heap.size) (hbox : BoxS W B s) (hJ : AbidesFrom W.heap.size J)
    (hY : ∀ pre x W1, J pre W1 → pre.length < 256 → YieldAt Fence.wide (n - 1) Tryz.prog l (encR x) W1 fun e W' =>
      (e = .returned (.bool true) ∧ J (pre ++ [x]) W' ∧ KeepB B W1 W') ∨ (e = .returned (.bool false) ∧ Jx (pre ++ [x]) W'))
    (h0 : J [] W) :
    CallsIn Fence.wide n Tryz.prog 116 #[.func (.yield l) #[] #[], .pointer (some ⟨B, 0, none⟩)] W fun e W' => (∃ v, e = .returned v) ∧
      ((∃ xs, xs = s.runs ∧ J xs W') ∨ (∃ pre, pre <+: s.runs ∧ Jx pre W')) := by
  obtain ⟨a0, a1, a2, a3⟩ := s
  refine callsIn_of_wp Tryz.func116 rfl trivial ?_ rfl
  simp only [Tryz.ntmps116, List.size_toArray, List.length_cons, List.length_nil, Nat.reduceAdd, Nat.reduceSub, Array.replicate_succ, Array.replicate_zero, List.push_toArray, List.append_toArray, List.nil_append, List.cons_append]
  gi_wp2
  gi_loopw [3] (fun i wr => RunsAt ⟨a0, a1, a2, a3⟩ B W J i wr) (fun i _ => 256 - (intOf i).toNat)
  case atStart => exact ⟨0, [], by omega, rfl, rfl, h0, KeepB.refl _ _⟩
  case round =>
    obtain ⟨k, pre, hk, rfl, hpre, hJs, hB⟩ := hrel
    by_cases hlt : k < 256
    · have hk0 : (0 : Int) ≤ k := by omega
      have hk255 : (k : Int) ≤ 255 := by omega
      obtain ⟨c0, c1, c2, c3⟩ := hbox.kept hB
      dsimp only at c0 c1 c2 c3
      have hsz : W.heap.size ≤ wr.heap.size := hB.size
      have hJa := hJ _ wr (wr.alloc (.cells #[.int .u64 (wN a0), .int .u64 (wN a1), .int .u64 (wN a2), .int .u64 (wN a3)] 54)) none hJs (World.grownBy_alloc wr _ none) (fun r e => by cases e)
      have hBa : KeepB B W (wr.alloc (.cells #[.int .u64 (wN a0), .int .u64 (wN a1), .int .u64 (wN a2), .int .u64 (wN a3)] 54)) := hB.alloc hBn _
      cases hhas : (⟨a0, a1, a2, a3⟩ : BS).has k with
      | false =>
        rw [BS.runsFrom_no _ k hlt hhas] at hpre
        have HP := Lib.hid hpre
        clear hpre
        have HH := Lib.hid hhas
        clear hhas
        gi_wp2_with (gi_at_call 117; refine (callsIn_wide.2 (Has_any a0 a1 a2 a3 k hk0 hk255 _)).mono ?_; rintro e w' ⟨rfl, rfl⟩; rw [Int.toNat_natCast, HH.out])
        go_roundw
        case rel => exact ⟨k + 1, pre, by omega, by go_num, HP.out, hJa, hBa⟩
        case measure => simp [intOf]; omega
      | true =>
        rw [BS.runsFrom_yes _ k hlt hhas] at hpre
        have HP := Lib.hid hpre
        clear hpre
        have HH := Lib.hid hhas
        clear hhas
        gi_wp2_with (gi_at_call 117; refine (callsIn_wide.2 (Has_any a0 a1 a2 a3 k hk0 hk255 _)).mono ?_; rintro e w' ⟨rfl, rfl⟩; rw [Int.toNat_natCast, HH.out])
        have HJa := hJa
        gi_loopw [3] (fun i wr => RunIn ⟨a0, a1, a2, a3⟩ B W J pre k i wr) (fun i _ => 256 - (intOf i).toNat)
        case atStart => exact ⟨k, by omega, hlt, rfl, rfl, hJa, hBa⟩
        case round =>
          clear hJa hBa HJa c0 c1 c2 c3 hsz hB hJs
          obtain ⟨j, hkj, hj, rfl, hrun, hJ2, hB2⟩ := hrel
          have HR2 := Lib.hid hrun
          clear hrun
          obtain ⟨c0, c1, c2, c3⟩ := hbox.kept hB2
          dsimp only at c0 c1 c2 c3
          have hsz2 : W.heap.size ≤ wr.heap.size := hB2.size
          have hJa2 := hJ _ wr (wr.alloc (.cells #[.int .u64 (wN a0), .int .u64 (wN a1), .int .u64 (wN a2), .int .u64 (wN a3)] 54)) none hJ2 (World.grownBy_alloc wr _ none) (fun r e => by cases e)
          have hBa2 : KeepB B W (wr.alloc (.cells #[.int .u64 (wN a0), .int .u64 (wN a1), .int .u64 (wN a2), .int .u64 (wN a3)] 54)) := hB2.alloc hBn _
          by_cases hj1 : j < 255
          · have hj0 : (0 : Int) ≤ (j : Int) + 1 := by omega
            have hj255 : (j : Int) + 1 ≤ 255 := by omega
            cases hh2 : (⟨a0, a1, a2, a3⟩ : BS).has (j + 1) with
            | true =>
              have hgo := BS.runEnd_go ⟨a0, a1, a2, a3⟩ j hj1 hh2
              rw [HR2.out] at hgo
              have HGO := Lib.hid hgo
              have HH2 := Lib.hid hh2
              clear hgo hh2
              gi_wp2_with (gi_at_call 117; refine (callsIn_wide.2 (Has_any a0 a1 a2 a3 ((j : Int) + 1) hj0 hj255 _)).mono ?_; rintro e w' ⟨rfl, rfl⟩; rw [show ((j : Int) + 1).toNat = j + 1 from rfl, HH2.out])
              go_roundw
              case rel => exact ⟨j + 1, by omega, by omega, by go_num, HGO.out.symm, hJa2, hBa2⟩
              case measure => simp [intOf]; omega
            | false =>
              have hnot : ¬ (j < 255 ∧ (⟨a0, a1, a2, a3⟩ : BS).has (j + 1) = true) := fun h => by rw [hh2] at h; exact absurd h.2 (by decide)
              have HH2 := Lib.hid hh2
              clear hh2
              have hE : (⟨a0, a1, a2, a3⟩ : BS).runEnd k = j := by rw [← HR2.out]; exact BS.runEnd_stop _ j (by exact hnot)
              have hlen : pre.length < 256 := by
                have h1 := congrArg List.length HP.out
                have h2 := (⟨a0, a1, a2, a3⟩ : BS).runsFrom_len 0
                unfold BS.runs at h1
                simp only [List.length_append, List.length_cons] at h1
                omega
              obtain ⟨fn, tmps, assign, body, hy, hR⟩ := hY pre ⟨k, j, hlt, hj⟩ _ hJa2 hlen
              have HP2 : Hid ((pre ++ [(⟨k, j, hlt, hj⟩ : Rn)]) ++ (⟨a0, a1, a2, a3⟩ : BS).runsFrom (j + 1) = (⟨a0, a1, a2, a3⟩ : BS).runs) := by
                have h := HP.out
                simp only [hE] at h
                rw [List.append_assoc]; exact h
              dsimp only [encR] at hy
              have HR := Lib.hid hR
              have HE := Lib.hid hE
              clear hE hR
              gi_wp2_with (gi_at_call 117; refine (callsIn_wide.2 (Has_any a0 a1 a2 a3 ((j : Int) + 1) hj0 hj255 _)).mono ?_; rintro e w' ⟨rfl, rfl⟩; rw [show ((j : Int) + 1).toNat = j + 1 from rfl, HH2.out])
              refine HR.out.mono ?_
              rintro e W3 (⟨rfl, hJ3, hk3⟩ | ⟨rfl, hJx3⟩)
              · gi_wp2
                go_roundw
                case rel => exact ⟨j + 1, _, by omega, by go_num, HP2.out, hJ3, hBa2.trans hk3⟩
                case measure => simp [intOf]; omega
              · gi_wp2
                refine bodyPost_ret (results_none rfl _ _ _) rfl ?_
                exact ⟨⟨_, rfl⟩, .inr ⟨_, ⟨_, HP2.out⟩, hJx3⟩⟩
          · have hnot : ¬ (j < 255 ∧ (⟨a0, a1, a2, a3⟩ : BS).has (j + 1) = true) := fun h => hj1 h.1
            have hj255 : 255 ≤ (j : Int) := by omega
            have hE : (⟨a0, a1, a2, a3⟩ : BS).runEnd k = j := by rw [← HR2.out]; exact BS.runEnd_stop _ j (by exact hnot)
            have hlen : pre.length < 256 := by
              have h1 := congrArg List.length HP.out
              have h2 := (⟨a0, a1, a2, a3⟩ : BS).runsFrom_len 0
              unfold BS.runs at h1
              simp only [List.length_append, List.length_cons] at h1
              omega
            obtain ⟨fn, tmps, assign, body, hy, hR⟩ := hY pre ⟨k, j, hlt, hj⟩ _ hJ2 hlen
            have HP2 : Hid ((pre ++ [(⟨k, j, hlt, hj⟩ : Rn)]) ++ (⟨a0, a1, a2, a3⟩ : BS).runsFrom (j + 1) = (⟨a0, a1, a2, a3⟩ : BS).runs) := by
              have h := HP.out
              simp only [hE] at h
              rw [List.append_assoc]; exact h
            dsimp only [encR] at hy
            have HR := Lib.hid hR
            have HE := Lib.hid hE
            clear hE hR
            gi_wp2
            refine HR.out.mono ?_
            rintro e W3 (⟨rfl, hJ3, hk3⟩ | ⟨rfl, hJx3⟩)
            · gi_wp2
              go_roundw
              case rel => exact ⟨j + 1, _, by omega, by go_num, HP2.out, hJ3, hB2.trans hk3⟩
              case measure => simp [intOf]; omega
            · gi_wp2
              refine bodyPost_ret (results_none rfl _ _ _) rfl ?_
              exact ⟨⟨_, rfl⟩, .inr ⟨_, ⟨_, HP2.out⟩, hJx3⟩⟩
    · obtain rfl : k = 256 := by omega
      rw [BS.runsFrom_end _ 256 (Nat.le_refl _), List.append_nil] at hpre
      have HP := Lib.hid hpre
      clear hpre
      gi_wp2
      go_end0
      exact ⟨⟨_, rfl⟩, .inl ⟨_, HP.out, hJs⟩⟩

theorem Runs_any (a0 a1 a2 a3 : BitVec 64) (w : World) :
    Calls Tryz.prog 101 #[.agg #[.int .u64 (wN a0), .int .u64 (wN a1), .int .u64 (wN a2), .int .u64 (wN a3)]] w fun e w' => e = .returned (.func (.func 116) #[] #[.pointer (some ⟨w.heap.size, 0, none⟩)]) ∧ w' = w.alloc (.cells #[.int .u64 (wN a0), .int .u64 (wN a1), .int .u64 (wN a2), .int .u64 (wN a3)] 54) := by
  go_enter Tryz.func101, Tryz.ntmps101
  go_wp2
  go_ret
  exact ⟨rfl, rfl⟩
/-- what s.Runs() hands back hands on the runs of s, in order -/
theorem Runs_stops (n B : Nat) (s : BS) (w : World) (hBn : B < w.heap.size) (hbox : BoxS w B s) :
    SeqStopsK Fence.wide n Tryz.prog 116 #[.pointer (some ⟨B, 0, none⟩)] encR (KeepB B) (fun xs => xs = s.runs) (fun pre => pre <+: s.runs) 256 w :=
  fun l J Jx W hW hJ _ hY h0 => RunsLit_in n l B s J Jx W (by have := hW.size; omega) (hbox.later hW hBn) hJ hY h0
end Go.Proofs.YtpajpjocakhcdaaGreatDoor
