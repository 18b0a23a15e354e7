/-
  The statements' own helper 'bools', walked through the program: a set as yes or no of each byte.
-/
import Derived.Test.YtampjjllpdljaaaDoorSetS
set_option linter.unusedSimpArgs false
set_option linter.unusedVariables false
set_option maxRecDepth 100000
namespace Go.Proofs.YtampjjllpdljaaaDoor
open Go.RowKit
def rowB (f : Nat → Bool) (k : Nat) : Array Value := (Array.range 256).map fun i => if i < k then .bool (f i) else .bool false
theorem rowB_size (f : Nat → Bool) (k : Nat) : (rowB f k).size = 256 := by simp [rowB]
theorem rowB_get (f : Nat → Bool) (k i : Nat) (h : i < 256) : (rowB f k)[i]? = some (if i < k then .bool (f i) else .bool false) := by
  unfold rowB; simp [h]
theorem rowB_set (f : Nat → Bool) (k : Nat) (h : k < 256) : (rowB f k).setIfInBounds k (.bool (f k)) = rowB f (k + 1) := by
  apply Array.ext_getElem?
  intro i
  by_cases hi : i < 256
  · rw [Array.getElem?_setIfInBounds, rowB_get _ _ _ hi, rowB_get _ _ _ hi, rowB_size]
    by_cases hik : k = i
    · subst hik; simp [h]
    · rw [if_neg hik]
      have : (i < k) ↔ (i < k + 1) := by omega
      simp [this]
  · rw [Array.getElem?_eq_none (by simp [rowB_size]; omega), Array.getElem?_eq_none (by simp [rowB_size]; omega)]
def BoolsAt (s : BS) (w : World) (i : Value) (wr : World) : Prop :=
  ∃ k : Nat, k ≤ 256 ∧ i = .int .i64 k ∧ wr = (w.alloc (.cells #[.int .u64 (wN s.a), .int .u64 (wN s.b), .int .u64 (wN s.c), .int .u64 (wN s.d)] 24)).alloc (.cells (rowB s.has k) 4)
theorem makeRow (w : World) : (Instr.makeSlice 26 (.int .i64 256) (.int .i64 256)).run Tryd.prog w = .ok (.slice (some ⟨w.heap.size, 0, none⟩) 256 256) (w.alloc (.cells (rowB (fun _ => false) 0) 4)) := by
  kernel_rfl
set_option maxRecDepth 100000 in
set_option maxHeartbeats 800000 in
theorem bools_any (a0 a1 a2 a3 : BitVec 64) (w : World) :
    Calls Tryd.prog 6 #[.agg #[.int .u64 (wN a0), .int .u64 (wN a1), .int .u64 (wN a2), .int .u64 (wN a3)]] w fun e w' => ∃ v, e = .returned v ∧ HoldsB w' v (⟨a0, a1, a2, a3⟩ : BS).has ∧ Below w.heap.size w w' := by
  have hmk := makeRow
  have h0 : rowB (fun _ => false) 0 = rowB (⟨a0, a1, a2, a3⟩ : BS).has 0 := by apply Array.ext_getElem?; intro i; by_cases h : i < 256 <;> simp [rowB, h]
  rw [h0] at hmk
  clear h0
  go_enter Tryd.func6, Tryd.ntmps6
  go_wp2
  go_loopw [4] (fun i wr => BoolsAt ⟨a0, a1, a2, a3⟩ w i wr) (fun i _ => 256 - (intOf i).toNat)
  case atStart => exact ⟨0, by omega, rfl, rfl⟩
  case round =>
    obtain ⟨k, hk, rfl, rfl⟩ := hrel
    dsimp only
    by_cases hlt : k < 256
    · have hk255 : (k : Int) ≤ 255 := by omega
      have hx := cell_of_words a0 a1 a2 a3 (k / 64) (by omega) w
      have hx' : ((w.alloc (.cells #[.int .u64 (wN a0), .int .u64 (wN a1), .int .u64 (wN a2), .int .u64 (wN a3)] 24)).alloc (.cells (rowB (⟨a0, a1, a2, a3⟩ : BS).has k) 4)).cell? ⟨w.heap.size, k / 64, none⟩ = some (.int .u64 (wN ((⟨a0, a1, a2, a3⟩ : BS).wd (k / 64)))) := by
        rw [World.cell?_alloc_old _ _ _ (by simp)]; exact hx
      have hold : ((w.alloc (.cells #[.int .u64 (wN a0), .int .u64 (wN a1), .int .u64 (wN a2), .int .u64 (wN a3)] 24)).alloc (.cells (rowB (⟨a0, a1, a2, a3⟩ : BS).has k) 4)).cell? ⟨w.heap.size + 1, k, none⟩ = some (.bool false) := by
        have := World.cell?_alloc_new (w.alloc (.cells #[.int .u64 (wN a0), .int .u64 (wN a1), .int .u64 (wN a2), .int .u64 (wN a3)] 24)) (rowB (⟨a0, a1, a2, a3⟩ : BS).has k) 4 k
        rw [World.size_alloc] at this
        rw [this, rowB_get _ _ _ hlt, if_neg (by omega)]
      have hw := has_word ((⟨a0, a1, a2, a3⟩ : BS).wd (k / 64)) (k % 64) (by omega)
      have HSET := Lib.hid (rowB_set (⟨a0, a1, a2, a3⟩ : BS).has k hlt)
      have HAS : Hid ((⟨a0, a1, a2, a3⟩ : BS).has k = ((⟨a0, a1, a2, a3⟩ : BS).wd (k / 64)).getLsbD (k % 64)) := rfl
      have HW := Lib.hid hw
      clear hw hx
      generalize (⟨a0, a1, a2, a3⟩ : BS).wd (k / 64) = x at *
      generalize hf : (⟨a0, a1, a2, a3⟩ : BS).has = f at *
      have HF := Lib.hid hf
      clear hf hmk
      have hl := wN_lo x
      go_wp2
      go_roundw
      case rel => exact ⟨k + 1, by omega, by go_num, by rw [HW.out, ← HAS.out, HSET.out, ← HF.out]⟩
      case measure => simp [intOf]; omega
    · obtain rfl : k = 256 := by omega
      clear hmk
      go_wp2
      go_ret
      refine ⟨_, rfl, ⟨w.heap.size + 1, rfl, fun i hi => ?_⟩, ?_⟩
      · have := World.cell?_alloc_new (w.alloc (.cells #[.int .u64 (wN a0), .int .u64 (wN a1), .int .u64 (wN a2), .int .u64 (wN a3)] 24)) (rowB (⟨a0, a1, a2, a3⟩ : BS).has 256) 4 i
        rw [World.size_alloc] at this
        rw [this, rowB_get _ _ _ hi, if_pos hi]
      · repeat (first | exact Below.refl _ _ | assumption | refine Below.drew ?_ | refine ext_drewN ?_ _ | refine ext_alloc ?_ _ | refine Below.setCell ?_ (by (try simp only [World.size_alloc, World.size_setCell, World.size_drew]); omega) _ | refine ext_step ?_ (by assumption))
end Go.Proofs.YtampjjllpdljaaaDoor
