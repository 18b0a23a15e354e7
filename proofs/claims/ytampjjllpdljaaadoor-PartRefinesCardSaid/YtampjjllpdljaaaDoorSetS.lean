/-
  The statements' own two helpers, walked through the program: a set as yes or no of each byte; whether a set is just that.
-/
import Derived.Test.YtampjjllpdljaaaDoorSetO
set_option linter.unusedSimpArgs false
set_option linter.unusedVariables false
set_option maxRecDepth 100000
namespace Go.Proofs.YtampjjllpdljaaaDoor
open Go.RowKit

/-- of 256 yes or no, in a row of the call's own -/
def boolsL (f : Nat → Bool) : List Value := (List.range 256).map fun i => .bool (f i)
/-- the slice v holds, from its own block's head on, the yes or no f of 256 bytes -/
def HoldsB (w : World) (v : Value) (f : Nat → Bool) : Prop := ∃ g, v = .slice (some ⟨g, 0, none⟩) 256 256 ∧ ∀ i, i < 256 → w.cell? ⟨g, i, none⟩ = some (.bool (f i))
theorem HoldsB.later {w w1 : World} {v : Value} {f : Nat → Bool} (h : HoldsB w v f) (hb : Below w.heap.size w w1) : HoldsB w1 v f := by
  obtain ⟨g, hv, hc⟩ := h
  refine ⟨g, hv, fun i hi => ?_⟩
  have := World.block_lt_of_cell? w _ (hc i hi)
  rw [hb.cell (p := ⟨g, i, none⟩) this]; exact hc i hi

def BS.eqv (s : BS) (f : Nat → Bool) : Bool := (List.range 256).all fun i => s.has i == f i
theorem BS.eqv_iff (s : BS) (f : Nat → Bool) : s.eqv f = true ↔ ∀ i, i < 256 → s.has i = f i := by simp [BS.eqv, List.all_eq_true]
def SameAt (s : BS) (f : Nat → Bool) (w : World) (i : Value) (wr : World) : Prop :=
  ∃ k : Nat, k ≤ 256 ∧ i = .int .i64 k ∧ (∀ j, j < k → s.has j = f j) ∧ Below (w.heap.size + 1) (w.alloc (.cells #[.int .u64 (wN s.a), .int .u64 (wN s.b), .int .u64 (wN s.c), .int .u64 (wN s.d)] 24)) wr
set_option maxRecDepth 100000 in
set_option maxHeartbeats 800000 in
theorem same_any (a0 a1 a2 a3 : BitVec 64) (v : Value) (f : Nat → Bool) (w : World) (hv : HoldsB w v f) :
    Calls Tryd.prog 8 #[.agg #[.int .u64 (wN a0), .int .u64 (wN a1), .int .u64 (wN a2), .int .u64 (wN a3)], v] w fun e w' => e = .returned (.bool ((⟨a0, a1, a2, a3⟩ : BS).eqv f)) ∧ Below w.heap.size w w' := by
  obtain ⟨g, rfl, hc⟩ := hv
  have HC := Lib.hid hc
  clear hc
  have hg := World.block_lt_of_cell? w _ (HC.out 0 (by omega))
  have hg' : g < w.heap.size := hg
  clear hg
  have fin : ∀ b : Bool, (b = (⟨a0, a1, a2, a3⟩ : BS).eqv f) → Ending.returned (.bool b) = Ending.returned (.bool ((⟨a0, a1, a2, a3⟩ : BS).eqv f)) := fun b h => by rw [h]
  have FIN := Lib.hid fin
  clear fin
  go_enter Tryd.func8, Tryd.ntmps8
  go_wp2_with fail
  go_loopw [5] (fun i wr => SameAt ⟨a0, a1, a2, a3⟩ f w i wr) (fun i _ => 256 - (intOf i).toNat)
  case atStart => exact ⟨0, by omega, rfl, fun j h => by omega, Below.refl _ _⟩
  case round =>
    obtain ⟨k, hk, rfl, hsame, hB⟩ := hrel
    have HSAME := Lib.hid hsame
    clear hsame
    dsimp only at hB
    by_cases hlt : k < 256
    · have hk255 : (k : Int) ≤ 255 := by omega
      have hwant : wr.cell? ⟨g, k, none⟩ = some (.bool (f k)) := by
        rw [hB.cell (p := ⟨g, k, none⟩) (by simp; omega), World.cell?_alloc_old _ _ _ (by simp; omega)]; exact HC.out k hlt
      have w0 : wr.cell? ⟨w.heap.size, 0, none⟩ = some (.int .u64 (wN a0)) := by rw [hB.cell (p := ⟨w.heap.size, 0, none⟩) (by simp)]; simp
      have w1 : wr.cell? ⟨w.heap.size, 1, none⟩ = some (.int .u64 (wN a1)) := by rw [hB.cell (p := ⟨w.heap.size, 1, none⟩) (by simp)]; simp
      have w2 : wr.cell? ⟨w.heap.size, 2, none⟩ = some (.int .u64 (wN a2)) := by rw [hB.cell (p := ⟨w.heap.size, 2, none⟩) (by simp)]; simp
      have w3 : wr.cell? ⟨w.heap.size, 3, none⟩ = some (.int .u64 (wN a3)) := by rw [hB.cell (p := ⟨w.heap.size, 3, none⟩) (by simp)]; simp
      have hsz : w.heap.size + 1 ≤ wr.heap.size := by have := hB.size; simp at this; omega
      go_wp2_with fail
      have hk0 : (0 : Int) ≤ k := by omega
      by_cases he : (⟨a0, a1, a2, a3⟩ : BS).has k = f k
      · have hq : ((⟨a0, a1, a2, a3⟩ : BS).has k == f k) = true := by simp [he]
        have HE := Lib.hid he
        clear he
        have hwr : IntKind.u8.wrap (k : Int) = (k : Int) := IntWalk.u8_in _ ⟨hk0, hk255⟩
        go_region_held3 (fun w' => w'.cell? ⟨g, k, none⟩ = some (.bool (f k)) ∧ w'.cell? ⟨w.heap.size, 0, none⟩ = some (.int .u64 (wN a0)) ∧ w'.cell? ⟨w.heap.size, 1, none⟩ = some (.int .u64 (wN a1)) ∧ w'.cell? ⟨w.heap.size, 2, none⟩ = some (.int .u64 (wN a2)) ∧ w'.cell? ⟨w.heap.size, 3, none⟩ = some (.int .u64 (wN a3))) (go_keep) ((go_at_call 18; refine (Has_any a0 a1 a2 a3 k hk0 hk255 _).mono ?_; rintro e w' ⟨rfl, rfl⟩))
        clear hwr
        go_wp2
        go_roundw
        case rel => exact ⟨k + 1, by omega, by go_num, fun j hj => if h : j < k then HSAME.out j h else (show j = k by omega) ▸ HE.out, (hB.alloc hsz _).drew⟩
        case measure => simp [intOf]; omega
      · have hq : ((⟨a0, a1, a2, a3⟩ : BS).has k == f k) = false := by simp [he]
        have HE := Lib.hid he
        clear he
        have hwr : IntKind.u8.wrap (k : Int) = (k : Int) := IntWalk.u8_in _ ⟨hk0, hk255⟩
        go_region_held3 (fun w' => w'.cell? ⟨g, k, none⟩ = some (.bool (f k)) ∧ w'.cell? ⟨w.heap.size, 0, none⟩ = some (.int .u64 (wN a0)) ∧ w'.cell? ⟨w.heap.size, 1, none⟩ = some (.int .u64 (wN a1)) ∧ w'.cell? ⟨w.heap.size, 2, none⟩ = some (.int .u64 (wN a2)) ∧ w'.cell? ⟨w.heap.size, 3, none⟩ = some (.int .u64 (wN a3))) (go_keep) ((go_at_call 18; refine (Has_any a0 a1 a2 a3 k hk0 hk255 _).mono ?_; rintro e w' ⟨rfl, rfl⟩))
        clear hwr
        go_wp2
        go_ret
        refine ⟨FIN.out false ?_, ?_⟩
        · symm
          apply Bool.eq_false_iff.2
          intro h
          exact HE.out ((BS.eqv_iff _ _).1 h k hlt)
        · exact (((ext_alloc (Below.refl _ w) _).trans (hB.mono (by omega))).alloc (by omega) _).drew
    · obtain rfl : k = 256 := by omega
      go_wp2
      go_ret
      refine ⟨FIN.out true ?_, (ext_alloc (Below.refl _ w) _).trans (hB.mono (by omega))⟩
      exact ((BS.eqv_iff _ _).2 HSAME.out).symm

end Go.Proofs.YtampjjllpdljaaaDoor
