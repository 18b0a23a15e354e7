/-
  A number to the base 36, as the library writes it, walked through the library's text.
-/
import Derived.Test.YtpajpjocakhcdaaGreatDoorReP
import Derived.Test.YtpajpjocakhcdaaGreatDoorRows
import Derived.WalkKit
import Derived.Lib.Hide
import Derived.Laws.BytesArg
import Derived.Deep.WholeRow
import Derived.Laws.Rows
set_option linter.unusedSimpArgs false
set_option linter.unusedVariables false
set_option maxRecDepth 100000
set_option linter.unnecessarySimpa false
namespace Go.Proofs.YtpajpjocakhcdaaGreatDoor
open Go.RowKit

theorem undStr : Tryz.prog.underlying 9 = some .string := by kernel_rfl
theorem dig_list : ∀ k, (h : k < 36) → ([48, 49, 50, 51, 52, 53, 54, 55, 56, 57, 97, 98, 99, 100, 101, 102, 103, 104, 105, 106, 107, 108, 109, 110, 111, 112, 113, 114, 115, 116, 117, 118, 119, 120, 121, 122] : List UInt8)[k]'h = dg36 k := by decide
theorem dig_at (k : Nat) (h : k < 36) : (⟨#[48, 49, 50, 51, 52, 53, 54, 55, 56, 57, 97, 98, 99, 100, 101, 102, 103, 104, 105, 106, 107, 108, 109, 110, 111, 112, 113, 114, 115, 116, 117, 118, 119, 120, 121, 122]⟩ : ByteArray)[k]'h = dg36 k := dig_list k h
/-- 65 bytes: what has been written stands at the end -/
def row65 (l : List UInt8) : Array Value := (List.replicate (65 - l.length) (Value.int .u8 0) ++ l.map fun c => Value.int .u8 (c.toNat : Int)).toArray
theorem row65_size (l : List UInt8) (h : l.length ≤ 65) : (row65 l).size = 65 := by simp [row65]; omega
theorem row65_get (l : List UInt8) (h : l.length ≤ 65) (j : Nat) (hj : j < 65) : ∃ u : Int, (row65 l)[j]? = some (.int .u8 u) := by
  by_cases hl : j < 65 - l.length
  · refine ⟨0, ?_⟩
    unfold row65
    rw [List.getElem?_toArray, List.getElem?_append_left (by simpa using hl), List.getElem?_replicate, if_pos hl]
  · obtain ⟨c, hc⟩ : ∃ c, l[j - (65 - l.length)]? = some c := ⟨_, List.getElem?_eq_getElem (by omega)⟩
    refine ⟨(c.toNat : Int), ?_⟩
    unfold row65
    rw [List.getElem?_toArray, List.getElem?_append_right (by simp; omega)]
    simp [hc]
theorem row65_set (l : List UInt8) (c : UInt8) (h : l.length ≤ 64) : (row65 l).setIfInBounds (64 - l.length) (.int .u8 (c.toNat : Int)) = row65 (c :: l) := by
  have e : 65 - l.length = (64 - l.length) + 1 := by omega
  unfold row65
  rw [List.setIfInBounds_toArray, e, List.replicate_succ', List.append_assoc, List.set_append_right _ _ (by simp)]
  have e2 : 65 - (c :: l).length = 64 - l.length := by simp
  rw [e2]
  simp
theorem row65_at (l : List UInt8) (h : l.length ≤ 65) (i : Nat) (hi : i < l.length) : (row65 l)[65 - l.length + i]? = some (.int .u8 ((l.getD i 0).toNat : Int)) := by
  unfold row65
  simp [List.getElem?_append_right, hi]
theorem strOfNums_bytes (l : List UInt8) : strOfNums (l.map fun c => (c.toNat : Int)) = ⟨l.toArray⟩ := by
  unfold strOfNums
  congr 1
  simp [Function.comp_def]
theorem info65 : (Tryz.prog.info? 153).map (fun i => (i.zero, i.size)) = some (some (.agg (row65 [])), 65) := by kernel_rfl
theorem und65 : Tryz.prog.underlying 153 = some (.array 65 5) := by kernel_rfl
theorem undBytes : Tryz.prog.underlying 66 = some (.slice 5) := by kernel_rfl
theorem undByte : Tryz.prog.underlying 5 = some (.int .u8) := by kernel_rfl

theorem len65 : Tryz.prog.arrayLen 153 = 65 := by kernel_rfl
theorem elem65 : Tryz.prog.elem 153 = 5 := by kernel_rfl
theorem slice65 (b k : Nat) (h : k < 65) (W : World) : (Instr.sliceAt 153 (.pointer (some ⟨b, 0, none⟩)) (some (.int .i64 (k : Int))) none none).run Tryz.prog W = .ok (.slice (some ⟨b, k, none⟩) (65 - k) (65 - k)) W := by
  have hs : ∀ w, (sizeOf 5).run Tryz.prog w = .ok 1 w := fun _ => by kernel_rfl
  rw [run_sliceAt_array_l W 153 _ (by rw [len65, elem65]; exact und65) .i64 _ (by omega) (by rw [len65]; omega), len65, elem65, hs]
  simp only [Result.andThen_ok, slicedAt, Int.toNat_natCast]
  rw [if_neg (by omega)]
  simp [Addr.add]
  omega
theorem str65 (b : Nat) (l : List UInt8) (h : l.length ≤ 65) (W : World) (hr : W.heap[b]? = some (.cells (row65 l) 153 (0, 0))) (n off : Nat) (hn : n = l.length) (ho : off + l.length = 65) :
    (convert 66 9 (.slice (some ⟨b, off, none⟩) n n)).run Tryz.prog W = .ok (.string ⟨l.toArray⟩) W := by
  rw [run_convert_bytes_arg W 66 5 undBytes undByte b off n n (l.map fun c => (c.toNat : Int)) (by simp [hn]) (fun i hi => ?_) 9 undStr, strOfNums_bytes]
  rw [cell_of_row _ _ _ _ _ _ hr, show off + i = 65 - l.length + i by omega, row65_at l h i (by omega)]
  simp [List.getD, show i < l.length by omega]
theorem isPow36 (w : World) : Calls Tryz.prog 140 #[.int .i64 36] w fun e w' => e = .returned (.bool false) ∧ w' = w := by
  go_enter Tryz.func140, Tryz.ntmps140
  go_wp2
  go_ret
  exact ⟨rfl, rfl⟩

structure FmtW (u0 : Nat) (w : World) (k : Nat) (l : List UInt8) (v : Nat) (wr : World) : Prop where
  len : l.length + k = 64
  fmt : fmt36 u0 = fmt36 v ++ l
  le : v ≤ u0
  row : wr.heap[w.heap.size]? = some (.cells (row65 l) 153 (0, 0))
  bel : Below w.heap.size w wr
def FmtAt (u0 : Nat) (w : World) (i u : Value) (wr : World) : Prop :=
  ∃ (k : Nat) (l : List UInt8) (v : Nat), i = .int .i64 ((k + 1 : Nat) : Int) ∧ u = .int .u64 v ∧ FmtW u0 w k l v wr

set_option maxRecDepth 100000 in
set_option maxHeartbeats 4000000 in
theorem fmtBits_any (u : Nat) (hu : u < 18446744073709551616) (w : World) :
    Calls Tryz.prog 132 #[.slice none 0 0, .int .u64 u, .int .i64 36, .bool false, .bool false] w fun e w' => e = .returned (.tuple #[.slice none 0 0, .string ⟨(fmt36 u).toArray⟩]) ∧ Below w.heap.size w w' := by
  have HLEN : Hid ((fmt36 u).length ≤ 13) := fmt36_len 12 u (by omega)
  go_enter Tryz.func132, Tryz.ntmps132
  go_wp2_with (go_at_call 140; refine (isPow36 _).mono ?_; rintro e w' ⟨rfl, rfl⟩)
  go_loopw [1, 13] (fun vu vi wr => FmtAt u w vi vu wr) (fun vu _ _ => (intOf vu).toNat)
  case atStart => exact ⟨64, [], u, rfl, rfl, ⟨rfl, by simp, Nat.le_refl _, heap_alloc_last w _, ext_alloc (Below.refl _ w) _⟩⟩
  case round =>
    obtain ⟨k, l, v, rfl, rfl, hW⟩ := hrel
    have hk := hW.len
    have hvu := hW.le
    have hl13 : l.length ≤ 13 := by
      have h1 := HLEN.out
      rw [hW.fmt, List.length_append] at h1
      omega
    obtain ⟨z, hz⟩ := row65_get l (by omega) k (by omega)
    have hc : wr.cell? ⟨w.heap.size, k, none⟩ = some (.int .u8 z) := by rw [cell_of_row _ _ _ _ _ _ hW.row]; exact hz
    have hfr : wr.frozen? ⟨w.heap.size, k, none⟩ = false := frozen_of_row _ _ _ _ _ hW.row
    by_cases hv : 36 ≤ v
    · go_wp2_with fail
      go_roundw
      case rel =>
        refine ⟨k - 1, dg36 (v % 36) :: l, v / 36, ?_, ?_, ⟨?_, ?_, ?_, ?_, ?_⟩⟩
        · rw [show k - 1 + 1 = k by omega]
        · first | done | go_num
        · simp; omega
        · rw [hW.fmt, fmt36_ge (by omega)]; simp
        · omega
        · rw [heap_setCell_same _ _ _ _ _ _ hW.row]
          have hs := row65_set l (dg36 (v % 36)) (by omega)
          rw [show 64 - l.length = k by omega] at hs
          rw [← hs, dig_at (v - v / 36 * 36) (by omega), show v - v / 36 * 36 = v % 36 by omega]
        · exact hW.bel.setCell (by simp) _
      case measure => simp [intOf]; omega
    · have hsl := slice65 w.heap.size k (by omega)
      go_wp2_with fail
      have hrow : ∀ c : UInt8, c = dg36 v → (wr.setCell ⟨w.heap.size, k, none⟩ (.int .u8 (c.toNat : Int))).heap[w.heap.size]? = some (.cells (row65 (dg36 v :: l)) 153 (0, 0)) := by
        rintro c rfl
        have hs := row65_set l (dg36 v) (by omega)
        rw [show 64 - l.length = k by omega] at hs
        rw [heap_setCell_same _ _ _ _ _ _ hW.row, hs]
      have hcv := fun c hc => str65 _ _ (by simp; omega) _ (hrow c hc) (65 - k) k (by simp; omega) (by simp; omega)
      have hfin : fmt36 u = dg36 v :: l := by rw [hW.fmt, fmt36_lt (by omega)]; rfl
      rw [hcv _ (dig_at v (by omega))]
      have HC := Lib.hid hfin
      clear hfin hcv hrow
      go_wp2_with fail
      go_ret2
      exact ⟨by rw [HC.out]; rfl, hW.bel.setCell (by simp) _⟩
set_option maxRecDepth 100000 in
set_option maxHeartbeats 1000000 in
theorem FormatUint0_any (u : Nat) (hu : u < 18446744073709551616) (w : World) :
    Calls Tryz.prog 120 #[.int .u64 u, .int .i64 36] w fun e w' => e = .returned (.string ⟨(fmt36 u).toArray⟩) ∧ Below w.heap.size w w' := by
  go_enter Tryz.func120, Tryz.ntmps120
  go_wp2_with (go_at_call 132; refine (fmtBits_any u hu _).mono ?_; rintro e w' ⟨rfl, hb⟩)
  go_ret
  exact ⟨rfl, hb⟩
set_option maxRecDepth 100000 in
set_option maxHeartbeats 1000000 in
theorem FormatUint_any (u : Nat) (hu : u < 18446744073709551616) (w : World) :
    Calls Tryz.prog 105 #[.int .u64 u, .int .i64 36] w fun e w' => e = .returned (.string ⟨(fmt36 u).toArray⟩) ∧ Below w.heap.size w w' := by
  go_enter Tryz.func105, Tryz.ntmps105
  go_wp2_with (go_at_call 120; refine (FormatUint0_any u hu _).mono ?_; rintro e w' ⟨rfl, hb⟩)
  go_ret
  exact ⟨rfl, hb⟩
end Go.Proofs.YtpajpjocakhcdaaGreatDoor
