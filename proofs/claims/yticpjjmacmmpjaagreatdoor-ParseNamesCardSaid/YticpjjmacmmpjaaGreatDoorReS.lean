/-
  What the library's calls do, that expressions and terms and their texts are made with: numbers as text, texts joined, a builder of text.
-/
import Derived.Test.YticpjjmacmmpjaaGreatDoorReN
import Derived.Test.YticpjjmacmmpjaaGreatDoorRows
import Derived.WalkKit
import Derived.Lib.Hide
import Derived.Laws.BytesArg
import Derived.Deep.WholeRow
import Derived.Laws.Rows
import Derived.Shelf.Lay
import Derived.Shelf.Strings.OnBuilder
import Derived.Shelf.Strconv.Itoa3
import Derived.Shelf.Small.Strs
set_option linter.unusedSimpArgs false
set_option linter.unusedVariables false
set_option maxRecDepth 100000
set_option linter.unnecessarySimpa false
namespace Go.Proofs.YticpjjmacmmpjaaGreatDoor
open Go.RowKit

theorem undStr : Tryz.prog.underlying 9 = some .string := by kernel_rfl
theorem dig_list : ∀ k, (h : k < 36) → ([48, 49, 50, 51, 52, 53, 54, 55, 56, 57, 97, 98, 99, 100, 101, 102, 103, 104, 105, 106, 107, 108, 109, 110, 111, 112, 113, 114, 115, 116, 117, 118, 119, 120, 121, 122] : List UInt8)[k]'h = dg36 k := by decide
theorem dig_at (k : Nat) (h : k < 36) : (⟨#[48, 49, 50, 51, 52, 53, 54, 55, 56, 57, 97, 98, 99, 100, 101, 102, 103, 104, 105, 106, 107, 108, 109, 110, 111, 112, 113, 114, 115, 116, 117, 118, 119, 120, 121, 122]⟩ : ByteArray)[k]'h = dg36 k := dig_list k h
/-- 65 bytes: what has been written stands at the end -/
def row65 (l : List UInt8) : Array Value := (List.replicate (65 - l.length) (Value.int .u8 0) ++ l.map fun c => Value.int .u8 (c.toNat : Int)).toArray
theorem row65_size (l : List UInt8) (h : l.length ≤ 65) : (row65 l).size = 65 := by simp [row65]; omega
theorem row65_get (l : List UInt8) (h : l.length ≤ 65) (j : Nat) (hj : j < 65) : ∃ u : Int, (row65 l)[j]? = some (.int .u8 u) := by
  by_cases hl : j < 65 - l.length
  · refine ⟨0, ?_⟩
    unfold row65
    rw [List.getElem?_toArray, List.getElem?_append_left (by simpa using hl), List.getElem?_replicate, if_pos hl]
  · obtain ⟨c, hc⟩ : ∃ c, l[j - (65 - l.length)]? = some c := ⟨_, List.getElem?_eq_getElem (by omega)⟩
    refine ⟨(c.toNat : Int), ?_⟩
    unfold row65
    rw [List.getElem?_toArray, List.getElem?_append_right (by simp; omega)]
    simp [hc]
theorem row65_set (l : List UInt8) (c : UInt8) (h : l.length ≤ 64) : (row65 l).setIfInBounds (64 - l.length) (.int .u8 (c.toNat : Int)) = row65 (c :: l) := by
  have e : 65 - l.length = (64 - l.length) + 1 := by omega
  unfold row65
  rw [List.setIfInBounds_toArray, e, List.replicate_succ', List.append_assoc, List.set_append_right _ _ (by simp)]
  have e2 : 65 - (c :: l).length = 64 - l.length := by simp
  rw [e2]
  simp
theorem row65_at (l : List UInt8) (h : l.length ≤ 65) (i : Nat) (hi : i < l.length) : (row65 l)[65 - l.length + i]? = some (.int .u8 ((l.getD i 0).toNat : Int)) := by
  unfold row65
  simp [List.getElem?_append_right, hi]
theorem strOfNums_bytes (l : List UInt8) : strOfNums (l.map fun c => (c.toNat : Int)) = ⟨l.toArray⟩ := by
  unfold strOfNums
  congr 1
  simp [Function.comp_def]
theorem info65 : (Tryz.prog.info? 209).map (fun i => (i.zero, i.size)) = some (some (.agg (row65 [])), 65) := by kernel_rfl
theorem und65 : Tryz.prog.underlying 209 = some (.array 65 5) := by kernel_rfl
theorem undBytes : Tryz.prog.underlying 138 = some (.slice 5) := by kernel_rfl
theorem undByte : Tryz.prog.underlying 5 = some (.int .u8) := by kernel_rfl

theorem len65 : Tryz.prog.arrayLen 209 = 65 := by kernel_rfl
theorem elem65 : Tryz.prog.elem 209 = 5 := by kernel_rfl
theorem slice65 (b k : Nat) (h : k < 65) (W : World) : (Instr.sliceAt 209 (.pointer (some ⟨b, 0, none⟩)) (some (.int .i64 (k : Int))) none none).run Tryz.prog W = .ok (.slice (some ⟨b, k, none⟩) (65 - k) (65 - k)) W := by
  have hs : ∀ w, (sizeOf 5).run Tryz.prog w = .ok 1 w := fun _ => by kernel_rfl
  rw [run_sliceAt_array_l W 209 _ (by rw [len65, elem65]; exact und65) .i64 _ (by omega) (by rw [len65]; omega), len65, elem65, hs]
  simp only [Result.andThen_ok, slicedAt, Int.toNat_natCast]
  rw [if_neg (by omega)]
  simp [Addr.add]
  omega
theorem str65 (b : Nat) (l : List UInt8) (h : l.length ≤ 65) (W : World) (hr : W.heap[b]? = some (.cells (row65 l) 209 (0, 0))) (n off : Nat) (hn : n = l.length) (ho : off + l.length = 65) :
    (convert 138 9 (.slice (some ⟨b, off, none⟩) n n)).run Tryz.prog W = .ok (.string ⟨l.toArray⟩) W := by
  rw [run_convert_bytes_arg W 138 5 undBytes undByte b off n n (l.map fun c => (c.toNat : Int)) (by simp [hn]) (fun i hi => ?_) 9 undStr, strOfNums_bytes]
  rw [cell_of_row _ _ _ _ _ _ hr, show off + i = 65 - l.length + i by omega, row65_at l h i (by omega)]
  simp [List.getD, show i < l.length by omega]
theorem isPow36 (w : World) : Calls Tryz.prog 178 #[.int .i64 36] w fun e w' => e = .returned (.bool false) ∧ w' = w := by
  go_enter Tryz.func178, Tryz.ntmps178
  go_wp2
  go_ret
  exact ⟨rfl, rfl⟩

structure FmtW (u0 : Nat) (w : World) (k : Nat) (l : List UInt8) (v : Nat) (wr : World) : Prop where
  len : l.length + k = 64
  fmt : fmt36 u0 = fmt36 v ++ l
  le : v ≤ u0
  row : wr.heap[w.heap.size]? = some (.cells (row65 l) 209 (0, 0))
  bel : Below w.heap.size w wr
def FmtAt (u0 : Nat) (w : World) (i u : Value) (wr : World) : Prop :=
  ∃ (k : Nat) (l : List UInt8) (v : Nat), i = .int .i64 ((k + 1 : Nat) : Int) ∧ u = .int .u64 v ∧ FmtW u0 w k l v wr

set_option maxRecDepth 100000 in
set_option maxHeartbeats 4000000 in
theorem fmtBits_any (u : Nat) (hu : u < 18446744073709551616) (w : World) :
    Calls Tryz.prog 164 #[.slice none 0 0, .int .u64 u, .int .i64 36, .bool false, .bool false] w fun e w' => e = .returned (.tuple #[.slice none 0 0, .string ⟨(fmt36 u).toArray⟩]) ∧ Below w.heap.size w w' := by
  have HLEN : Hid ((fmt36 u).length ≤ 13) := fmt36_len 12 u (by omega)
  go_enter Tryz.func164, Tryz.ntmps164
  go_wp2_with (go_at_call 178; refine (isPow36 _).mono ?_; rintro e w' ⟨rfl, rfl⟩)
  go_loopw [1, 13] (fun vu vi wr => FmtAt u w vi vu wr) (fun vu _ _ => (intOf vu).toNat)
  case atStart => exact ⟨64, [], u, rfl, rfl, ⟨rfl, by simp, Nat.le_refl _, heap_alloc_last w _, ext_alloc (Below.refl _ w) _⟩⟩
  case round =>
    obtain ⟨k, l, v, rfl, rfl, hW⟩ := hrel
    have hk := hW.len
    have hvu := hW.le
    have hl13 : l.length ≤ 13 := by
      have h1 := HLEN.out
      rw [hW.fmt, List.length_append] at h1
      omega
    obtain ⟨z, hz⟩ := row65_get l (by omega) k (by omega)
    have hc : wr.cell? ⟨w.heap.size, k, none⟩ = some (.int .u8 z) := by rw [cell_of_row _ _ _ _ _ _ hW.row]; exact hz
    have hfr : wr.frozen? ⟨w.heap.size, k, none⟩ = false := frozen_of_row _ _ _ _ _ hW.row
    by_cases hv : 36 ≤ v
    · go_wp2_with fail
      go_roundw
      case rel =>
        refine ⟨k - 1, dg36 (v % 36) :: l, v / 36, ?_, ?_, ⟨?_, ?_, ?_, ?_, ?_⟩⟩
        · rw [show k - 1 + 1 = k by omega]
        · first | done | go_num
        · simp; omega
        · rw [hW.fmt, fmt36_ge (by omega)]; simp
        · omega
        · rw [heap_setCell_same _ _ _ _ _ _ hW.row]
          have hs := row65_set l (dg36 (v % 36)) (by omega)
          rw [show 64 - l.length = k by omega] at hs
          rw [← hs, dig_at (v - v / 36 * 36) (by omega), show v - v / 36 * 36 = v % 36 by omega]
        · exact hW.bel.setCell (by simp) _
      case measure => simp [intOf]; omega
    · have hsl := slice65 w.heap.size k (by omega)
      go_wp2_with fail
      have hrow : ∀ c : UInt8, c = dg36 v → (wr.setCell ⟨w.heap.size, k, none⟩ (.int .u8 (c.toNat : Int))).heap[w.heap.size]? = some (.cells (row65 (dg36 v :: l)) 209 (0, 0)) := by
        rintro c rfl
        have hs := row65_set l (dg36 v) (by omega)
        rw [show 64 - l.length = k by omega] at hs
        rw [heap_setCell_same _ _ _ _ _ _ hW.row, hs]
      have hcv := fun c hc => str65 _ _ (by simp; omega) _ (hrow c hc) (65 - k) k (by simp; omega) (by simp; omega)
      have hfin : fmt36 u = dg36 v :: l := by rw [hW.fmt, fmt36_lt (by omega)]; rfl
      rw [hcv _ (dig_at v (by omega))]
      have HC := Lib.hid hfin
      clear hfin hcv hrow
      go_wp2_with fail
      go_ret2
      exact ⟨by rw [HC.out]; rfl, hW.bel.setCell (by simp) _⟩
set_option maxRecDepth 100000 in
set_option maxHeartbeats 1000000 in
theorem FormatUint0_any (u : Nat) (hu : u < 18446744073709551616) (w : World) :
    Calls Tryz.prog 148 #[.int .u64 u, .int .i64 36] w fun e w' => e = .returned (.string ⟨(fmt36 u).toArray⟩) ∧ Below w.heap.size w w' := by
  go_enter Tryz.func148, Tryz.ntmps148
  go_wp2_with (go_at_call 164; refine (fmtBits_any u hu _).mono ?_; rintro e w' ⟨rfl, hb⟩)
  go_ret
  exact ⟨rfl, hb⟩
set_option maxRecDepth 100000 in
set_option maxHeartbeats 1000000 in
theorem FormatUint_any (u : Nat) (hu : u < 18446744073709551616) (w : World) :
    Calls Tryz.prog 119 #[.int .u64 u, .int .i64 36] w fun e w' => e = .returned (.string ⟨(fmt36 u).toArray⟩) ∧ Below w.heap.size w w' := by
  go_enter Tryz.func119, Tryz.ntmps119
  go_wp2_with (go_at_call 148; refine (FormatUint0_any u hu _).mono ?_; rintro e w' ⟨rfl, hb⟩)
  go_ret
  exact ⟨rfl, hb⟩
end Go.Proofs.YticpjjmacmmpjaaGreatDoor
namespace Go.Proofs
open Go.Shelf
open Go.Shelf in
def Tryz.laysItoa_ren : Go.Shelf.Ren := ⟨fun | 171 => 118 | 243 => 147 | 246 => 160 | 283 => 161 | 284 => 162 | 285 => 163 | 286 => 164 | 129 => 176 | 317 => 175 | 318 => 177 | 319 => 178 | 320 => 179 | 337 => 187 | 338 => 136 | n => n, fun | 3 => 3 | 9 => 9 | 2 => 2 | 4 => 4 | 171 => 195 | 0 => 0 | 53 => 75 | 37 => 138 | 5 => 5 | 173 => 197 | 212 => 207 | 51 => 208 | 20 => 20 | 213 => 209 | 46 => 24 | 232 => 225 | 233 => 193 | n => n, fun | 17 => 3 | 18 => 4 | 19 => 1 | n => n⟩
open Go.Shelf in
theorem Tryz.laysItoa : Go.Proofs.Lays.n171 Tryz.prog Tryz.laysItoa_ren := {
  mixed := by kernel_rfl
  f129 := Tryz.func176.trans (congrArg some (by kernel_rfl))
  f171 := Tryz.func118.trans (congrArg some (by kernel_rfl))
  f243 := Tryz.func147.trans (congrArg some (by kernel_rfl))
  f246 := Tryz.func160.trans (congrArg some (by kernel_rfl))
  f283 := Tryz.func161.trans (congrArg some (by kernel_rfl))
  f284 := Tryz.func162.trans (congrArg some (by kernel_rfl))
  f285 := Tryz.func163.trans (congrArg some (by kernel_rfl))
  f286 := Tryz.func164.trans (congrArg some (by kernel_rfl))
  f317 := Tryz.func175.trans (congrArg some (by kernel_rfl))
  f318 := Tryz.func177.trans (congrArg some (by kernel_rfl))
  f319 := Tryz.func178.trans (congrArg some (by kernel_rfl))
  f320 := Tryz.func179.trans (congrArg some (by kernel_rfl))
  f337 := Tryz.func187.trans (congrArg some (by kernel_rfl))
  f338 := Tryz.func136.trans (congrArg some (by kernel_rfl))
  t0 := Tryz.underlying0
  a0 := Tryz.isAgg0
  z0 := Tryz.sizeOf0
  v0 := Tryz.zeroValue0
  t2 := Tryz.underlying2
  a2 := Tryz.isAgg2
  z2 := Tryz.sizeOf2
  v2 := Tryz.zeroValue2
  t3 := Tryz.underlying3
  a3 := Tryz.isAgg3
  z3 := Tryz.sizeOf3
  v3 := Tryz.zeroValue3
  t4 := Tryz.underlying4
  a4 := Tryz.isAgg4
  z4 := Tryz.sizeOf4
  v4 := Tryz.zeroValue4
  t5 := Tryz.underlying5
  a5 := Tryz.isAgg5
  z5 := Tryz.sizeOf5
  v5 := Tryz.zeroValue5
  t9 := Tryz.underlying9
  a9 := Tryz.isAgg9
  z9 := Tryz.sizeOf9
  v9 := Tryz.zeroValue9
  t20 := Tryz.underlying20
  a20 := Tryz.isAgg20
  z20 := Tryz.sizeOf20
  v20 := Tryz.zeroValue20
  t37 := Tryz.underlying138
  a37 := Tryz.isAgg138
  z37 := Tryz.sizeOf138
  v37 := Tryz.zeroValue138
  t46 := Tryz.underlying24
  a46 := Tryz.isAgg24
  z46 := Tryz.sizeOf24
  v46 := Tryz.zeroValue24
  t51 := Tryz.underlying208
  a51 := Tryz.isAgg208
  z51 := Tryz.sizeOf208
  v51 := Tryz.zeroValue208
  t53 := Tryz.underlying75
  a53 := Tryz.isAgg75
  z53 := Tryz.sizeOf75
  v53 := Tryz.zeroValue75
  t171 := Tryz.underlying195
  a171 := Tryz.isAgg195
  z171 := Tryz.sizeOf195
  v171 := Tryz.zeroValue195
  t173 := Tryz.underlying197
  a173 := Tryz.isAgg197
  z173 := Tryz.sizeOf197
  v173 := Tryz.zeroValue197
  t212 := Tryz.underlying207
  a212 := Tryz.isAgg207
  z212 := Tryz.sizeOf207
  v212 := Tryz.zeroValue207
  t213 := Tryz.underlying209
  a213 := Tryz.isAgg209
  z213 := Tryz.sizeOf209
  t232 := Tryz.underlying225
  a232 := Tryz.isAgg225
  z232 := Tryz.sizeOf225
  v232 := Tryz.zeroValue225
  t233 := Tryz.underlying193
  a233 := Tryz.isAgg193
  z233 := Tryz.sizeOf193
  v233 := Tryz.zeroValue193
  g17 := by kernel_rfl
  g18 := by kernel_rfl
  g19 := by kernel_rfl }
open Go.Shelf in
def Tryz.laysJoin_ren : Go.Shelf.Ren := ⟨fun | 156 => 103 | 165 => 142 | 166 => 82 | 169 => 83 | 240 => 124 | 241 => 158 | 276 => 151 | 277 => 170 | n => n, fun | 31 => 23 | 9 => 9 | 3 => 3 | 4 => 4 | 0 => 0 | 20 => 20 | 72 => 140 | 76 => 143 | 70 => 137 | 37 => 138 | 75 => 142 | 127 => 171 | 164 => 190 | 5 => 5 | 80 => 97 | n => n, fun | n => n⟩
open Go.Shelf in
theorem Tryz.laysJoin : Go.Proofs.Lays.n156 Tryz.prog Tryz.laysJoin_ren := {
  mixed := by kernel_rfl
  f156 := Tryz.func103.trans (congrArg some (by kernel_rfl))
  f165 := Tryz.func142.trans (congrArg some (by kernel_rfl))
  f166 := Tryz.func82.trans (congrArg some (by kernel_rfl))
  f169 := Tryz.func83.trans (congrArg some (by kernel_rfl))
  f240 := Tryz.func124.trans (congrArg some (by kernel_rfl))
  f241 := Tryz.func158.trans (congrArg some (by kernel_rfl))
  f276 := Tryz.func151.trans (congrArg some (by kernel_rfl))
  f277 := Tryz.func170.trans (congrArg some (by kernel_rfl))
  t0 := Tryz.underlying0
  a0 := Tryz.isAgg0
  z0 := Tryz.sizeOf0
  v0 := Tryz.zeroValue0
  t3 := Tryz.underlying3
  a3 := Tryz.isAgg3
  z3 := Tryz.sizeOf3
  v3 := Tryz.zeroValue3
  t4 := Tryz.underlying4
  a4 := Tryz.isAgg4
  z4 := Tryz.sizeOf4
  v4 := Tryz.zeroValue4
  t9 := Tryz.underlying9
  a9 := Tryz.isAgg9
  z9 := Tryz.sizeOf9
  v9 := Tryz.zeroValue9
  t20 := Tryz.underlying20
  a20 := Tryz.isAgg20
  z20 := Tryz.sizeOf20
  v20 := Tryz.zeroValue20
  t31 := Tryz.underlying23
  a31 := Tryz.isAgg23
  z31 := Tryz.sizeOf23
  v31 := Tryz.zeroValue23
  t37 := Tryz.underlying138
  a37 := Tryz.isAgg138
  z37 := Tryz.sizeOf138
  v37 := Tryz.zeroValue138
  t70 := Tryz.underlying137
  a70 := Tryz.isAgg137
  z70 := Tryz.sizeOf137
  v70 := Tryz.zeroValue137
  t72 := Tryz.underlying140
  a72 := Tryz.isAgg140
  z72 := Tryz.sizeOf140
  v72 := Tryz.zeroValue140
  t75 := Tryz.underlying142
  a75 := Tryz.isAgg142
  z75 := Tryz.sizeOf142
  v75 := Tryz.zeroValue142
  t76 := Tryz.underlying143
  a76 := Tryz.isAgg143
  z76 := Tryz.sizeOf143
  v76 := Tryz.zeroValue143
  t127 := Tryz.underlying171
  a127 := Tryz.isAgg171
  z127 := Tryz.sizeOf171
  v127 := Tryz.zeroValue171
  t164 := Tryz.underlying190
  a164 := Tryz.isAgg190
  z164 := Tryz.sizeOf190
  v164 := Tryz.zeroValue190 }
open Go.Shelf in
def Tryz.laysIdx_ren : Go.Shelf.Ren := ⟨fun | 137 => 93 | 217 => 132 | 266 => 156 | n => n, fun | 9 => 9 | 5 => 5 | 3 => 3 | n => n, fun | n => n⟩
open Go.Shelf in
theorem Tryz.laysIdx : Go.Proofs.Lays.n137 Tryz.prog Tryz.laysIdx_ren := {
  mixed := by kernel_rfl
  f137 := Tryz.func93.trans (congrArg some (by kernel_rfl))
  f217 := Tryz.func132.trans (congrArg some (by kernel_rfl))
  f266 := Tryz.func156.trans (congrArg some (by kernel_rfl))
  t3 := Tryz.underlying3
  a3 := Tryz.isAgg3
  z3 := Tryz.sizeOf3
  v3 := Tryz.zeroValue3
  t5 := Tryz.underlying5
  a5 := Tryz.isAgg5
  z5 := Tryz.sizeOf5
  v5 := Tryz.zeroValue5
  t9 := Tryz.underlying9
  a9 := Tryz.isAgg9
  z9 := Tryz.sizeOf9
  v9 := Tryz.zeroValue9 }
open Go.Shelf in
def Tryz.laysStr_ren : Go.Shelf.Ren := ⟨fun | 169 => 83 | n => n, fun | 70 => 137 | 9 => 9 | 0 => 0 | 72 => 140 | 37 => 138 | 127 => 171 | 3 => 3 | 5 => 5 | n => n, fun | n => n⟩
open Go.Shelf in
theorem Tryz.laysStr : Go.Proofs.Lays.n169 Tryz.prog Tryz.laysStr_ren := {
  mixed := by kernel_rfl
  f169 := Tryz.func83.trans (congrArg some (by kernel_rfl))
  t0 := Tryz.underlying0
  a0 := Tryz.isAgg0
  z0 := Tryz.sizeOf0
  v0 := Tryz.zeroValue0
  t3 := Tryz.underlying3
  a3 := Tryz.isAgg3
  z3 := Tryz.sizeOf3
  v3 := Tryz.zeroValue3
  t9 := Tryz.underlying9
  a9 := Tryz.isAgg9
  z9 := Tryz.sizeOf9
  v9 := Tryz.zeroValue9
  t37 := Tryz.underlying138
  a37 := Tryz.isAgg138
  z37 := Tryz.sizeOf138
  v37 := Tryz.zeroValue138
  t70 := Tryz.underlying137
  a70 := Tryz.isAgg137
  z70 := Tryz.sizeOf137
  v70 := Tryz.zeroValue137
  t72 := Tryz.underlying140
  a72 := Tryz.isAgg140
  z72 := Tryz.sizeOf140
  v72 := Tryz.zeroValue140
  t127 := Tryz.underlying171
  a127 := Tryz.isAgg171
  z127 := Tryz.sizeOf171
  v127 := Tryz.zeroValue171 }
def Tryz.renB : Go.Shelf.Ren := ⟨fun | 166 => 82 | 167 => 85 | 240 => 124 | 276 => 151 | n => n, fun | 0 => 0 | 3 => 3 | 4 => 4 | 5 => 5 | 9 => 9 | 20 => 20 | 37 => 138 | 70 => 137 | 72 => 140 | 75 => 142 | 80 => 97 | 164 => 190 | n => n, fun n => n⟩
theorem Tryz.laysWS : Lays.n166 Tryz.prog Tryz.renB := {
  mixed := by kernel_rfl
  f166 := Tryz.func82.trans (congrArg some (by kernel_rfl))
  f240 := Tryz.func124.trans (congrArg some (by kernel_rfl))
  f276 := Tryz.func151.trans (congrArg some (by kernel_rfl))
  t0 := Tryz.underlying0
  a0 := Tryz.isAgg0
  z0 := Tryz.sizeOf0
  v0 := Tryz.zeroValue0
  t3 := Tryz.underlying3
  a3 := Tryz.isAgg3
  z3 := Tryz.sizeOf3
  v3 := Tryz.zeroValue3
  t4 := Tryz.underlying4
  a4 := Tryz.isAgg4
  z4 := Tryz.sizeOf4
  v4 := Tryz.zeroValue4
  t9 := Tryz.underlying9
  a9 := Tryz.isAgg9
  z9 := Tryz.sizeOf9
  v9 := Tryz.zeroValue9
  t20 := Tryz.underlying20
  a20 := Tryz.isAgg20
  z20 := Tryz.sizeOf20
  v20 := Tryz.zeroValue20
  t37 := Tryz.underlying138
  a37 := Tryz.isAgg138
  z37 := Tryz.sizeOf138
  v37 := Tryz.zeroValue138
  t70 := Tryz.underlying137
  a70 := Tryz.isAgg137
  z70 := Tryz.sizeOf137
  v70 := Tryz.zeroValue137
  t72 := Tryz.underlying140
  a72 := Tryz.isAgg140
  z72 := Tryz.sizeOf140
  v72 := Tryz.zeroValue140
  t75 := Tryz.underlying142
  a75 := Tryz.isAgg142
  z75 := Tryz.sizeOf142
  v75 := Tryz.zeroValue142
  t164 := Tryz.underlying190
  a164 := Tryz.isAgg190
  z164 := Tryz.sizeOf190
  v164 := Tryz.zeroValue190 }
theorem Tryz.laysWB : Lays.n167 Tryz.prog Tryz.renB := {
  mixed := by kernel_rfl
  f167 := Tryz.func85.trans (congrArg some (by kernel_rfl))
  f240 := Tryz.func124.trans (congrArg some (by kernel_rfl))
  f276 := Tryz.func151.trans (congrArg some (by kernel_rfl))
  t0 := Tryz.underlying0
  a0 := Tryz.isAgg0
  z0 := Tryz.sizeOf0
  v0 := Tryz.zeroValue0
  t4 := Tryz.underlying4
  a4 := Tryz.isAgg4
  z4 := Tryz.sizeOf4
  v4 := Tryz.zeroValue4
  t5 := Tryz.underlying5
  a5 := Tryz.isAgg5
  z5 := Tryz.sizeOf5
  v5 := Tryz.zeroValue5
  t9 := Tryz.underlying9
  a9 := Tryz.isAgg9
  z9 := Tryz.sizeOf9
  v9 := Tryz.zeroValue9
  t20 := Tryz.underlying20
  a20 := Tryz.isAgg20
  z20 := Tryz.sizeOf20
  v20 := Tryz.zeroValue20
  t37 := Tryz.underlying138
  a37 := Tryz.isAgg138
  z37 := Tryz.sizeOf138
  v37 := Tryz.zeroValue138
  t70 := Tryz.underlying137
  a70 := Tryz.isAgg137
  z70 := Tryz.sizeOf137
  v70 := Tryz.zeroValue137
  t72 := Tryz.underlying140
  a72 := Tryz.isAgg140
  z72 := Tryz.sizeOf140
  v72 := Tryz.zeroValue140
  t75 := Tryz.underlying142
  a75 := Tryz.isAgg142
  z75 := Tryz.sizeOf142
  v75 := Tryz.zeroValue142
  t164 := Tryz.underlying190
  a164 := Tryz.isAgg190
  z164 := Tryz.sizeOf190
  v164 := Tryz.zeroValue190 }
theorem Tryz.extraJoin : Builder.Extra Tryz.prog Tryz.laysJoin_ren := {
  sizeBuilder := by kernel_rfl
  liesBuilder := by kernel_rfl
  t5 := Tryz.underlying5
  a5 := Tryz.isAgg5
  z5 := Tryz.sizeOf5
  v5 := Tryz.zeroValue5
  infoByte := by kernel_rfl
  cellsByte := by kernel_rfl
  sizeByte := by kernel_rfl
  neB5 := by decide }
theorem Tryz.extraWS : Builder.Extra Tryz.prog Tryz.renB := {
  sizeBuilder := by kernel_rfl
  liesBuilder := by kernel_rfl
  t5 := Tryz.underlying5
  a5 := Tryz.isAgg5
  z5 := Tryz.sizeOf5
  v5 := Tryz.zeroValue5
  infoByte := by kernel_rfl
  cellsByte := by kernel_rfl
  sizeByte := by kernel_rfl
  neB5 := by decide }
theorem Tryz.extraWB : Builder.Extra Tryz.prog Tryz.renB := {
  sizeBuilder := by kernel_rfl
  liesBuilder := by kernel_rfl
  t5 := Tryz.underlying5
  a5 := Tryz.isAgg5
  z5 := Tryz.sizeOf5
  v5 := Tryz.zeroValue5
  infoByte := by kernel_rfl
  cellsByte := by kernel_rfl
  sizeByte := by kernel_rfl
  neB5 := by decide }
theorem Tryz.extraStr : Builder.Extra Tryz.prog Tryz.laysStr_ren := {
  sizeBuilder := by kernel_rfl
  liesBuilder := by kernel_rfl
  t5 := Tryz.underlying5
  a5 := Tryz.isAgg5
  z5 := Tryz.sizeOf5
  v5 := Tryz.zeroValue5
  infoByte := by kernel_rfl
  cellsByte := by kernel_rfl
  sizeByte := by kernel_rfl
  neB5 := by decide }
namespace YticpjjmacmmpjaaGreatDoor
open Go.RowKit
theorem decDigits_small : ∀ i, i < 8 → Lib.decDigits i = [(48 + i).toUInt8] := by decide +kernel
theorem Itoa_op (i : Nat) (hi : i < 8) (w : World) : Calls Tryz.prog 118 #[.int .i64 i] w fun e w' => e = .returned (.string ⟨#[(48 + i).toUInt8]⟩) ∧ w' = w := by
  have := Any.strconv_Itoa_small Tryz.laysItoa i (by omega) w
  rw [decDigits_small i hi] at this
  exact this
theorem Join_any (bk o c : Nat) (xs : List ByteArray) (sep : ByteArray) (w : World)
    (hcells : ∀ (j : Nat) x, xs[j]? = some x → w.cell? ⟨bk, o + j, none⟩ = some (.string x)) (hbk : bk < w.heap.size) (hN : xs.length ≤ 140737488355328) (hcap : xs.length ≤ c)
    (hlen : (Lib.join (xs.map (·.data.toList)) sep.data.toList).length ≤ 140737488355328) :
    Calls Tryz.prog 103 #[.slice (some ⟨bk, o, none⟩) xs.length c, .string sep] w fun e w' => e = .returned (.string ⟨(Lib.join (xs.map (·.data.toList)) sep.data.toList).toArray⟩) ∧ Below w.heap.size w w' :=
  Any.strings_Join Tryz.laysJoin Tryz.extraJoin bk o c xs sep w hcells hbk hN hcap hlen
theorem IndexByte_any (s : ByteArray) (c : Int) (w : World) : Calls Tryz.prog 93 #[.string s, .int .u8 c] w fun e w' => e = .returned (.int .i64 (Lib.indexByte s.data.toList c.toNat.toUInt8)) ∧ w' = w :=
  Any.strings_IndexByte Tryz.laysIdx s c w
theorem WriteString_any (B b : Nat) (bs : List Value) (s : ByteArray) (w : World) (h : Lib.IsBuilder 140 5 B b bs w) (hlen : bs.length + s.size ≤ 140737488355328) (hBw : B ≤ w.heap.size) :
    Calls Tryz.prog 82 #[.pointer (some ⟨b, 0, none⟩), .string s] w fun e w' => e = .returned (.tuple #[.int .i64 s.size, .nilIface]) ∧ (Lib.IsBuilder 140 5 B b (bs ++ Lib.strCells s) w' ∧ Below B w w') :=
  (Any.Builder_WriteString Tryz.laysWS Tryz.extraWS B b bs s w h hlen hBw).mono fun _ _ ⟨h1, h2, h3⟩ => ⟨h1, .inr h2, h3⟩
theorem WriteByte_any (B b : Nat) (bs : List Value) (c : Int) (w : World) (h : Lib.IsBuilder 140 5 B b bs w) (hlen : bs.length + 1 ≤ 140737488355328) (hBw : B ≤ w.heap.size) :
    Calls Tryz.prog 85 #[.pointer (some ⟨b, 0, none⟩), .int .u8 c] w fun e w' => e = .returned .nilIface ∧ (Lib.IsBuilder 140 5 B b (bs ++ [.int .u8 c]) w' ∧ Below B w w') :=
  (Any.Builder_WriteByte Tryz.laysWB Tryz.extraWB B b bs c w h hlen hBw).mono fun _ _ ⟨h1, h2, h3⟩ => ⟨h1, .inr h2, h3⟩
theorem String_any (B b : Nat) (l : List UInt8) (w : World) (h : Lib.IsBuilder 140 5 B b (Lib.byteCells l) w) (hBw : B ≤ w.heap.size) :
    Calls Tryz.prog 83 #[.pointer (some ⟨b, 0, none⟩)] w fun e w' => e = .returned (.string ⟨l.toArray⟩) ∧ Below B w w' :=
  Any.Builder_String_any Tryz.laysStr Tryz.extraStr B b l w h hBw
end YticpjjmacmmpjaaGreatDoor
end Go.Proofs
