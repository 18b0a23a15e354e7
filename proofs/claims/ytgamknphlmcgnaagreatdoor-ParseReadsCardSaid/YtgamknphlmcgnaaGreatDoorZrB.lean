/-
  Texts quoted, walked through the program: the program's own 'Quote' and the statement's. The reader of expressions, plain: how deep it is behind each part.
-/
import Derived.BigQuiet
import Derived.Test.YtgamknphlmcgnaaGreatDoorZrA
section
set_option linter.unusedSimpArgs false
set_option linter.unusedVariables false
set_option maxRecDepth 100000
set_option linter.unnecessarySimpa false
namespace Go.Proofs.YtgamknphlmcgnaaGreatDoor
open Go.RowKit
/-- a digit to the base 16 -/
def hexd (k : Nat) : UInt8 := if k < 10 then (48 + k).toUInt8 else (87 + k).toUInt8
def specials : List UInt8 := [40, 41, 91, 93, 124, 38, 45, 42, 43, 63, 46, 92, 32, 9, 10, 13]
def marked (b : Nat) : Bool := specials.contains b.toUInt8 || b == 94 || b == 47 || b == 34 || b == 35
/-- a byte as it is written -/
def byteW (b : Nat) : List UInt8 := if b = 10 then [92, 110] else if b = 9 then [92, 116] else if b < 32 ∨ 127 ≤ b then [92, 120, hexd (b / 16), hexd (b % 16)] else if marked b then [92, b.toUInt8] else [b.toUInt8]
theorem hexSlice (k : Nat) (h : k < 16) (w : World) : (Instr.slice 9 (.string ⟨#[48, 49, 50, 51, 52, 53, 54, 55, 56, 57, 97, 98, 99, 100, 101, 102]⟩) (some (.int .u8 (k : Int))) (some (.int .u8 ((k : Int) + 1))) none).run Tryz.prog w = .ok (.string ⟨#[hexd k]⟩) w := by
  have h0 : ∀ w, (Instr.slice 9 (.string ⟨#[48, 49, 50, 51, 52, 53, 54, 55, 56, 57, 97, 98, 99, 100, 101, 102]⟩) (some (.int .u8 0)) (some (.int .u8 1)) none).run Tryz.prog w = .ok (.string ⟨#[48]⟩) w := fun _ => by kernel_rfl
  have h1 : ∀ w, (Instr.slice 9 (.string ⟨#[48, 49, 50, 51, 52, 53, 54, 55, 56, 57, 97, 98, 99, 100, 101, 102]⟩) (some (.int .u8 1)) (some (.int .u8 2)) none).run Tryz.prog w = .ok (.string ⟨#[49]⟩) w := fun _ => by kernel_rfl
  have h2 : ∀ w, (Instr.slice 9 (.string ⟨#[48, 49, 50, 51, 52, 53, 54, 55, 56, 57, 97, 98, 99, 100, 101, 102]⟩) (some (.int .u8 2)) (some (.int .u8 3)) none).run Tryz.prog w = .ok (.string ⟨#[50]⟩) w := fun _ => by kernel_rfl
  have h3 : ∀ w, (Instr.slice 9 (.string ⟨#[48, 49, 50, 51, 52, 53, 54, 55, 56, 57, 97, 98, 99, 100, 101, 102]⟩) (some (.int .u8 3)) (some (.int .u8 4)) none).run Tryz.prog w = .ok (.string ⟨#[51]⟩) w := fun _ => by kernel_rfl
  have h4 : ∀ w, (Instr.slice 9 (.string ⟨#[48, 49, 50, 51, 52, 53, 54, 55, 56, 57, 97, 98, 99, 100, 101, 102]⟩) (some (.int .u8 4)) (some (.int .u8 5)) none).run Tryz.prog w = .ok (.string ⟨#[52]⟩) w := fun _ => by kernel_rfl
  have h5 : ∀ w, (Instr.slice 9 (.string ⟨#[48, 49, 50, 51, 52, 53, 54, 55, 56, 57, 97, 98, 99, 100, 101, 102]⟩) (some (.int .u8 5)) (some (.int .u8 6)) none).run Tryz.prog w = .ok (.string ⟨#[53]⟩) w := fun _ => by kernel_rfl
  have h6 : ∀ w, (Instr.slice 9 (.string ⟨#[48, 49, 50, 51, 52, 53, 54, 55, 56, 57, 97, 98, 99, 100, 101, 102]⟩) (some (.int .u8 6)) (some (.int .u8 7)) none).run Tryz.prog w = .ok (.string ⟨#[54]⟩) w := fun _ => by kernel_rfl
  have h7 : ∀ w, (Instr.slice 9 (.string ⟨#[48, 49, 50, 51, 52, 53, 54, 55, 56, 57, 97, 98, 99, 100, 101, 102]⟩) (some (.int .u8 7)) (some (.int .u8 8)) none).run Tryz.prog w = .ok (.string ⟨#[55]⟩) w := fun _ => by kernel_rfl
  have h8 : ∀ w, (Instr.slice 9 (.string ⟨#[48, 49, 50, 51, 52, 53, 54, 55, 56, 57, 97, 98, 99, 100, 101, 102]⟩) (some (.int .u8 8)) (some (.int .u8 9)) none).run Tryz.prog w = .ok (.string ⟨#[56]⟩) w := fun _ => by kernel_rfl
  have h9 : ∀ w, (Instr.slice 9 (.string ⟨#[48, 49, 50, 51, 52, 53, 54, 55, 56, 57, 97, 98, 99, 100, 101, 102]⟩) (some (.int .u8 9)) (some (.int .u8 10)) none).run Tryz.prog w = .ok (.string ⟨#[57]⟩) w := fun _ => by kernel_rfl
  have h10 : ∀ w, (Instr.slice 9 (.string ⟨#[48, 49, 50, 51, 52, 53, 54, 55, 56, 57, 97, 98, 99, 100, 101, 102]⟩) (some (.int .u8 10)) (some (.int .u8 11)) none).run Tryz.prog w = .ok (.string ⟨#[97]⟩) w := fun _ => by kernel_rfl
  have h11 : ∀ w, (Instr.slice 9 (.string ⟨#[48, 49, 50, 51, 52, 53, 54, 55, 56, 57, 97, 98, 99, 100, 101, 102]⟩) (some (.int .u8 11)) (some (.int .u8 12)) none).run Tryz.prog w = .ok (.string ⟨#[98]⟩) w := fun _ => by kernel_rfl
  have h12 : ∀ w, (Instr.slice 9 (.string ⟨#[48, 49, 50, 51, 52, 53, 54, 55, 56, 57, 97, 98, 99, 100, 101, 102]⟩) (some (.int .u8 12)) (some (.int .u8 13)) none).run Tryz.prog w = .ok (.string ⟨#[99]⟩) w := fun _ => by kernel_rfl
  have h13 : ∀ w, (Instr.slice 9 (.string ⟨#[48, 49, 50, 51, 52, 53, 54, 55, 56, 57, 97, 98, 99, 100, 101, 102]⟩) (some (.int .u8 13)) (some (.int .u8 14)) none).run Tryz.prog w = .ok (.string ⟨#[100]⟩) w := fun _ => by kernel_rfl
  have h14 : ∀ w, (Instr.slice 9 (.string ⟨#[48, 49, 50, 51, 52, 53, 54, 55, 56, 57, 97, 98, 99, 100, 101, 102]⟩) (some (.int .u8 14)) (some (.int .u8 15)) none).run Tryz.prog w = .ok (.string ⟨#[101]⟩) w := fun _ => by kernel_rfl
  have h15 : ∀ w, (Instr.slice 9 (.string ⟨#[48, 49, 50, 51, 52, 53, 54, 55, 56, 57, 97, 98, 99, 100, 101, 102]⟩) (some (.int .u8 15)) (some (.int .u8 16)) none).run Tryz.prog w = .ok (.string ⟨#[102]⟩) w := fun _ => by kernel_rfl
  match k, h with
  | 0, _ => exact h0 w
  | 1, _ => exact h1 w
  | 2, _ => exact h2 w
  | 3, _ => exact h3 w
  | 4, _ => exact h4 w
  | 5, _ => exact h5 w
  | 6, _ => exact h6 w
  | 7, _ => exact h7 w
  | 8, _ => exact h8 w
  | 9, _ => exact h9 w
  | 10, _ => exact h10 w
  | 11, _ => exact h11 w
  | 12, _ => exact h12 w
  | 13, _ => exact h13 w
  | 14, _ => exact h14 w
  | 15, _ => exact h15 w
  | k + 16, h => exact absurd h (by omega)
theorem hexSliceAt (k : Nat) (h : k < 16) (w : World) : (Instr.sliceAt 9 (.string ⟨#[48, 49, 50, 51, 52, 53, 54, 55, 56, 57, 97, 98, 99, 100, 101, 102]⟩) (some (.int .u8 (k : Int))) (some (.int .u8 ((k : Int) + 1))) none).run Tryz.prog w = .ok (.string ⟨#[hexd k]⟩) w := by
  have h0 : ∀ w, (Instr.sliceAt 9 (.string ⟨#[48, 49, 50, 51, 52, 53, 54, 55, 56, 57, 97, 98, 99, 100, 101, 102]⟩) (some (.int .u8 0)) (some (.int .u8 1)) none).run Tryz.prog w = .ok (.string ⟨#[48]⟩) w := fun _ => by kernel_rfl
  have h1 : ∀ w, (Instr.sliceAt 9 (.string ⟨#[48, 49, 50, 51, 52, 53, 54, 55, 56, 57, 97, 98, 99, 100, 101, 102]⟩) (some (.int .u8 1)) (some (.int .u8 2)) none).run Tryz.prog w = .ok (.string ⟨#[49]⟩) w := fun _ => by kernel_rfl
  have h2 : ∀ w, (Instr.sliceAt 9 (.string ⟨#[48, 49, 50, 51, 52, 53, 54, 55, 56, 57, 97, 98, 99, 100, 101, 102]⟩) (some (.int .u8 2)) (some (.int .u8 3)) none).run Tryz.prog w = .ok (.string ⟨#[50]⟩) w := fun _ => by kernel_rfl
  have h3 : ∀ w, (Instr.sliceAt 9 (.string ⟨#[48, 49, 50, 51, 52, 53, 54, 55, 56, 57, 97, 98, 99, 100, 101, 102]⟩) (some (.int .u8 3)) (some (.int .u8 4)) none).run Tryz.prog w = .ok (.string ⟨#[51]⟩) w := fun _ => by kernel_rfl
  have h4 : ∀ w, (Instr.sliceAt 9 (.string ⟨#[48, 49, 50, 51, 52, 53, 54, 55, 56, 57, 97, 98, 99, 100, 101, 102]⟩) (some (.int .u8 4)) (some (.int .u8 5)) none).run Tryz.prog w = .ok (.string ⟨#[52]⟩) w := fun _ => by kernel_rfl
  have h5 : ∀ w, (Instr.sliceAt 9 (.string ⟨#[48, 49, 50, 51, 52, 53, 54, 55, 56, 57, 97, 98, 99, 100, 101, 102]⟩) (some (.int .u8 5)) (some (.int .u8 6)) none).run Tryz.prog w = .ok (.string ⟨#[53]⟩) w := fun _ => by kernel_rfl
  have h6 : ∀ w, (Instr.sliceAt 9 (.string ⟨#[48, 49, 50, 51, 52, 53, 54, 55, 56, 57, 97, 98, 99, 100, 101, 102]⟩) (some (.int .u8 6)) (some (.int .u8 7)) none).run Tryz.prog w = .ok (.string ⟨#[54]⟩) w := fun _ => by kernel_rfl
  have h7 : ∀ w, (Instr.sliceAt 9 (.string ⟨#[48, 49, 50, 51, 52, 53, 54, 55, 56, 57, 97, 98, 99, 100, 101, 102]⟩) (some (.int .u8 7)) (some (.int .u8 8)) none).run Tryz.prog w = .ok (.string ⟨#[55]⟩) w := fun _ => by kernel_rfl
  have h8 : ∀ w, (Instr.sliceAt 9 (.string ⟨#[48, 49, 50, 51, 52, 53, 54, 55, 56, 57, 97, 98, 99, 100, 101, 102]⟩) (some (.int .u8 8)) (some (.int .u8 9)) none).run Tryz.prog w = .ok (.string ⟨#[56]⟩) w := fun _ => by kernel_rfl
  have h9 : ∀ w, (Instr.sliceAt 9 (.string ⟨#[48, 49, 50, 51, 52, 53, 54, 55, 56, 57, 97, 98, 99, 100, 101, 102]⟩) (some (.int .u8 9)) (some (.int .u8 10)) none).run Tryz.prog w = .ok (.string ⟨#[57]⟩) w := fun _ => by kernel_rfl
  have h10 : ∀ w, (Instr.sliceAt 9 (.string ⟨#[48, 49, 50, 51, 52, 53, 54, 55, 56, 57, 97, 98, 99, 100, 101, 102]⟩) (some (.int .u8 10)) (some (.int .u8 11)) none).run Tryz.prog w = .ok (.string ⟨#[97]⟩) w := fun _ => by kernel_rfl
  have h11 : ∀ w, (Instr.sliceAt 9 (.string ⟨#[48, 49, 50, 51, 52, 53, 54, 55, 56, 57, 97, 98, 99, 100, 101, 102]⟩) (some (.int .u8 11)) (some (.int .u8 12)) none).run Tryz.prog w = .ok (.string ⟨#[98]⟩) w := fun _ => by kernel_rfl
  have h12 : ∀ w, (Instr.sliceAt 9 (.string ⟨#[48, 49, 50, 51, 52, 53, 54, 55, 56, 57, 97, 98, 99, 100, 101, 102]⟩) (some (.int .u8 12)) (some (.int .u8 13)) none).run Tryz.prog w = .ok (.string ⟨#[99]⟩) w := fun _ => by kernel_rfl
  have h13 : ∀ w, (Instr.sliceAt 9 (.string ⟨#[48, 49, 50, 51, 52, 53, 54, 55, 56, 57, 97, 98, 99, 100, 101, 102]⟩) (some (.int .u8 13)) (some (.int .u8 14)) none).run Tryz.prog w = .ok (.string ⟨#[100]⟩) w := fun _ => by kernel_rfl
  have h14 : ∀ w, (Instr.sliceAt 9 (.string ⟨#[48, 49, 50, 51, 52, 53, 54, 55, 56, 57, 97, 98, 99, 100, 101, 102]⟩) (some (.int .u8 14)) (some (.int .u8 15)) none).run Tryz.prog w = .ok (.string ⟨#[101]⟩) w := fun _ => by kernel_rfl
  have h15 : ∀ w, (Instr.sliceAt 9 (.string ⟨#[48, 49, 50, 51, 52, 53, 54, 55, 56, 57, 97, 98, 99, 100, 101, 102]⟩) (some (.int .u8 15)) (some (.int .u8 16)) none).run Tryz.prog w = .ok (.string ⟨#[102]⟩) w := fun _ => by kernel_rfl
  match k, h with
  | 0, _ => exact h0 w
  | 1, _ => exact h1 w
  | 2, _ => exact h2 w
  | 3, _ => exact h3 w
  | 4, _ => exact h4 w
  | 5, _ => exact h5 w
  | 6, _ => exact h6 w
  | 7, _ => exact h7 w
  | 8, _ => exact h8 w
  | 9, _ => exact h9 w
  | 10, _ => exact h10 w
  | 11, _ => exact h11 w
  | 12, _ => exact h12 w
  | 13, _ => exact h13 w
  | 14, _ => exact h14 w
  | 15, _ => exact h15 w
  | k + 16, h => exact absurd h (by omega)
theorem encode_small : ∀ b : Nat, b < 128 → Utf8.encode (b : Int) = ⟨#[b.toUInt8]⟩ := by decide +kernel
theorem wrap8 (x : Int) (h0 : 0 ≤ x) (h1 : x ≤ 255) : IntKind.u8.wrap x = x := by simp [IntKind.wrap, IntKind.signed, IntKind.bits]; omega
theorem index_ge (l : List UInt8) (c : UInt8) : decide (0 ≤ Lib.indexByte l c) = l.contains c := by
  induction l with
  | nil => simp [Lib.indexByte]
  | cons a l ih =>
    have hg := Lib.indexByte_ge l c
    rw [List.contains_cons, ← ih, Lib.indexByte]
    by_cases h : a = c
    · simp [h]
    · have h' : ¬ c = a := fun e => h e.symm
      by_cases h2 : Lib.indexByte l c = -1
      · simp [h, h', h2]
      · have h3 : 0 ≤ Lib.indexByte l c := by omega
        have h4 : 0 ≤ Lib.indexByte l c + 1 := by omega
        simp [h, h', h2, h3, h4]
set_option maxRecDepth 100000 in
set_option maxHeartbeats 2000000 in
theorem Byte_any (b : Nat) (hb : b < 256) (w : World) :
    Calls Tryz.prog 112 #[.int .u8 (b : Int)] w fun e w' => e = .returned (.string ⟨(byteW b).toArray⟩) ∧ Below w.heap.size w w' := by
  by_cases h10 : b = 10
  · subst h10
    go_enter Tryz.func112, Tryz.ntmps112
    go_wp2_with fail
    go_ret
    exact ⟨rfl, Below.refl _ _⟩
  by_cases h9 : b = 9
  · subst h9
    go_enter Tryz.func112, Tryz.ntmps112
    go_wp2_with fail
    go_ret
    exact ⟨rfl, Below.refl _ _⟩
  have h10' : ((b : Int) == 10) = false := by rw [beq_eq_false_iff_ne]; omega
  have h9' : ((b : Int) == 9) = false := by rw [beq_eq_false_iff_ne]; omega
  by_cases hx : b < 32 ∨ 127 ≤ b
  · have HB : Hid (byteW b = [92, 120, hexd (b / 16), hexd (b % 16)]) := by show _ = _; unfold byteW; rw [if_neg h10, if_neg h9, if_pos hx]
    rw [HB.out]
    have hs1 := hexSlice (b / 16) (by omega)
    have hs2 := hexSlice (b % 16) (by omega)
    have hs3 := hexSliceAt (b / 16) (by omega)
    have hs4 := hexSliceAt (b % 16) (by omega)
    have hw1 := wrap8 ((b : Int) / 16 + 1) (by omega) (by omega)
    have hw2 := wrap8 ((b : Int) % 16 + 1) (by omega) (by omega)
    rw [show ((b / 16 : Nat) : Int) = (b : Int) / 16 by omega] at hs1 hs3
    rw [show ((b % 16 : Nat) : Int) = (b : Int) % 16 by omega] at hs2 hs4
    generalize hexd (b / 16) = x1 at *
    generalize hexd (b % 16) = x2 at *
    rcases hx with hx | hx
    · go_enter Tryz.func112, Tryz.ntmps112
      go_wp2_with fail
      go_quiet (fail)
      go_wp2_with fail
      go_ret
      refine ⟨congrArg (fun s => Ending.returned (.string s)) (ByteArray.ext (by simp)), ?_⟩
      repeat (first | exact Below.refl _ _ | assumption | refine Below.drew ?_ | refine ext_drewN ?_ _ | refine ext_alloc ?_ _ | refine Below.setCell ?_ (by (try simp only [World.size_alloc, World.size_setCell, World.size_drew]); omega) _ | refine ext_step ?_ (by assumption))
    · go_enter Tryz.func112, Tryz.ntmps112
      go_wp2_with fail
      go_quiet (fail)
      go_wp2_with fail
      go_ret
      refine ⟨congrArg (fun s => Ending.returned (.string s)) (ByteArray.ext (by simp)), ?_⟩
      repeat (first | exact Below.refl _ _ | assumption | refine Below.drew ?_ | refine ext_drewN ?_ _ | refine ext_alloc ?_ _ | refine Below.setCell ?_ (by (try simp only [World.size_alloc, World.size_setCell, World.size_drew]); omega) _ | refine ext_step ?_ (by assumption))
  · have hlo : 32 ≤ b := by omega
    have hhi : b < 127 := by omega
    have HB : Hid (byteW b = if marked b then [92, b.toUInt8] else [b.toUInt8]) := by show _ = _; unfold byteW; rw [if_neg h10, if_neg h9, if_neg hx]
    have hI := fun W => IndexByte_any ⟨#[40, 41, 91, 93, 124, 38, 45, 42, 43, 63, 46, 92, 32, 9, 10, 13]⟩ (b : Int) W
    have hge := index_ge specials b.toUInt8
    have hm1 := Lib.indexByte_ge specials b.toUInt8
    rw [Int.toNat_natCast] at hI
    change ∀ W, Calls Tryz.prog _ _ W (fun e w' => e = .returned (.int .i64 (Lib.indexByte specials b.toUInt8)) ∧ w' = W) at hI
    have HM : Hid (marked b = (specials.contains b.toUInt8 || b == 94 || b == 47 || b == 34 || b == 35)) := rfl
    have henc := encode_small b (by omega)
    have h32 : decide ((b : Int) < 32) = false := decide_eq_false (by omega)
    have h127 : decide (127 ≤ (b : Int)) = false := decide_eq_false (by omega)
    generalize Lib.indexByte specials b.toUInt8 = r at *
    generalize specials.contains b.toUInt8 = c at *
    by_cases hr : 0 ≤ r
    · have hc : c = true := by rw [← hge]; exact decide_eq_true hr
      subst hc
      have HB2 : Hid (byteW b = [92, b.toUInt8]) := by show _ = _; rw [HB.out, HM.out]; simp
      rw [HB2.out]
      generalize b.toUInt8 = x at *
      have HI := Lib.hid hI
      clear hI hge
      go_enter Tryz.func112, Tryz.ntmps112
      go_wp2_with fail
      refine (HI.out _).mono ?_
      rintro e w' ⟨rfl, rfl⟩
      go_wp2_with fail
      go_ret
      exact ⟨congrArg (fun s => Ending.returned (.string s)) (ByteArray.ext (by simp)), Below.refl _ _⟩
    · obtain rfl : r = -1 := by omega
      have hc : c = false := by rw [← hge]; rfl
      subst hc
      by_cases hq : b = 94 ∨ b = 47 ∨ b = 34 ∨ b = 35
      · have HB2 : Hid (byteW b = [92, b.toUInt8]) := by
          show _ = _
          rw [HB.out, HM.out]
          rcases hq with rfl | rfl | rfl | rfl <;> rfl
        rw [HB2.out]
        have HI := Lib.hid hI
        clear hI hge
        rcases hq with rfl | rfl | rfl | rfl
        all_goals
          go_enter Tryz.func112, Tryz.ntmps112
          go_wp2_with fail
          refine (HI.out _).mono ?_
          rintro e w' ⟨rfl, rfl⟩
          go_wp2_with fail
          go_ret
          exact ⟨rfl, Below.refl _ _⟩
      · have HB2 : Hid (byteW b = [b.toUInt8]) := by
          show _ = _
          rw [HB.out, HM.out, if_neg]
          simp
          omega
        rw [HB2.out]
        have q1 : ((b : Int) == 94) = false := by rw [beq_eq_false_iff_ne]; omega
        have q2 : ((b : Int) == 47) = false := by rw [beq_eq_false_iff_ne]; omega
        have q3 : ((b : Int) == 34) = false := by rw [beq_eq_false_iff_ne]; omega
        have q4 : ((b : Int) == 35) = false := by rw [beq_eq_false_iff_ne]; omega
        generalize b.toUInt8 = x at *
        have HI := Lib.hid hI
        clear hI hge
        go_enter Tryz.func112, Tryz.ntmps112
        go_wp2_with fail
        refine (HI.out _).mono ?_
        rintro e w' ⟨rfl, rfl⟩
        go_wp2_with fail
        go_ret
        exact ⟨rfl, Below.refl _ _⟩
end Go.Proofs.YtgamknphlmcgnaaGreatDoor
namespace Go.Proofs.YtgamknphlmcgnaaGreatDoor
open Go.RowKit
def bytesW (l : List UInt8) : List UInt8 := l.flatMap fun c => byteW c.toNat
def quoteW (l : List UInt8) : List UInt8 := 34 :: (bytesW l ++ [34])
theorem byteW_len (b : Nat) : (byteW b).length ≤ 4 := by
  unfold byteW
  split
  · simp
  · split
    · simp
    · split
      · simp
      · split <;> simp
theorem bytesW_len (l : List UInt8) : (bytesW l).length ≤ 4 * l.length := by
  induction l with
  | nil => simp [bytesW]
  | cons a l ih => have := byteW_len a.toNat; simp [bytesW] at ih ⊢; omega
theorem bytesW_take (l : List UInt8) (k : Nat) (h : k < l.length) : bytesW (l.take (k + 1)) = bytesW (l.take k) ++ byteW (l.getD k 0).toNat := by
  unfold bytesW
  rw [List.take_succ_eq_append_getElem h, List.flatMap_append]
  simp [List.getD, h]
theorem str_at (l : List UInt8) (k : Nat) (h : k < l.length) (w : World) : (Instr.index 9 (.string ⟨l.toArray⟩) (.int .i64 (k : Int))).run Tryz.prog w = .ok (.int .u8 ((l.getD k 0).toNat : Int)) w := by
  rw [run_index_string w _ _ .i64 _ undStr, dif_pos ⟨by omega, by show (k : Int) < (l.length : Nat); omega⟩]
  simp [List.getD, h]
  rfl
theorem str_size (l : List UInt8) : (⟨l.toArray⟩ : ByteArray).size = l.length := by simp [ByteArray.size]
theorem re_alloc0 (w : World) (o : Obj) : Below w.heap.size w (w.alloc o) := ext_alloc (Below.refl _ w) o
theorem builder_later {T e : TypeId} {B b : Nat} {bs : List Value} {w w' : World} (h : Lib.IsBuilder T e B b bs w) (hb : Below w.heap.size w w') : Lib.IsBuilder T e B b bs w' := by
  have key : ∀ p, Lib.BuilderAt T e B b p bs w → Lib.BuilderAt T e B b p bs w' := by
    rintro p ⟨h1, v, h2, h3, h4⟩
    exact ⟨h1, v, (hb.block b (Array.getElem?_eq_some_iff.1 h2).1).trans h2, h3.kept (row := none) ⟨hb.os, hb.tape, hb.output, hb.size, fun k hk _ => hb.block k hk⟩ (by cases v.ownBlock <;> simp), h4⟩
  rcases h with h | h
  · exact .inl (key _ h)
  · exact .inr (key _ h)
def QuAt (l : List UInt8) (w : World) (i : Value) (wr : World) : Prop :=
  ∃ k : Nat, k ≤ l.length ∧ i = .int .i64 k ∧ Lib.IsBuilder 141 5 w.heap.size w.heap.size (Lib.byteCells (34 :: bytesW (l.take k))) wr ∧ Below w.heap.size w wr
set_option maxRecDepth 100000 in
set_option maxHeartbeats 2000000 in
theorem Quote_any (l : List UInt8) (hl : l.length ≤ 1099511627776) (w : World) :
    Calls Tryz.prog 68 #[.string ⟨l.toArray⟩] w fun e w' => e = .returned (.string ⟨(quoteW l).toArray⟩) ∧ Below w.heap.size w w' := by
  have hss := str_size l
  go_enter Tryz.func68, Tryz.ntmps68
  have hB0 : Lib.IsBuilder 141 5 w.heap.size w.heap.size [] (w.alloc (.cells #[.pointer none, .slice none 0 0] 141)) :=
    .inl ⟨Nat.le_refl _, .slice none 0 0, heap_alloc_last _ _, World.ownsRow_nil _ _ _ _, by simp [Value.ownBlock]⟩
  have HB0 := Lib.hid hB0
  clear hB0
  go_wp2_with fail
  refine (WriteByte_any w.heap.size w.heap.size [] 34 _ HB0.out (by simp) (by simp)).mono ?_
  rintro e w1 ⟨rfl, hI1, hb1⟩
  have hB1 : Below w.heap.size w w1 := (re_alloc0 w _).trans hb1
  go_wp2_with fail
  go_loopw [8] (fun i wr => QuAt l w i wr) (fun i _ => l.length - (intOf i).toNat)
  case atStart => exact ⟨0, by omega, rfl, hI1, hB1⟩
  case round =>
    clear hI1 hb1 hB1
    obtain ⟨k, hk, rfl, hI, hbel⟩ := hrel
    by_cases hlt : k < l.length
    · have hix := str_at l k hlt
      have HNX := Lib.hid (bytesW_take l k hlt)
      have hbl := bytesW_len (l.take k)
      have htk : (l.take k).length ≤ l.length := List.length_take_le' _ _
      have hbb := byteW_len (l.getD k 0).toNat
      generalize bytesW (l.take k) = pre at *
      have HB := Lib.hid (Byte_any (l.getD k 0).toNat (l.getD k 0).toNat_lt)
      generalize (l.getD k 0).toNat = b at *
      generalize byteW b = bw at *
      have HI := Lib.hid hI
      clear hI
      go_wp2_with fail
      refine (HB.out _).mono ?_
      rintro e w1 ⟨rfl, hb1⟩
      have hI1 := builder_later HI.out hb1
      have hB1 := ext_step hbel hb1
      have HWS := Lib.hid (WriteString_any w.heap.size w.heap.size (Lib.byteCells (34 :: pre)) ⟨bw.toArray⟩ w1 hI1 (by rw [Lib.byteCells_length, str_size]; simp; omega) hB1.size)
      clear hI1
      go_wp2_with fail
      refine HWS.out.mono ?_
      rintro e w2 ⟨rfl, hI2, hb2⟩
      have HI2 : Hid (Lib.IsBuilder 141 5 w.heap.size w.heap.size (Lib.byteCells (34 :: bytesW (l.take (k + 1)))) w2) := by
        show Lib.IsBuilder _ _ _ _ _ _
        rw [HNX.out]
        simpa [Lib.byteCells, Lib.strCells] using hI2
      have hB2 := hB1.trans hb2
      clear hI2 hb2 hb1 hB1
      go_wp2
      go_roundw
      case rel => exact ⟨k + 1, by omega, by go_num, HI2.out, hB2⟩
      case measure => simp [intOf]; omega
    · obtain rfl : k = l.length := by omega
      rw [List.take_length] at hI
      have hbl := bytesW_len l
      have HQ : Hid (quoteW l = (34 :: bytesW l) ++ [34]) := rfl
      generalize bytesW l = pre at *
      have HWB := Lib.hid (WriteByte_any w.heap.size w.heap.size (Lib.byteCells (34 :: pre)) 34 wr hI (by rw [Lib.byteCells_length]; simp; omega) hbel.size)
      clear hI
      go_wp2_with fail
      refine HWB.out.mono ?_
      rintro e w1 ⟨rfl, hI1, hb1⟩
      have hB1 := hbel.trans hb1
      have hI2 : Lib.IsBuilder 141 5 w.heap.size w.heap.size (Lib.byteCells (quoteW l)) w1 := by
        rw [HQ.out]
        simpa [Lib.byteCells] using hI1
      have HST := Lib.hid (String_any w.heap.size w.heap.size (quoteW l) w1 hI2 hB1.size)
      clear hI1 hI2 HQ
      go_wp2_with fail
      refine HST.out.mono ?_
      rintro e w2 ⟨rfl, hb2⟩
      go_wp2_with fail
      go_ret
      exact ⟨rfl, hB1.trans hb2⟩
end Go.Proofs.YtgamknphlmcgnaaGreatDoor
end
section
set_option linter.unusedSimpArgs false
set_option linter.unusedVariables false
set_option maxRecDepth 100000
set_option linter.unnecessarySimpa false
namespace Go.Proofs.YtgamknphlmcgnaaGreatDoor
/-- where the reader is: what is left of the text, how many bytes are behind, how deep, how many parts, the error and where it was -/
structure PS where
  rest : List UInt8
  at_ : Nat
  deep : Nat
  nodes : Nat
  e : Nat
  wh : Nat
namespace PS
/-- the first error is noted; nothing is left -/
def fail (st : PS) (e : Nat) : PS :=
  { st with e := if st.e = 0 then e else st.e, wh := if st.e = 0 then st.at_ else st.wh, at_ := st.at_ + st.rest.length, rest := [] }
def adv (st : PS) (k : Nat) : PS := { st with rest := st.rest.drop k, at_ := st.at_ + k }
def isWs (c : UInt8) : Bool := c == 32 || c == 9 || c == 10 || c == 13
def wsN : List UInt8 → Nat
  | [] => 0
  | c :: r => if isWs c then wsN r + 1 else 0
/-- past what doesn't count -/
def skip (st : PS) : PS := st.adv (wsN st.rest)
def head (st : PS) : UInt8 := st.rest.headD 0
/-- a byte is taken, if it is the next one -/
def take (st : PS) (b : UInt8) : PS × Bool :=
  if st.rest = [] then (st, false)
  else if st.skip.rest ≠ [] ∧ st.skip.head = b then (st.skip.adv 1, true) else (st.skip, false)
def hexL : List UInt8 := [48, 49, 50, 51, 52, 53, 54, 55, 56, 57, 97, 98, 99, 100, 101, 102]
def isHex (c : UInt8) : Bool := hexL.contains c
def hexV (c : UInt8) : Nat := hexL.idxOf c
/-- may it stand behind a backslash? -/
def escOk (c : UInt8) : Bool := (32 < c && c < 127 && (c < 97 || 122 < c) && (c < 65 || 90 < c) && (c < 48 || 57 < c)) || c == 32
def plainBad (c : UInt8) : Bool := c < 32 || 127 ≤ c || specials.contains c
def one (st : PS) : PS × Nat :=
  match st.rest with
  | [] => (st.fail 2, 0)
  | b :: rest =>
    if b ≠ 92 then (if plainBad b then (st.fail 2, 0) else (st.adv 1, b.toNat))
    else match rest with
      | [] => (st.fail 2, 0)
      | c :: r =>
        if c = 110 then (st.adv 2, 10)
        else if c = 116 then (st.adv 2, 9)
        else if c = 120 then
          match r with
          | h :: l :: _ => if isHex h && isHex l then (st.adv 4, hexV h * 16 + hexV l) else (st.fail 2, 0)
          | _ => (st.fail 2, 0)
        else if escOk c then (st.adv 2, c.toNat) else (st.fail 2, 0)
/-- from one byte to another one -/
def fromS (a b : Nat) : BS := BS.run a (b + 1 - a)
/-- one round of a set -/
def setStep (st : PS) (s : BS) : PS × BS :=
  let r1 := st.one
  let r2 := if r1.1.rest.head? = some 45 then (r1.1.adv 1).one else r1
  (if r2.2 < r1.2 then r2.1.fail 2 else r2.1, RE.orS s (fromS r1.2 r2.2))
def setGo : Nat → PS → BS → PS × BS
  | 0, st, s => (st, s)
  | f + 1, st, s => if st.e = 0 ∧ st.rest.head? ≠ some 93 then setGo f (setStep st s).1 (setStep st s).2 else (st, s)
def set (st : PS) : PS × BS :=
  let not := decide (st.rest.head? = some 94)
  let st1 := if not then st.adv 1 else st
  let r := setGo (st1.rest.length + 1) st1 BS.none
  ({ r.1 with rest := r.1.rest.drop 1, at_ := r.1.at_ + min 1 r.1.rest.length }, if not then notS' r.2 else r.2)
where notS' (s : BS) : BS := ⟨~~~s.a, ~~~s.b, ~~~s.c, ~~~s.d⟩
/-- one part; what stands in parentheses is read by f -/
def atom (f : PS → PS × Option RE) (st0 : PS) : PS × Option RE :=
  let st1 := { st0 with nodes := st0.nodes + 1 }
  if 1000 < st1.nodes then (st1.fail 3, none)
  else
    let st := st1.skip
    if st.rest.head? = some 40 then
      let st2 := { st with deep := st.deep + 1 }
      if 60 < st2.deep then (st2.fail 4, none)
      else
        let t := (st2.adv 1).take 41
        if t.2 then ({ t.1 with deep := t.1.deep - 1 }, some RE.empty)
        else
          let r := f t.1
          let u := r.1.take 41
          let st3 := if u.2 then u.1 else u.1.fail 2
          ({ st3 with deep := st3.deep - 1 }, r.2)
    else if st.rest.head? = some 91 then ((st.adv 1).set.1, some (RE.one (st.adv 1).set.2))
    else if st.rest.head? = some 46 then (st.adv 1, some (RE.one BS.all))
    else (st.one.1, some (RE.one (BS.none.add st.one.2)))
/-- what a sign behind a part makes of it -/
def sign : List (UInt8 × (Option RE → RE)) := [(42, fun r => RE.many r), (43, fun r => RE.thenL [r, some (RE.many r)]), (63, fun r => RE.anyL [r, some RE.empty])]
def bump (st : PS) (r : RE) : PS :=
  let st1 := { st with nodes := st.nodes + 1 }
  if 1000 < st1.nodes ∨ 1000 < r.size then st1.fail 3 else st1
def postGo : Nat → PS → Option RE → PS × Option RE
  | 0, st, _ => (st, none)
  | f + 1, st, r =>
    if st.e ≠ 0 then (st, none)
    else
      let t := st.take 42
      if t.2 then postGo f (t.1.bump (RE.many r)) (some (RE.many r))
      else
        let u := t.1.take 43
        if u.2 then postGo f (u.1.bump (RE.thenL [r, some (RE.many r)])) (some (RE.thenL [r, some (RE.many r)]))
        else
          let v := u.1.take 63
          if v.2 then postGo f (v.1.bump (RE.anyL [r, some RE.empty])) (some (RE.anyL [r, some RE.empty]))
          else (v.1, r)
def post (f : PS → PS × Option RE) (st : PS) : PS × Option RE :=
  let a := atom f st
  postGo (a.1.rest.length + 1) a.1 a.2
def stops (st : PS) : Bool := st.rest.isEmpty || st.head == 41 || st.head == 124 || st.head == 38 || st.head == 45
def catGo (f : PS → PS × Option RE) : Nat → PS → List (Option RE) → PS × RE
  | 0, st, acc => (st, RE.thenL acc)
  | n + 1, st, acc =>
    if st.e ≠ 0 then (st, RE.thenL acc)
    else if st.skip.stops then (st.skip, RE.thenL acc)
    else catGo f n (post f st.skip).1 (acc ++ [(post f st.skip).2])
def cat (f : PS → PS × Option RE) (st : PS) : PS × RE :=
  let a := post f st
  catGo f (a.1.rest.length + 1) a.1 [a.2]
/-- parts with a sign between -/
def listGo (g : PS → PS × RE) (b : UInt8) (F : List (Option RE) → RE) : Nat → PS → List (Option RE) → PS × RE
  | 0, st, acc => (st, F acc)
  | n + 1, st, acc =>
    if st.e ≠ 0 then (st, F acc)
    else
      let t := st.take b
      if t.2 then listGo g b F n (g t.1).1 (acc ++ [some (g t.1).2]) else (t.1, F acc)
def list (g : PS → PS × RE) (b : UInt8) (F : List (Option RE) → RE) (st : PS) : PS × RE :=
  let a := g st
  listGo g b F (a.1.rest.length + 1) a.1 [some a.2]
def and (f : PS → PS × Option RE) : PS → PS × RE := list (cat f) 38 RE.bothL
def minusGo (f : PS → PS × Option RE) : Nat → PS → RE → PS × RE
  | 0, st, r => (st, r)
  | n + 1, st, r =>
    if st.e ≠ 0 then (st, r)
    else
      let t := st.take 45
      if t.2 then minusGo f n (and f t.1).1 (RE.but (some r) (some (and f t.1).2)) else (t.1, r)
def minus (f : PS → PS × Option RE) (st : PS) : PS × RE :=
  let a := and f st
  minusGo f (a.1.rest.length + 1) a.1 a.2
def orS (f : PS → PS × Option RE) : PS → PS × RE := list (minus f) 124 RE.anyL
/-- .. so many parentheses deep at most -/
def orN : Nat → PS → PS × Option RE
  | 0, st => (st, none)
  | n + 1, st => ((orS (orN n) st).1, some (orS (orN n) st).2)
end PS
/-- the expression that a text is; the error, and where it is -/
def readS (s : List UInt8) : PS × RE := PS.orS (PS.orN 60) ⟨s, 0, 0, 0, 0, 0⟩
def readE (s : List UInt8) : PS :=
  let st := (readS s).1
  let st1 := if st.e = 0 then (if st.skip.rest = [] then st.skip else st.skip.fail 2) else st
  if st1.e = 0 ∧ 1000 < (readS s).2.size then { st1 with at_ := 0 }.fail 3 else st1
def readW (s : List UInt8) : Option RE × Nat × Nat :=
  if 65536 < s.length then (none, 3, 0)
  else if (readE s).e = 0 then (some (readS s).2, 0, 0) else (none, (readE s).e, (readE s).wh)
end Go.Proofs.YtgamknphlmcgnaaGreatDoor
namespace Go.Proofs.YtgamknphlmcgnaaGreatDoor
namespace PS
/-- from one place to a later one -/
structure Run (a b : PS) : Prop where
  le : a.at_ ≤ b.at_
  rest : b.rest = a.rest.drop (b.at_ - a.at_)
  tot : b.at_ + b.rest.length = a.at_ + a.rest.length
  err : b.e = 0 ∨ ((b.e = 2 ∨ b.e = 3 ∨ b.e = 4) ∧ a.at_ ≤ b.wh ∧ b.wh ≤ b.at_ ∧ b.rest = [])
theorem Run.refl {a : PS} (h : a.e = 0) : Run a a := ⟨Nat.le_refl _, by simp, rfl, .inl h⟩
theorem Run.trans {a b c : PS} (h : Run a b) (h' : Run b c) : Run a c := by
  refine ⟨Nat.le_trans h.le h'.le, ?_, h'.tot.trans h.tot, ?_⟩
  · rw [h'.rest, h.rest, List.drop_drop]
    congr 1
    have := h.le; have := h'.le; omega
  · rcases h'.err with h1 | ⟨h1, h2, h3⟩
    · exact .inl h1
    · exact .inr ⟨h1, Nat.le_trans h.le h2, h3⟩
theorem adv_run {a : PS} (h : a.e = 0) {k : Nat} (hk : k ≤ a.rest.length) : Run a (a.adv k) :=
  ⟨Nat.le_add_right _ _, by simp [adv], by simp [adv]; omega, .inl h⟩
theorem fail_run {a : PS} (h : a.e = 0) {e : Nat} (he : e = 2 ∨ e = 3 ∨ e = 4) : Run a (a.fail e) :=
  ⟨Nat.le_add_right _ _, by simp [fail], by simp [fail], .inr ⟨by simp [fail, h]; exact he, by simp [fail, h]⟩⟩
theorem fail_e {a : PS} (h : a.e = 0) {e : Nat} (he : e = 2 ∨ e = 3 ∨ e = 4) : (a.fail e).e ≠ 0 := by simp [fail, h]; omega
/-- a second error turns nothing -/
theorem fail_again {a : PS} (h : a.e ≠ 0) (hr : a.rest = []) (e : Nat) : a.fail e = a := by
  cases a with
  | mk r t d n x y =>
    simp only at h hr
    simp [fail, h, hr]
theorem wsN_le (l : List UInt8) : wsN l ≤ l.length := by
  induction l with
  | nil => simp [wsN]
  | cons c r ih => rw [wsN]; split <;> simp <;> omega
theorem skip_run {a : PS} (h : a.e = 0) : Run a a.skip := adv_run h (wsN_le _)
theorem take_same (a : PS) (b : UInt8) : (a.take b).1.e = a.e ∧ (a.take b).1.nodes = a.nodes ∧ (a.take b).1.deep = a.deep ∧ (a.take b).1.wh = a.wh := by
  unfold take
  split
  · exact ⟨rfl, rfl, rfl, rfl⟩
  split <;> exact ⟨rfl, rfl, rfl, rfl⟩
theorem take_run {a : PS} (h : a.e = 0) (b : UInt8) : Run a (a.take b).1 := by
  unfold take
  split
  · exact Run.refl h
  split
  · rename_i h1 h2
    have h3 : 1 ≤ a.skip.rest.length := List.length_pos_iff.2 h2.1
    exact (skip_run h).trans (adv_run (a := a.skip) h h3)
  · exact skip_run h
theorem take_go {a : PS} {b : UInt8} (h : (a.take b).2 = true) : a.at_ < (a.take b).1.at_ := by
  unfold take at h ⊢
  split
  · rename_i h1; rw [if_pos h1] at h; cases h
  split
  · simp [adv, skip]; omega
  · rename_i h1 h2; rw [if_neg h1, if_neg h2] at h; cases h
/-- what is read at a part's place: the end, where nothing is left -/
theorem take_nil {a : PS} (h : a.rest = []) (b : UInt8) : a.take b = (a, false) := by unfold take; rw [if_pos h]
theorem one_same (a : PS) : a.one.1.deep = a.deep ∧ a.one.1.nodes = a.nodes := by
  unfold one
  repeat' split
  all_goals exact ⟨rfl, rfl⟩
theorem hexV_lt {c : UInt8} (h : isHex c = true) : hexV c < 16 := by
  have : c ∈ hexL := by simpa [isHex] using h
  exact List.idxOf_lt_length_of_mem this
theorem one_run {a : PS} (h : a.e = 0) : Run a a.one.1 ∧ (a.one.1.e = 0 → a.at_ < a.one.1.at_) ∧ a.one.2 < 256 := by
  have F : Run a (a.fail 2) ∧ ((a.fail 2).e = 0 → a.at_ < (a.fail 2).at_) ∧ 0 < 256 := ⟨fail_run h (.inl rfl), fun h' => absurd h' (fail_e h (.inl rfl)), by omega⟩
  have A : ∀ k, 0 < k → k ≤ a.rest.length → ∀ x, x < 256 → Run a (a.adv k) ∧ ((a.adv k).e = 0 → a.at_ < (a.adv k).at_) ∧ x < 256 := fun k h0 hk x hx => ⟨adv_run h hk, fun _ => by simp [adv]; omega, hx⟩
  unfold one
  split
  · exact F
  · rename_i b r hr
    split
    · split
      · exact F
      · exact A 1 (by omega) (by rw [hr]; simp) _ b.toNat_lt
    · split
      · exact F
      · rename_i c r
        split
        · exact A 2 (by omega) (by rw [hr]; simp) _ (by omega)
        split
        · exact A 2 (by omega) (by rw [hr]; simp) _ (by omega)
        split
        · split
          · split
            · rename_i hx
              simp only [Bool.and_eq_true] at hx
              have h1 := hexV_lt hx.1
              have h2 := hexV_lt hx.2
              exact A 4 (by omega) (by rw [hr]; simp) _ (by omega)
            · exact F
          · exact F
        split
        · exact A 2 (by omega) (by rw [hr]; simp) _ c.toNat_lt
        · exact F
theorem setStep_run {a : PS} (h : a.e = 0) (s : BS) : Run a (setStep a s).1 ∧ ((setStep a s).1.e = 0 → a.at_ < (setStep a s).1.at_) ∧ (setStep a s).1.nodes = a.nodes ∧ (setStep a s).1.deep = a.deep := by
  obtain ⟨h1, h2, h3⟩ := one_run h
  have n1 := (one_same a).2
  have d1 := (one_same a).1
  have key : ∀ b : PS × Nat, Run a b.1 → (b.1.e = 0 → a.at_ < b.1.at_) → b.1.nodes = a.nodes → b.1.deep = a.deep → Run a (if b.2 < a.one.2 then b.1.fail 2 else b.1) ∧ ((if b.2 < a.one.2 then b.1.fail 2 else b.1).e = 0 → a.at_ < (if b.2 < a.one.2 then b.1.fail 2 else b.1).at_) ∧ (if b.2 < a.one.2 then b.1.fail 2 else b.1).nodes = a.nodes ∧ (if b.2 < a.one.2 then b.1.fail 2 else b.1).deep = a.deep := fun b hb hg hn hd => by
    split
    · rcases hb.err with e | ⟨e, _, _, hr⟩
      · exact ⟨hb.trans (fail_run e (.inl rfl)), fun h' => absurd h' (fail_e e (.inl rfl)), hn, hd⟩
      · rw [fail_again (by omega) hr]; exact ⟨hb, fun h' => by omega, hn, hd⟩
    · exact ⟨hb, hg, hn, hd⟩
  unfold setStep
  simp only
  split
  · rename_i hh
    have he : a.one.1.e = 0 := by
      rcases h1.err with e | ⟨_, _, _, hr⟩
      · exact e
      · rw [hr] at hh; simp at hh
    have hl : 1 ≤ a.one.1.rest.length := by
      cases hq : a.one.1.rest with
      | nil => rw [hq] at hh; simp at hh
      | cons _ _ => simp
    have g1 := adv_run he hl
    obtain ⟨g2, g3, _⟩ := one_run (a := a.one.1.adv 1) he
    exact key _ (h1.trans (g1.trans g2)) (fun e => by have := h2 he; have := g3 e; have : a.one.1.at_ ≤ (a.one.1.adv 1).at_ := g1.le; omega) (by rw [(one_same _).2]; exact n1) (by rw [(one_same _).1]; exact d1)
  · exact key _ h1 h2 n1 d1
theorem setGo_run (f : Nat) : ∀ (a : PS) (s : BS), a.e = 0 → Run a (setGo f a s).1 ∧ (setGo f a s).1.nodes = a.nodes ∧ (setGo f a s).1.deep = a.deep := by
  induction f with
  | zero => intro a s h; exact ⟨Run.refl h, rfl, rfl⟩
  | succ f ih =>
    intro a s h
    rw [setGo]
    split
    · obtain ⟨h1, h2, h3⟩ := setStep_run h s
      rcases h1.err with e | ⟨e, _, _, hr⟩
      · obtain ⟨g1, g2, g3⟩ := ih _ (setStep a s).2 e
        exact ⟨h1.trans g1, g2.trans h3.1, g3.trans h3.2⟩
      · have : setGo f (setStep a s).1 (setStep a s).2 = ((setStep a s).1, (setStep a s).2) := by
          cases f with
          | zero => rfl
          | succ f => rw [setGo, if_neg (by omega)]
        rw [this]; exact ⟨h1, h3⟩
    · exact ⟨Run.refl h, rfl, rfl⟩
/-- behind the closing bracket, if there is one -/
def clip (a : PS) : PS := { a with rest := a.rest.drop 1, at_ := a.at_ + min 1 a.rest.length }
theorem clip_run {a b : PS} (h : Run a b) : Run a b.clip := by
  refine ⟨Nat.le_trans h.le (Nat.le_add_right _ _), ?_, ?_, ?_⟩
  · show b.rest.drop 1 = a.rest.drop (b.at_ + min 1 b.rest.length - a.at_)
    have hle := h.le
    rw [h.rest, List.drop_drop]
    by_cases hl : b.rest = []
    · have h1 : a.rest.length ≤ b.at_ - a.at_ := by have := h.rest; rw [hl] at this; exact List.drop_eq_nil_iff.1 this.symm
      rw [List.drop_eq_nil_of_le (by omega), List.drop_eq_nil_of_le (by omega)]
    · have h1 : 1 ≤ b.rest.length := List.length_pos_iff.2 hl
      rw [← h.rest]
      congr 1; omega
  · show b.at_ + min 1 b.rest.length + (b.rest.drop 1).length = _
    have := h.tot
    rw [List.length_drop]; omega
  · rcases h.err with e | ⟨e1, e2, e3, e4⟩
    · exact .inl e
    · exact .inr ⟨e1, e2, Nat.le_trans e3 (Nat.le_add_right _ _), by show b.rest.drop 1 = []; rw [e4]; rfl⟩
theorem set_run {a : PS} (h : a.e = 0) : Run a a.set.1 ∧ a.set.1.nodes = a.nodes ∧ a.set.1.deep = a.deep := by
  unfold set
  simp only
  by_cases hn : a.rest.head? = some 94
  · have hl : 1 ≤ a.rest.length := by
      cases hq : a.rest with
      | nil => rw [hq] at hn; simp at hn
      | cons _ _ => simp
    rw [if_pos (by simpa using hn)]
    obtain ⟨g1, g2⟩ := setGo_run ((a.adv 1).rest.length + 1) (a.adv 1) BS.none h
    exact ⟨clip_run ((adv_run h hl).trans g1), g2⟩
  · rw [if_neg (by simpa using hn)]
    obtain ⟨g1, g2⟩ := setGo_run (a.rest.length + 1) a BS.none h
    exact ⟨clip_run g1, g2⟩
/-- what a part's reading leaves: c is what is saved of its size -/
structure Res (c : Nat) (a : PS) (r : PS × Option RE) : Prop where
  run : Run a r.1
  go : r.1.e = 0 → a.at_ < r.1.at_ ∧ r.1.nodes ≤ 1000 ∧ r.1.deep = a.deep ∧ ∃ x, r.2 = some x
  nodes : a.nodes < r.1.nodes ∧ r.1.nodes ≤ 1001
  nf : ∀ x, r.2 = some x → RE.nf x
  size : RE.sizeO r.2 + c + 4000 * a.nodes ≤ 4000 * r.1.nodes
/-- a place where a part may begin -/
def At (d : Nat) (a : PS) : Prop := a.e = 0 ∧ a.nodes ≤ 1000 ∧ a.deep + d = 60
/-- how what stands in parentheses is read -/
def Gd (d : Nat) (f : PS → PS × Option RE) : Prop := ∀ a, At d a → Res 92 a (f a)
theorem Res.at {c d : Nat} {a : PS} {r : PS × Option RE} (h : Res c a r) (ha : At d a) (he : r.1.e = 0) : At d r.1 := ⟨he, (h.go he).2.1, by rw [(h.go he).2.2.1]; exact ha.2.2⟩
theorem At.take {d : Nat} {a : PS} (h : At d a) (b : UInt8) : At d (a.take b).1 := by
  obtain ⟨h1, h2, h3, _⟩ := take_same a b
  exact ⟨h1.trans h.1, h2 ▸ h.2.1, by rw [h3]; exact h.2.2⟩
theorem atom_res {d : Nat} (f : PS → PS × Option RE) (hf : ∀ d', d' + 1 = d → Gd d' f) (a : PS) (ha : At d a) : Res 100 a (atom f a) := by
  obtain ⟨he, hn, hd⟩ := ha
  have N : ∀ st : PS, st.e = 0 → ∀ e, (e = 2 ∨ e = 3 ∨ e = 4) → st.nodes = a.nodes + 1 → Run a (st.fail e) → Res 100 a (st.fail e, none) := fun st hst e h2 hn' hr =>
    ⟨hr, fun h' => absurd h' (fail_e hst h2), ⟨by show a.nodes < st.nodes; omega, by show st.nodes ≤ 1001; omega⟩, (fun x hx => by cases hx), by show 0 + 100 + 4000 * a.nodes ≤ 4000 * st.nodes; omega⟩
  have L : ∀ (st : PS) (x : RE), Run a st → (st.e = 0 → a.at_ < st.at_) → st.nodes = a.nodes + 1 → st.deep = a.deep → a.nodes + 1 ≤ 1000 → RE.nf x → x.size = 1 → Res 100 a (st, some x) := fun st x hr hg hn' hd' hle hx hs =>
    ⟨hr, fun h' => ⟨hg h', by show st.nodes ≤ 1000; omega, hd', x, rfl⟩, ⟨by show a.nodes < st.nodes; omega, by show st.nodes ≤ 1001; omega⟩, (fun y hy => by cases hy; exact hx), by show x.size + 100 + 4000 * a.nodes ≤ 4000 * st.nodes; omega⟩
  have R1 : Run a { a with nodes := a.nodes + 1 } := ⟨Nat.le_refl _, by simp, rfl, .inl he⟩
  unfold atom
  simp only
  split
  · exact N { a with nodes := a.nodes + 1 } he 3 (by omega) rfl (R1.trans (fail_run (a := { a with nodes := a.nodes + 1 }) (e := 3) he (by omega)))
  rename_i hle
  have hle : a.nodes + 1 ≤ 1000 := Nat.le_of_not_lt hle
  have R2 := R1.trans (skip_run (a := { a with nodes := a.nodes + 1 }) he)
  generalize hst : ({ a with nodes := a.nodes + 1 } : PS).skip = st at *
  have se : st.e = 0 := by rw [← hst]; exact he
  have sn : st.nodes = a.nodes + 1 := by rw [← hst]; rfl
  have sd : st.deep = a.deep := by rw [← hst]; rfl
  have hl : ∀ c, st.rest.head? = some c → 1 ≤ st.rest.length := fun c hc => by
    cases hq : st.rest with
    | nil => rw [hq] at hc; simp at hc
    | cons _ _ => simp
  have RD : Run st { st with deep := st.deep + 1 } := ⟨Nat.le_refl _, by simp, rfl, .inl se⟩
  have hgo1 : ∀ c, st.rest.head? = some c → Run a (st.adv 1) ∧ a.at_ < (st.adv 1).at_ := fun c hc => ⟨R2.trans (adv_run se (hl c hc)), by have := R2.le; simp [adv]; omega⟩
  clear hst
  split
  · rename_i hc
    split
    · exact N { st with deep := st.deep + 1 } se 4 (by omega) sn ((R2.trans RD).trans (fail_run (a := { st with deep := st.deep + 1 }) (e := 4) se (by omega)))
    rename_i hdp
    have hdp : st.deep + 1 ≤ 60 := Nat.le_of_not_lt hdp
    obtain ⟨g1, g2⟩ := hgo1 _ hc
    have R3 : Run a (({ st with deep := st.deep + 1 } : PS).adv 1) := (R2.trans RD).trans (adv_run (a := { st with deep := st.deep + 1 }) se (hl _ hc))
    have g2 : a.at_ < (({ st with deep := st.deep + 1 } : PS).adv 1).at_ := g2
    obtain ⟨t1, t2, t3, _⟩ := take_same (({ st with deep := st.deep + 1 } : PS).adv 1) 41
    have R4 := R3.trans (take_run (a := ({ st with deep := st.deep + 1 } : PS).adv 1) se 41)
    have t1 : ((({ st with deep := st.deep + 1 } : PS).adv 1).take 41).1.e = 0 := t1.trans se
    have t2 : ((({ st with deep := st.deep + 1 } : PS).adv 1).take 41).1.nodes = a.nodes + 1 := t2.trans sn
    have t3 : ((({ st with deep := st.deep + 1 } : PS).adv 1).take 41).1.deep = a.deep + 1 := t3.trans (by show st.deep + 1 = _; rw [sd])
    have g3 : a.at_ < ((({ st with deep := st.deep + 1 } : PS).adv 1).take 41).1.at_ := Nat.lt_of_lt_of_le g2 (take_run (a := ({ st with deep := st.deep + 1 } : PS).adv 1) se 41).le
    generalize (({ st with deep := st.deep + 1 } : PS).adv 1).take 41 = t at *
    split
    · exact L { t.1 with deep := t.1.deep - 1 } _ ⟨R4.le, R4.rest, R4.tot, R4.err⟩ (fun _ => g3) t2 (by show t.1.deep - 1 = _; omega) hle RE.nf_empty rfl
    · obtain ⟨d', rfl⟩ : ∃ d', d' + 1 = d := ⟨d - 1, by omega⟩
      have hr := hf d' rfl t.1 ⟨t1, by omega, by omega⟩
      have R5 := R4.trans hr.run
      obtain ⟨n1, n2⟩ := hr.nodes
      have hsz := hr.size
      have hgo := hr.go
      have hnf := hr.nf
      generalize f t.1 = r at *
      have key : ∀ st3 : PS, Run a st3 → (st3.e = 0 → a.at_ < st3.at_ ∧ st3.nodes ≤ 1000 ∧ st3.deep = a.deep + 1 ∧ ∃ x, r.2 = some x) → st3.nodes = r.1.nodes → Res 100 a ({ st3 with deep := st3.deep - 1 }, r.2) := fun st3 h1 h2 h3 =>
        ⟨⟨h1.le, h1.rest, h1.tot, h1.err⟩, fun e => by
          obtain ⟨k1, k2, k3, k4⟩ := h2 e
          exact ⟨k1, k2, by show st3.deep - 1 = _; omega, k4⟩, ⟨by show a.nodes < st3.nodes; omega, by show st3.nodes ≤ 1001; omega⟩, hnf, by show RE.sizeO r.2 + 100 + 4000 * a.nodes ≤ 4000 * st3.nodes; omega⟩
      rcases R5.err with e | ⟨e, _, _, hrn⟩
      · obtain ⟨u1, u2, u3, _⟩ := take_same r.1 41
        have R6 := R5.trans (take_run e 41)
        split
        · refine key _ R6 (fun _ => ?_) u2
          obtain ⟨k1, k2, k3, k4⟩ := hgo e
          exact ⟨Nat.lt_of_lt_of_le (Nat.lt_trans g3 k1) (take_run e 41).le, by omega, by omega, k4⟩
        · exact key _ (R6.trans (fail_run (u1.trans e) (by omega))) (fun h' => absurd h' (fail_e (u1.trans e) (by omega))) u2
      · rw [take_nil hrn]
        simp only [Bool.false_eq_true, if_false]
        rw [fail_again (by omega) hrn]
        exact key _ R5 (fun h' => by omega) rfl
  split
  · rename_i hc
    obtain ⟨g1, g2⟩ := hgo1 _ hc
    obtain ⟨g3, g4⟩ := set_run (a := st.adv 1) se
    exact L _ _ (g1.trans g3) (fun _ => Nat.lt_of_lt_of_le g2 g3.le) (g4.1.trans sn) (g4.2.trans sd) hle (RE.nf_one _) (RE.one_size' _)
  split
  · rename_i hc
    obtain ⟨g1, g2⟩ := hgo1 _ hc
    exact L _ _ g1 (fun _ => g2) sn sd hle (RE.nf_one _) (RE.one_size' _)
  · obtain ⟨g1, g2, _⟩ := one_run se
    exact L _ _ (R2.trans g1) (fun h' => Nat.lt_of_le_of_lt R2.le (g2 h')) ((one_same st).2.trans sn) ((one_same st).1.trans sd) hle (RE.nf_one _) (RE.one_size' _)
theorem nf_two {a b : RE} (ha : RE.nf a) (hb : RE.nf b) : RE.nfO [some a, some b] := fun r hr => by
  simp only [List.mem_cons, Option.some.injEq, List.not_mem_nil, or_false] at hr
  rcases hr with rfl | rfl
  · exact ha
  · exact hb
theorem Res.none {c : Nat} {a st : PS} {r : Option RE} (h : Res c a (st, r)) (he : st.e ≠ 0) (hc : c ≤ 4000) : Res c a (st, Option.none) :=
  ⟨h.run, fun e => absurd e he, h.nodes, (fun x hx => by cases hx), by have := h.nodes.1; show 0 + c + 4000 * a.nodes ≤ 4000 * st.nodes; simp only at this; omega⟩
theorem rest_lt' {a b : PS} (h : Run a b) (hlt : a.at_ < b.at_) : b.rest.length < a.rest.length := by
  have h1 := h.tot
  omega
theorem postGo_bad (f : Nat) (st : PS) (r : Option RE) (h : st.e ≠ 0) : postGo f st r = (st, none) := by
  cases f with
  | zero => rfl
  | succ f => rw [postGo, if_pos h]
theorem postGo_res {a : PS} : ∀ (f : Nat) (st : PS) (r : Option RE), Res 100 a (st, r) → (st.e = 0 → st.rest.length < f) → Res 100 a (postGo f st r) := by
  intro f
  induction f with
  | zero =>
    intro st r h hf
    by_cases he : st.e = 0
    · have := hf he; omega
    · exact h.none he (by omega)
  | succ f ih =>
    intro st r h hf
    by_cases he : st.e = 0
    · have hlen := hf he
      obtain ⟨k1, k2, k3, x, rfl⟩ := h.go he
      have hnf := h.nf x rfl
      have hsz := h.size
      obtain ⟨hn1, hn2⟩ := h.nodes
      simp only at k1 k2 k3 hsz hn1 hn2
      -- behind a sign
      have B : ∀ (t : PS) (r' : RE), Run st t → st.at_ < t.at_ → t.e = 0 → t.nodes = st.nodes → t.deep = st.deep → RE.nf r' → Res 100 a (postGo f (t.bump r') (some r')) := fun t r' ht hlt te tn td hr' => by
        by_cases hbig : 1000 < t.nodes + 1 ∨ 1000 < r'.size
        · have hb : t.bump r' = ({ t with nodes := t.nodes + 1 } : PS).fail 3 := by unfold bump; simp only; rw [if_pos hbig]
          rw [hb]
          have hb2 : (({ t with nodes := t.nodes + 1 } : PS).fail 3).e ≠ 0 := fail_e (a := { t with nodes := t.nodes + 1 }) te (by omega)
          rw [postGo_bad _ _ _ hb2]
          have hT : Run t { t with nodes := t.nodes + 1 } := ⟨Nat.le_refl _, by simp, rfl, .inl te⟩
          exact ⟨(h.run.trans ht).trans (hT.trans (fail_run (a := { t with nodes := t.nodes + 1 }) te (by omega))), fun e => absurd e hb2, ⟨by show a.nodes < t.nodes + 1; omega, by show t.nodes + 1 ≤ 1001; omega⟩, (fun x hx => by cases hx), by show 0 + 100 + 4000 * a.nodes ≤ 4000 * (t.nodes + 1); omega⟩
        · have hb : t.bump r' = ({ t with nodes := t.nodes + 1 } : PS) := by unfold bump; simp only; rw [if_neg hbig]
          rw [hb]
          refine ih _ _ ⟨⟨by have := h.run.le; show a.at_ ≤ t.at_; simp only at this; omega, ?_, (h.run.trans ht).tot, .inl te⟩, fun _ => ⟨by show a.at_ < t.at_; omega, by show t.nodes + 1 ≤ 1000; omega, td.trans k3, r', rfl⟩, ⟨by show a.nodes < t.nodes + 1; omega, by show t.nodes + 1 ≤ 1001; omega⟩, (fun x hx => by cases hx; exact hr'), by show r'.size + 100 + 4000 * a.nodes ≤ 4000 * (t.nodes + 1); omega⟩ fun _ => ?_
          · exact (h.run.trans ht).rest
          · have := rest_lt' ht hlt
            show t.rest.length < f; omega
      have hO : ∀ y : RE, RE.nf y → RE.nfO [some x, some y] := fun y hy => nf_two hnf hy
      have hm : RE.nf (RE.many (some x)) := RE.nf_many fun r hr => by cases hr; exact hnf
      obtain ⟨t1, t2, t3, _⟩ := take_same st 42
      have T := take_run he 42
      rw [postGo, if_neg (by omega)]
      simp only
      split
      · rename_i ht
        exact B _ _ T (take_go ht) (t1.trans he) t2 t3 hm
      obtain ⟨u1, u2, u3, _⟩ := take_same (st.take 42).1 43
      have U := take_run (t1.trans he) 43
      split
      · rename_i hu
        exact B _ _ (T.trans U) (Nat.lt_of_le_of_lt T.le (take_go hu)) (u1.trans (t1.trans he)) (u2.trans t2) (u3.trans t3) (RE.nf_thenL (hO _ hm))
      obtain ⟨v1, v2, v3, _⟩ := take_same ((st.take 42).1.take 43).1 63
      have V := take_run (u1.trans (t1.trans he)) 63
      split
      · rename_i hv
        exact B _ _ ((T.trans U).trans V) (Nat.lt_of_le_of_lt (T.trans U).le (take_go hv)) (v1.trans (u1.trans (t1.trans he))) (v2.trans (u2.trans t2)) (v3.trans (u3.trans t3)) (RE.nf_anyL (hO _ RE.nf_empty))
      · have R := (T.trans U).trans V
        have hnn : (((st.take 42).1.take 43).1.take 63).1.nodes = st.nodes := v2.trans (u2.trans t2)
        exact ⟨h.run.trans R, fun _ => ⟨Nat.lt_of_lt_of_le k1 R.le, by show (((st.take 42).1.take 43).1.take 63).1.nodes ≤ 1000; omega, (v3.trans (u3.trans t3)).trans k3, x, rfl⟩, ⟨by show a.nodes < (((st.take 42).1.take 43).1.take 63).1.nodes; omega, by show (((st.take 42).1.take 43).1.take 63).1.nodes ≤ 1001; omega⟩, (fun y hy => by cases hy; exact hnf), by show _ ≤ 4000 * (((st.take 42).1.take 43).1.take 63).1.nodes; rw [hnn]; exact hsz⟩
    · rw [postGo_bad _ _ _ he]; exact h.none he (by omega)
theorem post_res {d : Nat} {f : PS → PS × Option RE} (hf : ∀ d', d' + 1 = d → Gd d' f) (a : PS) (ha : At d a) : Res 100 a (post f a) :=
  postGo_res _ _ _ (atom_res f hf a ha) fun _ => Nat.lt_succ_self _
theorem catGo_bad (f : PS → PS × Option RE) (n : Nat) (st : PS) (acc : List (Option RE)) (h : st.e ≠ 0) : catGo f n st acc = (st, RE.thenL acc) := by
  cases n with
  | zero => rfl
  | succ n => rw [catGo, if_pos h]
/-- so many parts, read one behind the other -/
structure Acc (c : Nat) (a st : PS) (acc : List (Option RE)) : Prop where
  run : Run a st
  go : st.e = 0 → a.at_ < st.at_ ∧ st.nodes ≤ 1000 ∧ st.deep = a.deep
  nodes : a.nodes < st.nodes ∧ st.nodes ≤ 1001
  nf : RE.nfO acc
  ne : acc ≠ []
  size : RE.sizeOs acc + c * acc.length + 4000 * a.nodes ≤ 4000 * st.nodes
theorem sizeOs_snoc (l : List (Option RE)) (r : Option RE) : RE.sizeOs (l ++ [r]) = RE.sizeOs l + (1 + RE.sizeO r) := by simp [RE.sizeOs]
theorem Acc.snoc {c d : Nat} {a st b : PS} {acc : List (Option RE)} {r : PS × Option RE} (h : Acc c a st acc) (he : st.e = 0) (hb : Run st b) (hn : b.nodes = st.nodes) (hd : b.deep = st.deep) (hr : Res (c + 1) b r) : Acc c a r.1 (acc ++ [r.2]) := by
  obtain ⟨k1, k2, k3⟩ := h.go he
  obtain ⟨n1, n2⟩ := h.nodes
  obtain ⟨m1, m2⟩ := hr.nodes
  have hs := h.size
  have hs2 := hr.size
  refine ⟨(h.run.trans hb).trans hr.run, fun e => ?_, ⟨by omega, m2⟩, fun x hx => ?_, by simp, ?_⟩
  · obtain ⟨g1, g2, g3, _⟩ := hr.go e
    have := hb.le
    exact ⟨by omega, g2, by omega⟩
  · rcases List.mem_append.1 hx with h1 | h1
    · exact h.nf x h1
    · exact hr.nf x (by simpa using (List.mem_singleton.1 h1).symm)
  · rw [sizeOs_snoc, List.length_append, List.length_singleton, Nat.mul_add, Nat.mul_one]; omega
theorem Acc.one {c : Nat} {a : PS} {r : PS × Option RE} (hr : Res (c + 1) a r) : Acc c a r.1 [r.2] := by
  have hs2 := hr.size
  refine ⟨hr.run, fun e => ?_, hr.nodes, fun x hx => hr.nf x (by simpa using (List.mem_singleton.1 hx).symm), by simp, ?_⟩
  · obtain ⟨g1, g2, g3, _⟩ := hr.go e
    exact ⟨g1, g2, g3⟩
  · simp only [RE.sizeOs, List.map_cons, List.map_nil, List.sum_cons, List.sum_nil, List.length_singleton]; omega
theorem Acc.done {c k : Nat} {a st b : PS} {acc : List (Option RE)} (h : Acc c a st acc) (hb : Run a b) (hle : st.at_ ≤ b.at_) (hn : b.nodes = st.nodes) (hd : b.deep = st.deep) (he : b.e = 0 → st.e = 0) (F : List (Option RE) → RE) (hF : RE.nf (F acc)) (hs : (F acc).size ≤ k + RE.sizeOs acc) (hk : k ≤ c) : Res (c - k) a (b, some (F acc)) := by
  obtain ⟨n1, n2⟩ := h.nodes
  have hs2 := h.size
  have hl : 1 ≤ acc.length := List.length_pos_iff.2 h.ne
  have hcl : c ≤ c * acc.length := Nat.le_mul_of_pos_right c hl
  refine ⟨hb, fun e => ?_, ⟨by show a.nodes < b.nodes; omega, by show b.nodes ≤ 1001; omega⟩, fun x hx => by cases hx; exact hF, ?_⟩
  · obtain ⟨k1, k2, k3⟩ := h.go (he e)
    exact ⟨Nat.lt_of_lt_of_le k1 hle, by show b.nodes ≤ 1000; omega, hd.trans k3, _, rfl⟩
  · show (F acc).size + (c - k) + 4000 * a.nodes ≤ 4000 * b.nodes
    rw [hn]; omega
theorem catGo_res {d : Nat} {f : PS → PS × Option RE} (hf : ∀ d', d' + 1 = d → Gd d' f) {a : PS} (ha : At d a) : ∀ (n : Nat) (st : PS) (acc : List (Option RE)), Acc 99 a st acc → (st.e = 0 → st.rest.length < n) →
    Res 98 a ((catGo f n st acc).1, some (catGo f n st acc).2) := by
  intro n
  induction n with
  | zero =>
    intro st acc h hn
    by_cases he : st.e = 0
    · have := hn he; omega
    · rw [catGo_bad _ _ _ _ he]
      exact h.done (k := 1) h.run (Nat.le_refl _) rfl rfl id RE.thenL (RE.nf_thenL h.nf) (RE.size_thenL acc) (by omega)
  | succ n ih =>
    intro st acc h hn
    by_cases he : st.e = 0
    · have hln := hn he
      rw [catGo, if_neg (by omega)]
      split
      · exact h.done (k := 1) (h.run.trans (skip_run he)) (skip_run he).le rfl rfl (fun _ => he) RE.thenL (RE.nf_thenL h.nf) (RE.size_thenL acc) (by omega)
      · have hat : At d st.skip := ⟨he, (h.go he).2.1, by show st.deep + d = 60; rw [(h.go he).2.2]; exact ha.2.2⟩
        have hr := post_res hf st.skip hat
        refine ih _ _ (h.snoc (d := d) he (skip_run he) rfl rfl hr) fun e => ?_
        have h1 := rest_lt' hr.run (hr.go e).1
        have h2 : st.skip.rest.length ≤ st.rest.length := by show (st.rest.drop _).length ≤ _; rw [List.length_drop]; omega
        omega
    · rw [catGo_bad _ _ _ _ he]
      exact h.done (k := 1) h.run (Nat.le_refl _) rfl rfl id RE.thenL (RE.nf_thenL h.nf) (RE.size_thenL acc) (by omega)
theorem cat_res {d : Nat} {f : PS → PS × Option RE} (hf : ∀ d', d' + 1 = d → Gd d' f) (a : PS) (ha : At d a) : Res 98 a ((cat f a).1, some (cat f a).2) :=
  catGo_res hf ha _ _ _ (Acc.one (post_res hf a ha)) fun _ => Nat.lt_succ_self _
theorem listGo_bad (g : PS → PS × RE) (b : UInt8) (F : List (Option RE) → RE) (n : Nat) (st : PS) (acc : List (Option RE)) (h : st.e ≠ 0) : listGo g b F n st acc = (st, F acc) := by
  cases n with
  | zero => rfl
  | succ n => rw [listGo, if_pos h]
theorem listGo_res {d c k : Nat} {g : PS → PS × RE} (hg : ∀ a, At d a → Res (c + 1) a ((g a).1, some (g a).2)) (b : UInt8) (F : List (Option RE) → RE) (hF : ∀ l, RE.nfO l → RE.nf (F l) ∧ (F l).size ≤ k + RE.sizeOs l) (hk : k ≤ c) {a : PS} (ha : At d a) :
    ∀ (n : Nat) (st : PS) (acc : List (Option RE)), Acc c a st acc → (st.e = 0 → st.rest.length < n) → Res (c - k) a ((listGo g b F n st acc).1, some (listGo g b F n st acc).2) := by
  intro n
  induction n with
  | zero =>
    intro st acc h hn
    by_cases he : st.e = 0
    · have := hn he; omega
    · rw [listGo_bad _ _ _ _ _ _ he]
      exact h.done h.run (Nat.le_refl _) rfl rfl id F (hF _ h.nf).1 (hF _ h.nf).2 hk
  | succ n ih =>
    intro st acc h hn
    by_cases he : st.e = 0
    · have hln := hn he
      obtain ⟨t1, t2, t3, _⟩ := take_same st b
      have T := take_run he b
      rw [listGo, if_neg (by omega)]
      simp only
      split
      · rename_i ht
        have hat : At d (st.take b).1 := ⟨t1.trans he, by have := (h.go he).2.1; omega, by rw [t3, (h.go he).2.2]; exact ha.2.2⟩
        have hr := hg _ hat
        refine ih _ _ (h.snoc (d := d) he T t2 t3 hr) fun e => ?_
        have h1 := rest_lt' hr.run (hr.go e).1
        have h2 := rest_lt' T (take_go ht)
        simp only at h1
        omega
      · exact h.done (h.run.trans T) T.le t2 t3 (fun _ => he) F (hF _ h.nf).1 (hF _ h.nf).2 hk
    · rw [listGo_bad _ _ _ _ _ _ he]
      exact h.done h.run (Nat.le_refl _) rfl rfl id F (hF _ h.nf).1 (hF _ h.nf).2 hk
theorem list_res {d c k : Nat} {g : PS → PS × RE} (hg : ∀ a, At d a → Res (c + 1) a ((g a).1, some (g a).2)) (b : UInt8) (F : List (Option RE) → RE) (hF : ∀ l, RE.nfO l → RE.nf (F l) ∧ (F l).size ≤ k + RE.sizeOs l) (hk : k ≤ c) (a : PS) (ha : At d a) :
    Res (c - k) a ((list g b F a).1, some (list g b F a).2) :=
  listGo_res hg b F hF hk ha _ _ _ (Acc.one (hg a ha)) fun _ => Nat.lt_succ_self _
theorem and_res {d : Nat} {f : PS → PS × Option RE} (hf : ∀ d', d' + 1 = d → Gd d' f) (a : PS) (ha : At d a) : Res 95 a ((and f a).1, some (and f a).2) :=
  list_res (c := 97) (k := 2) (cat_res hf) 38 RE.bothL (fun l h => ⟨RE.nf_bothL h, RE.size_bothL l⟩) (by omega) a ha
theorem minusGo_bad (f : PS → PS × Option RE) (n : Nat) (st : PS) (r : RE) (h : st.e ≠ 0) : minusGo f n st r = (st, r) := by
  cases n with
  | zero => rfl
  | succ n => rw [minusGo, if_pos h]
theorem minusGo_res {d : Nat} {f : PS → PS × Option RE} (hf : ∀ d', d' + 1 = d → Gd d' f) {a : PS} (ha : At d a) : ∀ (n : Nat) (st : PS) (r : RE), Res 95 a (st, some r) → (st.e = 0 → st.rest.length < n) →
    Res 95 a ((minusGo f n st r).1, some (minusGo f n st r).2) := by
  intro n
  induction n with
  | zero =>
    intro st r h hn
    exact h
  | succ n ih =>
    intro st r h hn
    by_cases he : st.e = 0
    · have hln := hn he
      obtain ⟨t1, t2, t3, _⟩ := take_same st 45
      have T := take_run he 45
      obtain ⟨k1, k2, k3, _⟩ := h.go he
      obtain ⟨n1, n2⟩ := h.nodes
      simp only at k1 k2 k3 n1 n2
      have hsz := h.size
      have hnf := h.nf r rfl
      rw [minusGo, if_neg (by omega)]
      simp only
      split
      · rename_i ht
        have hat : At d (st.take 45).1 := ⟨t1.trans he, by omega, by rw [t3, k3]; exact ha.2.2⟩
        have hr := and_res hf _ hat
        have hs2 := hr.size
        obtain ⟨m1, m2⟩ := hr.nodes
        have hrn := hr.nf _ rfl
        simp only [RE.sizeO] at hsz hs2
        simp only at m1 m2
        have hrun := (h.run.trans T).trans hr.run
        have hle := T.le
        refine ih _ _ ⟨hrun, fun e => ?_, ⟨by show a.nodes < (and f (st.take 45).1).1.nodes; omega, m2⟩, fun x hx => ?_, ?_⟩ fun e => ?_
        · obtain ⟨g1, g2, g3, _⟩ := hr.go e
          simp only at g1 g2 g3
          exact ⟨by show a.at_ < (and f (st.take 45).1).1.at_; omega, g2, by show (and f (st.take 45).1).1.deep = a.deep; omega, _, rfl⟩
        · cases hx
          exact RE.nf_but (fun y hy => by cases hy; exact hnf) (fun y hy => by cases hy; exact hrn)
        · have := RE.size_but (some r) (some (and f (st.take 45).1).2)
          simp only [RE.sizeO] at this
          show (RE.but (some r) (some (and f (st.take 45).1).2)).size + 95 + 4000 * a.nodes ≤ 4000 * (and f (st.take 45).1).1.nodes
          omega
        · have h1 := rest_lt' hr.run (hr.go e).1
          have h2 := rest_lt' T (take_go ht)
          simp only at h1
          omega
      · exact ⟨h.run.trans T, fun _ => ⟨Nat.lt_of_lt_of_le k1 T.le, by show (st.take 45).1.nodes ≤ 1000; omega, t3.trans k3, r, rfl⟩, ⟨by show a.nodes < (st.take 45).1.nodes; omega, by show (st.take 45).1.nodes ≤ 1001; omega⟩, h.nf, by show _ ≤ 4000 * (st.take 45).1.nodes; rw [t2]; exact hsz⟩
    · rw [minusGo_bad _ _ _ _ he]; exact h
theorem minus_res {d : Nat} {f : PS → PS × Option RE} (hf : ∀ d', d' + 1 = d → Gd d' f) (a : PS) (ha : At d a) : Res 95 a ((minus f a).1, some (minus f a).2) :=
  minusGo_res hf ha _ _ _ (and_res hf a ha) fun _ => Nat.lt_succ_self _
theorem orS_res {d : Nat} {f : PS → PS × Option RE} (hf : ∀ d', d' + 1 = d → Gd d' f) (a : PS) (ha : At d a) : Res 93 a ((orS f a).1, some (orS f a).2) :=
  list_res (c := 94) (k := 1) (minus_res hf) 124 RE.anyL (fun l h => ⟨RE.nf_anyL h, RE.size_anyL l⟩) (by omega) a ha
theorem Res.weak {c c' : Nat} {a : PS} {r : PS × Option RE} (h : Res c a r) (hc : c' ≤ c) : Res c' a r := ⟨h.run, h.go, h.nodes, h.nf, by have := h.size; omega⟩
theorem orN_res : ∀ d, Gd d (orN (d + 1))
  | 0 => fun a ha => (orS_res (d := 0) (f := orN 0) (fun d' h => absurd h (by omega)) a ha).weak (by omega)
  | d + 1 => fun a ha => (orS_res (d := d + 1) (f := orN (d + 1)) (fun d' h => (show d = d' by omega) ▸ orN_res d) a ha).weak (by omega)
end PS
end Go.Proofs.YtgamknphlmcgnaaGreatDoor
namespace Go.Proofs.YtgamknphlmcgnaaGreatDoor
namespace PS
/-- no less deep than ahead, and not too deep -/
def Dk (a b : PS) : Prop := a.deep ≤ b.deep ∧ b.deep ≤ 61
theorem Dk.of {a b : PS} (h : b.deep = a.deep) (ha : a.deep ≤ 60) : Dk a b := ⟨by omega, by omega⟩
theorem fail_deep (a : PS) (e : Nat) : (a.fail e).deep = a.deep := rfl
theorem take_deep (a : PS) (b : UInt8) : (a.take b).1.deep = a.deep := (take_same a b).2.2.1
theorem bump_deep (a : PS) (r : RE) : (a.bump r).deep = a.deep := by unfold bump; simp only; split <;> rfl
theorem atom_dk {d : Nat} (f : PS → PS × Option RE) (hf : ∀ d', d' + 1 = d → ∀ a, At d' a → Dk a (f a).1) (a : PS) (ha : At d a) : Dk a (atom f a).1 := by
  obtain ⟨he, hn, hd⟩ := ha
  unfold atom
  simp only
  split
  · exact Dk.of rfl (by omega)
  rename_i hle
  have hle : a.nodes + 1 ≤ 1000 := Nat.le_of_not_lt hle
  generalize hst : ({ a with nodes := a.nodes + 1 } : PS).skip = st at *
  have se : st.e = 0 := by rw [← hst]; exact he
  have sn : st.nodes = a.nodes + 1 := by rw [← hst]; rfl
  have sd : st.deep = a.deep := by rw [← hst]; rfl
  clear hst
  split
  · split
    · exact ⟨by show a.deep ≤ st.deep + 1; omega, by show st.deep + 1 ≤ 61; omega⟩
    rename_i hdp
    have hdp : st.deep + 1 ≤ 60 := Nat.le_of_not_lt hdp
    obtain ⟨t1, t2, t3, _⟩ := take_same (({ st with deep := st.deep + 1 } : PS).adv 1) 41
    have t1 : ((({ st with deep := st.deep + 1 } : PS).adv 1).take 41).1.e = 0 := t1.trans se
    have t2 : ((({ st with deep := st.deep + 1 } : PS).adv 1).take 41).1.nodes = a.nodes + 1 := t2.trans sn
    have t3 : ((({ st with deep := st.deep + 1 } : PS).adv 1).take 41).1.deep = a.deep + 1 := t3.trans (by show st.deep + 1 = _; rw [sd])
    generalize (({ st with deep := st.deep + 1 } : PS).adv 1).take 41 = t at *
    split
    · exact ⟨by show a.deep ≤ t.1.deep - 1; omega, by show t.1.deep - 1 ≤ 61; omega⟩
    · obtain ⟨d', rfl⟩ : ∃ d', d' + 1 = d := ⟨d - 1, by omega⟩
      have hr := hf d' rfl t.1 ⟨t1, by omega, by omega⟩
      have key : ∀ st3 : PS, st3.deep = (f t.1).1.deep → Dk a { st3 with deep := st3.deep - 1 } := fun st3 h => by
        obtain ⟨h1, h2⟩ := hr
        exact ⟨by show a.deep ≤ st3.deep - 1; omega, by show st3.deep - 1 ≤ 61; omega⟩
      split
      · exact key _ (take_deep _ _)
      · exact key _ (take_deep _ _)
  split
  · obtain ⟨_, g4⟩ := set_run (a := st.adv 1) se
    exact Dk.of (g4.2.trans sd) (by omega)
  split
  · exact Dk.of sd (by omega)
  · exact Dk.of ((one_same st).1.trans sd) (by omega)
theorem postGo_deep : ∀ (f : Nat) (st : PS) (r : Option RE), (postGo f st r).1.deep = st.deep := by
  intro f
  induction f with
  | zero => intro st r; rfl
  | succ f ih =>
    intro st r
    rw [postGo]
    split
    · rfl
    simp only
    split
    · rw [ih, bump_deep, take_deep]
    split
    · rw [ih, bump_deep, take_deep, take_deep]
    split
    · rw [ih, bump_deep, take_deep, take_deep, take_deep]
    · show (((st.take 42).1.take 43).1.take 63).1.deep = _
      rw [take_deep, take_deep, take_deep]
theorem post_dk {d : Nat} (f : PS → PS × Option RE) (hf : ∀ d', d' + 1 = d → ∀ a, At d' a → Dk a (f a).1) (a : PS) (ha : At d a) : Dk a (post f a).1 := by
  have := atom_dk f hf a ha
  unfold post
  simp only
  unfold Dk at this ⊢
  rw [postGo_deep]; exact this
theorem catGo_dk {d : Nat} {f : PS → PS × Option RE} (hg : ∀ d', d' + 1 = d → Gd d' f) (hf : ∀ d', d' + 1 = d → ∀ a, At d' a → Dk a (f a).1) {a : PS} (ha : At d a) :
    ∀ (n : Nat) (st : PS) (acc : List (Option RE)), Dk a st → (st.e = 0 → At d st) → Dk a (catGo f n st acc).1 := by
  intro n
  induction n with
  | zero => intro st acc h hat; exact h
  | succ n ih =>
    intro st acc h hat
    by_cases he : st.e = 0
    · rw [catGo, if_neg (by omega)]
      split
      · exact h
      · have hs : At d st.skip := hat he
        have hr := post_res hg st.skip hs
        have hd := post_dk f hf st.skip hs
        exact ih _ _ ⟨Nat.le_trans h.1 hd.1, hd.2⟩ fun e => hr.at hs e
    · rw [catGo_bad _ _ _ _ he]; exact h
theorem cat_dk {d : Nat} {f : PS → PS × Option RE} (hg : ∀ d', d' + 1 = d → Gd d' f) (hf : ∀ d', d' + 1 = d → ∀ a, At d' a → Dk a (f a).1) (a : PS) (ha : At d a) : Dk a (cat f a).1 :=
  catGo_dk hg hf ha _ _ _ (post_dk f hf a ha) fun e => (post_res hg a ha).at ha e
theorem listGo_dk {d c : Nat} {g : PS → PS × RE} (hg : ∀ a, At d a → Res c a ((g a).1, some (g a).2)) (hd : ∀ a, At d a → Dk a (g a).1) (b : UInt8) (F : List (Option RE) → RE) {a : PS} (ha : At d a) :
    ∀ (n : Nat) (st : PS) (acc : List (Option RE)), Dk a st → (st.e = 0 → At d st) → Dk a (listGo g b F n st acc).1 := by
  intro n
  induction n with
  | zero => intro st acc h hat; exact h
  | succ n ih =>
    intro st acc h hat
    by_cases he : st.e = 0
    · rw [listGo, if_neg (by omega)]
      simp only
      have ht : At d (st.take b).1 := (hat he).take b
      split
      · have hr := hg _ ht
        have h2 := hd _ ht
        exact ih _ _ ⟨Nat.le_trans h.1 (by have := h2.1; rw [take_deep] at this; exact this), h2.2⟩ fun e => hr.at ht e
      · show Dk a (st.take b).1
        unfold Dk; rw [take_deep]; exact h
    · rw [listGo_bad _ _ _ _ _ _ he]; exact h
theorem list_dk {d c : Nat} {g : PS → PS × RE} (hg : ∀ a, At d a → Res c a ((g a).1, some (g a).2)) (hd : ∀ a, At d a → Dk a (g a).1) (b : UInt8) (F : List (Option RE) → RE) (a : PS) (ha : At d a) : Dk a (list g b F a).1 :=
  listGo_dk hg hd b F ha _ _ _ (hd a ha) fun e => (hg a ha).at ha e
theorem and_dk {d : Nat} {f : PS → PS × Option RE} (hg : ∀ d', d' + 1 = d → Gd d' f) (hf : ∀ d', d' + 1 = d → ∀ a, At d' a → Dk a (f a).1) (a : PS) (ha : At d a) : Dk a (and f a).1 :=
  list_dk (cat_res hg) (cat_dk hg hf) 38 RE.bothL a ha
theorem minusGo_dk {d : Nat} {f : PS → PS × Option RE} (hg : ∀ d', d' + 1 = d → Gd d' f) (hf : ∀ d', d' + 1 = d → ∀ a, At d' a → Dk a (f a).1) {a : PS} (ha : At d a) :
    ∀ (n : Nat) (st : PS) (r : RE), Dk a st → (st.e = 0 → At d st) → Dk a (minusGo f n st r).1 := by
  intro n
  induction n with
  | zero => intro st acc h hat; exact h
  | succ n ih =>
    intro st acc h hat
    by_cases he : st.e = 0
    · rw [minusGo, if_neg (by omega)]
      simp only
      have ht : At d (st.take 45).1 := (hat he).take 45
      split
      · have hr := and_res hg _ ht
        have h2 := and_dk hg hf _ ht
        exact ih _ _ ⟨Nat.le_trans h.1 (by have := h2.1; rw [take_deep] at this; exact this), h2.2⟩ fun e => hr.at ht e
      · show Dk a (st.take 45).1
        unfold Dk; rw [take_deep]; exact h
    · rw [minusGo_bad _ _ _ _ he]; exact h
theorem minus_dk {d : Nat} {f : PS → PS × Option RE} (hg : ∀ d', d' + 1 = d → Gd d' f) (hf : ∀ d', d' + 1 = d → ∀ a, At d' a → Dk a (f a).1) (a : PS) (ha : At d a) : Dk a (minus f a).1 :=
  minusGo_dk hg hf ha _ _ _ (and_dk hg hf a ha) fun e => (and_res hg a ha).at ha e
theorem orS_dk {d : Nat} {f : PS → PS × Option RE} (hg : ∀ d', d' + 1 = d → Gd d' f) (hf : ∀ d', d' + 1 = d → ∀ a, At d' a → Dk a (f a).1) (a : PS) (ha : At d a) : Dk a (orS f a).1 :=
  list_dk (minus_res hg) (minus_dk hg hf) 124 RE.anyL a ha
theorem orN_fst (d : Nat) (a : PS) : (orN (d + 1) a).1 = (orS (orN d) a).1 := rfl
theorem orN_dk : ∀ d a, At d a → Dk a (orN (d + 1) a).1 := by
  intro d
  induction d with
  | zero =>
    intro a ha
    rw [orN_fst]
    exact orS_dk (d := 0) (f := orN 0) (fun d' h => absurd h (by omega)) (fun d' h => absurd h (by omega)) a ha
  | succ d ih =>
    intro a ha
    rw [orN_fst]
    exact orS_dk (d := d + 1) (f := orN (d + 1)) (fun d' h => (show d = d' by omega) ▸ orN_res d) (fun d' h => (show d = d' by omega) ▸ ih) a ha
end PS
end Go.Proofs.YtgamknphlmcgnaaGreatDoor
end
