/-
  Texts quoted, walked through the program: the program's own 'Quote' and the statement's.
-/
import Derived.Test.YticpjjmacmmpjaaGreatDoorReS
import Derived.BigQuiet
import Derived.Test.YticpjjmacmmpjaaGreatDoorMix
import Derived.Test.YticpjjmacmmpjaaGreatDoorSetP
set_option linter.unusedSimpArgs false
set_option linter.unusedVariables false
set_option maxRecDepth 100000
set_option linter.unnecessarySimpa false
namespace Go.Proofs.YticpjjmacmmpjaaGreatDoor
open Go.RowKit
/-- a digit to the base 16 -/
def hexd (k : Nat) : UInt8 := if k < 10 then (48 + k).toUInt8 else (87 + k).toUInt8
def specials : List UInt8 := [40, 41, 91, 93, 124, 38, 45, 42, 43, 63, 46, 92, 32, 9, 10, 13]
def marked (b : Nat) : Bool := specials.contains b.toUInt8 || b == 94 || b == 47 || b == 34 || b == 35
/-- a byte as it is written -/
def byteW (b : Nat) : List UInt8 := if b = 10 then [92, 110] else if b = 9 then [92, 116] else if b < 32 ∨ 127 ≤ b then [92, 120, hexd (b / 16), hexd (b % 16)] else if marked b then [92, b.toUInt8] else [b.toUInt8]
theorem hexSlice (k : Nat) (h : k < 16) (w : World) : (Instr.slice 9 (.string ⟨#[48, 49, 50, 51, 52, 53, 54, 55, 56, 57, 97, 98, 99, 100, 101, 102]⟩) (some (.int .u8 (k : Int))) (some (.int .u8 ((k : Int) + 1))) none).run Tryz.prog w = .ok (.string ⟨#[hexd k]⟩) w := by
  have h0 : ∀ w, (Instr.slice 9 (.string ⟨#[48, 49, 50, 51, 52, 53, 54, 55, 56, 57, 97, 98, 99, 100, 101, 102]⟩) (some (.int .u8 0)) (some (.int .u8 1)) none).run Tryz.prog w = .ok (.string ⟨#[48]⟩) w := fun _ => by kernel_rfl
  have h1 : ∀ w, (Instr.slice 9 (.string ⟨#[48, 49, 50, 51, 52, 53, 54, 55, 56, 57, 97, 98, 99, 100, 101, 102]⟩) (some (.int .u8 1)) (some (.int .u8 2)) none).run Tryz.prog w = .ok (.string ⟨#[49]⟩) w := fun _ => by kernel_rfl
  have h2 : ∀ w, (Instr.slice 9 (.string ⟨#[48, 49, 50, 51, 52, 53, 54, 55, 56, 57, 97, 98, 99, 100, 101, 102]⟩) (some (.int .u8 2)) (some (.int .u8 3)) none).run Tryz.prog w = .ok (.string ⟨#[50]⟩) w := fun _ => by kernel_rfl
  have h3 : ∀ w, (Instr.slice 9 (.string ⟨#[48, 49, 50, 51, 52, 53, 54, 55, 56, 57, 97, 98, 99, 100, 101, 102]⟩) (some (.int .u8 3)) (some (.int .u8 4)) none).run Tryz.prog w = .ok (.string ⟨#[51]⟩) w := fun _ => by kernel_rfl
  have h4 : ∀ w, (Instr.slice 9 (.string ⟨#[48, 49, 50, 51, 52, 53, 54, 55, 56, 57, 97, 98, 99, 100, 101, 102]⟩) (some (.int .u8 4)) (some (.int .u8 5)) none).run Tryz.prog w = .ok (.string ⟨#[52]⟩) w := fun _ => by kernel_rfl
  have h5 : ∀ w, (Instr.slice 9 (.string ⟨#[48, 49, 50, 51, 52, 53, 54, 55, 56, 57, 97, 98, 99, 100, 101, 102]⟩) (some (.int .u8 5)) (some (.int .u8 6)) none).run Tryz.prog w = .ok (.string ⟨#[53]⟩) w := fun _ => by kernel_rfl
  have h6 : ∀ w, (Instr.slice 9 (.string ⟨#[48, 49, 50, 51, 52, 53, 54, 55, 56, 57, 97, 98, 99, 100, 101, 102]⟩) (some (.int .u8 6)) (some (.int .u8 7)) none).run Tryz.prog w = .ok (.string ⟨#[54]⟩) w := fun _ => by kernel_rfl
  have h7 : ∀ w, (Instr.slice 9 (.string ⟨#[48, 49, 50, 51, 52, 53, 54, 55, 56, 57, 97, 98, 99, 100, 101, 102]⟩) (some (.int .u8 7)) (some (.int .u8 8)) none).run Tryz.prog w = .ok (.string ⟨#[55]⟩) w := fun _ => by kernel_rfl
  have h8 : ∀ w, (Instr.slice 9 (.string ⟨#[48, 49, 50, 51, 52, 53, 54, 55, 56, 57, 97, 98, 99, 100, 101, 102]⟩) (some (.int .u8 8)) (some (.int .u8 9)) none).run Tryz.prog w = .ok (.string ⟨#[56]⟩) w := fun _ => by kernel_rfl
  have h9 : ∀ w, (Instr.slice 9 (.string ⟨#[48, 49, 50, 51, 52, 53, 54, 55, 56, 57, 97, 98, 99, 100, 101, 102]⟩) (some (.int .u8 9)) (some (.int .u8 10)) none).run Tryz.prog w = .ok (.string ⟨#[57]⟩) w := fun _ => by kernel_rfl
  have h10 : ∀ w, (Instr.slice 9 (.string ⟨#[48, 49, 50, 51, 52, 53, 54, 55, 56, 57, 97, 98, 99, 100, 101, 102]⟩) (some (.int .u8 10)) (some (.int .u8 11)) none).run Tryz.prog w = .ok (.string ⟨#[97]⟩) w := fun _ => by kernel_rfl
  have h11 : ∀ w, (Instr.slice 9 (.string ⟨#[48, 49, 50, 51, 52, 53, 54, 55, 56, 57, 97, 98, 99, 100, 101, 102]⟩) (some (.int .u8 11)) (some (.int .u8 12)) none).run Tryz.prog w = .ok (.string ⟨#[98]⟩) w := fun _ => by kernel_rfl
  have h12 : ∀ w, (Instr.slice 9 (.string ⟨#[48, 49, 50, 51, 52, 53, 54, 55, 56, 57, 97, 98, 99, 100, 101, 102]⟩) (some (.int .u8 12)) (some (.int .u8 13)) none).run Tryz.prog w = .ok (.string ⟨#[99]⟩) w := fun _ => by kernel_rfl
  have h13 : ∀ w, (Instr.slice 9 (.string ⟨#[48, 49, 50, 51, 52, 53, 54, 55, 56, 57, 97, 98, 99, 100, 101, 102]⟩) (some (.int .u8 13)) (some (.int .u8 14)) none).run Tryz.prog w = .ok (.string ⟨#[100]⟩) w := fun _ => by kernel_rfl
  have h14 : ∀ w, (Instr.slice 9 (.string ⟨#[48, 49, 50, 51, 52, 53, 54, 55, 56, 57, 97, 98, 99, 100, 101, 102]⟩) (some (.int .u8 14)) (some (.int .u8 15)) none).run Tryz.prog w = .ok (.string ⟨#[101]⟩) w := fun _ => by kernel_rfl
  have h15 : ∀ w, (Instr.slice 9 (.string ⟨#[48, 49, 50, 51, 52, 53, 54, 55, 56, 57, 97, 98, 99, 100, 101, 102]⟩) (some (.int .u8 15)) (some (.int .u8 16)) none).run Tryz.prog w = .ok (.string ⟨#[102]⟩) w := fun _ => by kernel_rfl
  match k, h with
  | 0, _ => exact h0 w
  | 1, _ => exact h1 w
  | 2, _ => exact h2 w
  | 3, _ => exact h3 w
  | 4, _ => exact h4 w
  | 5, _ => exact h5 w
  | 6, _ => exact h6 w
  | 7, _ => exact h7 w
  | 8, _ => exact h8 w
  | 9, _ => exact h9 w
  | 10, _ => exact h10 w
  | 11, _ => exact h11 w
  | 12, _ => exact h12 w
  | 13, _ => exact h13 w
  | 14, _ => exact h14 w
  | 15, _ => exact h15 w
  | k + 16, h => exact absurd h (by omega)
theorem hexSliceAt (k : Nat) (h : k < 16) (w : World) : (Instr.sliceAt 9 (.string ⟨#[48, 49, 50, 51, 52, 53, 54, 55, 56, 57, 97, 98, 99, 100, 101, 102]⟩) (some (.int .u8 (k : Int))) (some (.int .u8 ((k : Int) + 1))) none).run Tryz.prog w = .ok (.string ⟨#[hexd k]⟩) w := by
  have h0 : ∀ w, (Instr.sliceAt 9 (.string ⟨#[48, 49, 50, 51, 52, 53, 54, 55, 56, 57, 97, 98, 99, 100, 101, 102]⟩) (some (.int .u8 0)) (some (.int .u8 1)) none).run Tryz.prog w = .ok (.string ⟨#[48]⟩) w := fun _ => by kernel_rfl
  have h1 : ∀ w, (Instr.sliceAt 9 (.string ⟨#[48, 49, 50, 51, 52, 53, 54, 55, 56, 57, 97, 98, 99, 100, 101, 102]⟩) (some (.int .u8 1)) (some (.int .u8 2)) none).run Tryz.prog w = .ok (.string ⟨#[49]⟩) w := fun _ => by kernel_rfl
  have h2 : ∀ w, (Instr.sliceAt 9 (.string ⟨#[48, 49, 50, 51, 52, 53, 54, 55, 56, 57, 97, 98, 99, 100, 101, 102]⟩) (some (.int .u8 2)) (some (.int .u8 3)) none).run Tryz.prog w = .ok (.string ⟨#[50]⟩) w := fun _ => by kernel_rfl
  have h3 : ∀ w, (Instr.sliceAt 9 (.string ⟨#[48, 49, 50, 51, 52, 53, 54, 55, 56, 57, 97, 98, 99, 100, 101, 102]⟩) (some (.int .u8 3)) (some (.int .u8 4)) none).run Tryz.prog w = .ok (.string ⟨#[51]⟩) w := fun _ => by kernel_rfl
  have h4 : ∀ w, (Instr.sliceAt 9 (.string ⟨#[48, 49, 50, 51, 52, 53, 54, 55, 56, 57, 97, 98, 99, 100, 101, 102]⟩) (some (.int .u8 4)) (some (.int .u8 5)) none).run Tryz.prog w = .ok (.string ⟨#[52]⟩) w := fun _ => by kernel_rfl
  have h5 : ∀ w, (Instr.sliceAt 9 (.string ⟨#[48, 49, 50, 51, 52, 53, 54, 55, 56, 57, 97, 98, 99, 100, 101, 102]⟩) (some (.int .u8 5)) (some (.int .u8 6)) none).run Tryz.prog w = .ok (.string ⟨#[53]⟩) w := fun _ => by kernel_rfl
  have h6 : ∀ w, (Instr.sliceAt 9 (.string ⟨#[48, 49, 50, 51, 52, 53, 54, 55, 56, 57, 97, 98, 99, 100, 101, 102]⟩) (some (.int .u8 6)) (some (.int .u8 7)) none).run Tryz.prog w = .ok (.string ⟨#[54]⟩) w := fun _ => by kernel_rfl
  have h7 : ∀ w, (Instr.sliceAt 9 (.string ⟨#[48, 49, 50, 51, 52, 53, 54, 55, 56, 57, 97, 98, 99, 100, 101, 102]⟩) (some (.int .u8 7)) (some (.int .u8 8)) none).run Tryz.prog w = .ok (.string ⟨#[55]⟩) w := fun _ => by kernel_rfl
  have h8 : ∀ w, (Instr.sliceAt 9 (.string ⟨#[48, 49, 50, 51, 52, 53, 54, 55, 56, 57, 97, 98, 99, 100, 101, 102]⟩) (some (.int .u8 8)) (some (.int .u8 9)) none).run Tryz.prog w = .ok (.string ⟨#[56]⟩) w := fun _ => by kernel_rfl
  have h9 : ∀ w, (Instr.sliceAt 9 (.string ⟨#[48, 49, 50, 51, 52, 53, 54, 55, 56, 57, 97, 98, 99, 100, 101, 102]⟩) (some (.int .u8 9)) (some (.int .u8 10)) none).run Tryz.prog w = .ok (.string ⟨#[57]⟩) w := fun _ => by kernel_rfl
  have h10 : ∀ w, (Instr.sliceAt 9 (.string ⟨#[48, 49, 50, 51, 52, 53, 54, 55, 56, 57, 97, 98, 99, 100, 101, 102]⟩) (some (.int .u8 10)) (some (.int .u8 11)) none).run Tryz.prog w = .ok (.string ⟨#[97]⟩) w := fun _ => by kernel_rfl
  have h11 : ∀ w, (Instr.sliceAt 9 (.string ⟨#[48, 49, 50, 51, 52, 53, 54, 55, 56, 57, 97, 98, 99, 100, 101, 102]⟩) (some (.int .u8 11)) (some (.int .u8 12)) none).run Tryz.prog w = .ok (.string ⟨#[98]⟩) w := fun _ => by kernel_rfl
  have h12 : ∀ w, (Instr.sliceAt 9 (.string ⟨#[48, 49, 50, 51, 52, 53, 54, 55, 56, 57, 97, 98, 99, 100, 101, 102]⟩) (some (.int .u8 12)) (some (.int .u8 13)) none).run Tryz.prog w = .ok (.string ⟨#[99]⟩) w := fun _ => by kernel_rfl
  have h13 : ∀ w, (Instr.sliceAt 9 (.string ⟨#[48, 49, 50, 51, 52, 53, 54, 55, 56, 57, 97, 98, 99, 100, 101, 102]⟩) (some (.int .u8 13)) (some (.int .u8 14)) none).run Tryz.prog w = .ok (.string ⟨#[100]⟩) w := fun _ => by kernel_rfl
  have h14 : ∀ w, (Instr.sliceAt 9 (.string ⟨#[48, 49, 50, 51, 52, 53, 54, 55, 56, 57, 97, 98, 99, 100, 101, 102]⟩) (some (.int .u8 14)) (some (.int .u8 15)) none).run Tryz.prog w = .ok (.string ⟨#[101]⟩) w := fun _ => by kernel_rfl
  have h15 : ∀ w, (Instr.sliceAt 9 (.string ⟨#[48, 49, 50, 51, 52, 53, 54, 55, 56, 57, 97, 98, 99, 100, 101, 102]⟩) (some (.int .u8 15)) (some (.int .u8 16)) none).run Tryz.prog w = .ok (.string ⟨#[102]⟩) w := fun _ => by kernel_rfl
  match k, h with
  | 0, _ => exact h0 w
  | 1, _ => exact h1 w
  | 2, _ => exact h2 w
  | 3, _ => exact h3 w
  | 4, _ => exact h4 w
  | 5, _ => exact h5 w
  | 6, _ => exact h6 w
  | 7, _ => exact h7 w
  | 8, _ => exact h8 w
  | 9, _ => exact h9 w
  | 10, _ => exact h10 w
  | 11, _ => exact h11 w
  | 12, _ => exact h12 w
  | 13, _ => exact h13 w
  | 14, _ => exact h14 w
  | 15, _ => exact h15 w
  | k + 16, h => exact absurd h (by omega)
theorem encode_small : ∀ b : Nat, b < 128 → Utf8.encode (b : Int) = ⟨#[b.toUInt8]⟩ := by decide +kernel
theorem wrap8 (x : Int) (h0 : 0 ≤ x) (h1 : x ≤ 255) : IntKind.u8.wrap x = x := by simp [IntKind.wrap, IntKind.signed, IntKind.bits]; omega
theorem index_ge (l : List UInt8) (c : UInt8) : decide (0 ≤ Lib.indexByte l c) = l.contains c := by
  induction l with
  | nil => simp [Lib.indexByte]
  | cons a l ih =>
    have hg := Lib.indexByte_ge l c
    rw [List.contains_cons, ← ih, Lib.indexByte]
    by_cases h : a = c
    · simp [h]
    · have h' : ¬ c = a := fun e => h e.symm
      by_cases h2 : Lib.indexByte l c = -1
      · simp [h, h', h2]
      · have h3 : 0 ≤ Lib.indexByte l c := by omega
        have h4 : 0 ≤ Lib.indexByte l c + 1 := by omega
        simp [h, h', h2, h3, h4]
set_option maxRecDepth 100000 in
set_option maxHeartbeats 2000000 in
theorem Byte_any (b : Nat) (hb : b < 256) (w : World) :
    Calls Tryz.prog 86 #[.int .u8 (b : Int)] w fun e w' => e = .returned (.string ⟨(byteW b).toArray⟩) ∧ Below w.heap.size w w' := by
  by_cases h10 : b = 10
  · subst h10
    go_enter Tryz.func86, Tryz.ntmps86
    go_wp2_with fail
    go_ret
    exact ⟨rfl, Below.refl _ _⟩
  by_cases h9 : b = 9
  · subst h9
    go_enter Tryz.func86, Tryz.ntmps86
    go_wp2_with fail
    go_ret
    exact ⟨rfl, Below.refl _ _⟩
  have h10' : ((b : Int) == 10) = false := by rw [beq_eq_false_iff_ne]; omega
  have h9' : ((b : Int) == 9) = false := by rw [beq_eq_false_iff_ne]; omega
  by_cases hx : b < 32 ∨ 127 ≤ b
  · have HB : Hid (byteW b = [92, 120, hexd (b / 16), hexd (b % 16)]) := by show _ = _; unfold byteW; rw [if_neg h10, if_neg h9, if_pos hx]
    rw [HB.out]
    have hs1 := hexSlice (b / 16) (by omega)
    have hs2 := hexSlice (b % 16) (by omega)
    have hs3 := hexSliceAt (b / 16) (by omega)
    have hs4 := hexSliceAt (b % 16) (by omega)
    have hw1 := wrap8 ((b : Int) / 16 + 1) (by omega) (by omega)
    have hw2 := wrap8 ((b : Int) % 16 + 1) (by omega) (by omega)
    rw [show ((b / 16 : Nat) : Int) = (b : Int) / 16 by omega] at hs1 hs3
    rw [show ((b % 16 : Nat) : Int) = (b : Int) % 16 by omega] at hs2 hs4
    generalize hexd (b / 16) = x1 at *
    generalize hexd (b % 16) = x2 at *
    rcases hx with hx | hx
    · go_enter Tryz.func86, Tryz.ntmps86
      go_wp2_with fail
      go_quiet (fail)
      go_wp2_with fail
      go_ret
      refine ⟨congrArg (fun s => Ending.returned (.string s)) (ByteArray.ext (by simp)), ?_⟩
      repeat (first | exact Below.refl _ _ | assumption | refine Below.drew ?_ | refine ext_drewN ?_ _ | refine ext_alloc ?_ _ | refine Below.setCell ?_ (by (try simp only [World.size_alloc, World.size_setCell, World.size_drew]); omega) _ | refine ext_step ?_ (by assumption))
    · go_enter Tryz.func86, Tryz.ntmps86
      go_wp2_with fail
      go_quiet (fail)
      go_wp2_with fail
      go_ret
      refine ⟨congrArg (fun s => Ending.returned (.string s)) (ByteArray.ext (by simp)), ?_⟩
      repeat (first | exact Below.refl _ _ | assumption | refine Below.drew ?_ | refine ext_drewN ?_ _ | refine ext_alloc ?_ _ | refine Below.setCell ?_ (by (try simp only [World.size_alloc, World.size_setCell, World.size_drew]); omega) _ | refine ext_step ?_ (by assumption))
  · have hlo : 32 ≤ b := by omega
    have hhi : b < 127 := by omega
    have HB : Hid (byteW b = if marked b then [92, b.toUInt8] else [b.toUInt8]) := by show _ = _; unfold byteW; rw [if_neg h10, if_neg h9, if_neg hx]
    have hI := fun W => IndexByte_any ⟨#[40, 41, 91, 93, 124, 38, 45, 42, 43, 63, 46, 92, 32, 9, 10, 13]⟩ (b : Int) W
    have hge := index_ge specials b.toUInt8
    have hm1 := Lib.indexByte_ge specials b.toUInt8
    rw [Int.toNat_natCast] at hI
    change ∀ W, Calls Tryz.prog _ _ W (fun e w' => e = .returned (.int .i64 (Lib.indexByte specials b.toUInt8)) ∧ w' = W) at hI
    have HM : Hid (marked b = (specials.contains b.toUInt8 || b == 94 || b == 47 || b == 34 || b == 35)) := rfl
    have henc := encode_small b (by omega)
    have h32 : decide ((b : Int) < 32) = false := decide_eq_false (by omega)
    have h127 : decide (127 ≤ (b : Int)) = false := decide_eq_false (by omega)
    generalize Lib.indexByte specials b.toUInt8 = r at *
    generalize specials.contains b.toUInt8 = c at *
    by_cases hr : 0 ≤ r
    · have hc : c = true := by rw [← hge]; exact decide_eq_true hr
      subst hc
      have HB2 : Hid (byteW b = [92, b.toUInt8]) := by show _ = _; rw [HB.out, HM.out]; simp
      rw [HB2.out]
      generalize b.toUInt8 = x at *
      have HI := Lib.hid hI
      clear hI hge
      go_enter Tryz.func86, Tryz.ntmps86
      go_wp2_with fail
      refine (HI.out _).mono ?_
      rintro e w' ⟨rfl, rfl⟩
      go_wp2_with fail
      go_ret
      exact ⟨congrArg (fun s => Ending.returned (.string s)) (ByteArray.ext (by simp)), Below.refl _ _⟩
    · obtain rfl : r = -1 := by omega
      have hc : c = false := by rw [← hge]; rfl
      subst hc
      by_cases hq : b = 94 ∨ b = 47 ∨ b = 34 ∨ b = 35
      · have HB2 : Hid (byteW b = [92, b.toUInt8]) := by
          show _ = _
          rw [HB.out, HM.out]
          rcases hq with rfl | rfl | rfl | rfl <;> rfl
        rw [HB2.out]
        have HI := Lib.hid hI
        clear hI hge
        rcases hq with rfl | rfl | rfl | rfl
        all_goals
          go_enter Tryz.func86, Tryz.ntmps86
          go_wp2_with fail
          refine (HI.out _).mono ?_
          rintro e w' ⟨rfl, rfl⟩
          go_wp2_with fail
          go_ret
          exact ⟨rfl, Below.refl _ _⟩
      · have HB2 : Hid (byteW b = [b.toUInt8]) := by
          show _ = _
          rw [HB.out, HM.out, if_neg]
          simp
          omega
        rw [HB2.out]
        have q1 : ((b : Int) == 94) = false := by rw [beq_eq_false_iff_ne]; omega
        have q2 : ((b : Int) == 47) = false := by rw [beq_eq_false_iff_ne]; omega
        have q3 : ((b : Int) == 34) = false := by rw [beq_eq_false_iff_ne]; omega
        have q4 : ((b : Int) == 35) = false := by rw [beq_eq_false_iff_ne]; omega
        generalize b.toUInt8 = x at *
        have HI := Lib.hid hI
        clear hI hge
        go_enter Tryz.func86, Tryz.ntmps86
        go_wp2_with fail
        refine (HI.out _).mono ?_
        rintro e w' ⟨rfl, rfl⟩
        go_wp2_with fail
        go_ret
        exact ⟨rfl, Below.refl _ _⟩
end Go.Proofs.YticpjjmacmmpjaaGreatDoor
namespace Go.Proofs.YticpjjmacmmpjaaGreatDoor
open Go.RowKit
def bytesW (l : List UInt8) : List UInt8 := l.flatMap fun c => byteW c.toNat
def quoteW (l : List UInt8) : List UInt8 := 34 :: (bytesW l ++ [34])
theorem byteW_len (b : Nat) : (byteW b).length ≤ 4 := by
  unfold byteW
  split
  · simp
  · split
    · simp
    · split
      · simp
      · split <;> simp
theorem bytesW_len (l : List UInt8) : (bytesW l).length ≤ 4 * l.length := by
  induction l with
  | nil => simp [bytesW]
  | cons a l ih => have := byteW_len a.toNat; simp [bytesW] at ih ⊢; omega
theorem bytesW_take (l : List UInt8) (k : Nat) (h : k < l.length) : bytesW (l.take (k + 1)) = bytesW (l.take k) ++ byteW (l.getD k 0).toNat := by
  unfold bytesW
  rw [List.take_succ_eq_append_getElem h, List.flatMap_append]
  simp [List.getD, h]
theorem str_at (l : List UInt8) (k : Nat) (h : k < l.length) (w : World) : (Instr.index 9 (.string ⟨l.toArray⟩) (.int .i64 (k : Int))).run Tryz.prog w = .ok (.int .u8 ((l.getD k 0).toNat : Int)) w := by
  rw [run_index_string w _ _ .i64 _ undStr, dif_pos ⟨by omega, by show (k : Int) < (l.length : Nat); omega⟩]
  simp [List.getD, h]
  rfl
theorem str_size (l : List UInt8) : (⟨l.toArray⟩ : ByteArray).size = l.length := by simp [ByteArray.size]
theorem re_alloc0 (w : World) (o : Obj) : Below w.heap.size w (w.alloc o) := ext_alloc (Below.refl _ w) o
theorem builder_later {T e : TypeId} {B b : Nat} {bs : List Value} {w w' : World} (h : Lib.IsBuilder T e B b bs w) (hb : Below w.heap.size w w') : Lib.IsBuilder T e B b bs w' := by
  have key : ∀ p, Lib.BuilderAt T e B b p bs w → Lib.BuilderAt T e B b p bs w' := by
    rintro p ⟨h1, v, h2, h3, h4⟩
    exact ⟨h1, v, (hb.block b (Array.getElem?_eq_some_iff.1 h2).1).trans h2, h3.kept (row := none) ⟨hb.os, hb.tape, hb.output, hb.size, fun k hk _ => hb.block k hk⟩ (by cases v.ownBlock <;> simp), h4⟩
  rcases h with h | h
  · exact .inl (key _ h)
  · exact .inr (key _ h)
def QuAt (l : List UInt8) (w : World) (i : Value) (wr : World) : Prop :=
  ∃ k : Nat, k ≤ l.length ∧ i = .int .i64 k ∧ Lib.IsBuilder 140 5 w.heap.size w.heap.size (Lib.byteCells (34 :: bytesW (l.take k))) wr ∧ Below w.heap.size w wr
set_option maxRecDepth 100000 in
set_option maxHeartbeats 2000000 in
theorem Quote_any (l : List UInt8) (hl : l.length ≤ 1099511627776) (w : World) :
    Calls Tryz.prog 51 #[.string ⟨l.toArray⟩] w fun e w' => e = .returned (.string ⟨(quoteW l).toArray⟩) ∧ Below w.heap.size w w' := by
  have hss := str_size l
  go_enter Tryz.func51, Tryz.ntmps51
  have hB0 : Lib.IsBuilder 140 5 w.heap.size w.heap.size [] (w.alloc (.cells #[.pointer none, .slice none 0 0] 140)) :=
    .inl ⟨Nat.le_refl _, .slice none 0 0, heap_alloc_last _ _, World.ownsRow_nil _ _ _ _, by simp [Value.ownBlock]⟩
  have HB0 := Lib.hid hB0
  clear hB0
  go_wp2_with fail
  refine (WriteByte_any w.heap.size w.heap.size [] 34 _ HB0.out (by simp) (by simp)).mono ?_
  rintro e w1 ⟨rfl, hI1, hb1⟩
  have hB1 : Below w.heap.size w w1 := (re_alloc0 w _).trans hb1
  go_wp2_with fail
  go_loopw [8] (fun i wr => QuAt l w i wr) (fun i _ => l.length - (intOf i).toNat)
  case atStart => exact ⟨0, by omega, rfl, hI1, hB1⟩
  case round =>
    clear hI1 hb1 hB1
    obtain ⟨k, hk, rfl, hI, hbel⟩ := hrel
    by_cases hlt : k < l.length
    · have hix := str_at l k hlt
      have HNX := Lib.hid (bytesW_take l k hlt)
      have hbl := bytesW_len (l.take k)
      have htk : (l.take k).length ≤ l.length := List.length_take_le' _ _
      have hbb := byteW_len (l.getD k 0).toNat
      generalize bytesW (l.take k) = pre at *
      have HB := Lib.hid (Byte_any (l.getD k 0).toNat (l.getD k 0).toNat_lt)
      generalize (l.getD k 0).toNat = b at *
      generalize byteW b = bw at *
      have HI := Lib.hid hI
      clear hI
      go_wp2_with fail
      refine (HB.out _).mono ?_
      rintro e w1 ⟨rfl, hb1⟩
      have hI1 := builder_later HI.out hb1
      have hB1 := ext_step hbel hb1
      have HWS := Lib.hid (WriteString_any w.heap.size w.heap.size (Lib.byteCells (34 :: pre)) ⟨bw.toArray⟩ w1 hI1 (by rw [Lib.byteCells_length, str_size]; simp; omega) hB1.size)
      clear hI1
      go_wp2_with fail
      refine HWS.out.mono ?_
      rintro e w2 ⟨rfl, hI2, hb2⟩
      have HI2 : Hid (Lib.IsBuilder 140 5 w.heap.size w.heap.size (Lib.byteCells (34 :: bytesW (l.take (k + 1)))) w2) := by
        show Lib.IsBuilder _ _ _ _ _ _
        rw [HNX.out]
        simpa [Lib.byteCells, Lib.strCells] using hI2
      have hB2 := hB1.trans hb2
      clear hI2 hb2 hb1 hB1
      go_wp2
      go_roundw
      case rel => exact ⟨k + 1, by omega, by go_num, HI2.out, hB2⟩
      case measure => simp [intOf]; omega
    · obtain rfl : k = l.length := by omega
      rw [List.take_length] at hI
      have hbl := bytesW_len l
      have HQ : Hid (quoteW l = (34 :: bytesW l) ++ [34]) := rfl
      generalize bytesW l = pre at *
      have HWB := Lib.hid (WriteByte_any w.heap.size w.heap.size (Lib.byteCells (34 :: pre)) 34 wr hI (by rw [Lib.byteCells_length]; simp; omega) hbel.size)
      clear hI
      go_wp2_with fail
      refine HWB.out.mono ?_
      rintro e w1 ⟨rfl, hI1, hb1⟩
      have hB1 := hbel.trans hb1
      have hI2 : Lib.IsBuilder 140 5 w.heap.size w.heap.size (Lib.byteCells (quoteW l)) w1 := by
        rw [HQ.out]
        simpa [Lib.byteCells] using hI1
      have HST := Lib.hid (String_any w.heap.size w.heap.size (quoteW l) w1 hI2 hB1.size)
      clear hI1 hI2 HQ
      go_wp2_with fail
      refine HST.out.mono ?_
      rintro e w2 ⟨rfl, hb2⟩
      go_wp2_with fail
      go_ret
      exact ⟨rfl, hB1.trans hb2⟩
def LqAt (l : List UInt8) (w : World) (v i : Value) (wr : World) : Prop :=
  ∃ k : Nat, k ≤ l.length ∧ i = .int .i64 k ∧ v = .string ⟨(34 :: bytesW (l.take k)).toArray⟩ ∧ Below w.heap.size w wr
set_option maxRecDepth 100000 in
set_option maxHeartbeats 2000000 in
theorem quote_any (l : List UInt8) (hl : l.length ≤ 1099511627776) (w : World) :
    Calls Tryz.prog 68 #[.string ⟨l.toArray⟩] w fun e w' => e = .returned (.string ⟨(quoteW l).toArray⟩) ∧ Below w.heap.size w w' := by
  have hss := str_size l
  go_enter Tryz.func68, Tryz.ntmps68
  go_wp2_with fail
  go_loopw [3, 4] (fun v i wr => LqAt l w v i wr) (fun _ i _ => l.length - (intOf i).toNat)
  case atStart => exact ⟨0, by omega, rfl, rfl, Below.refl _ _⟩
  case round =>
    obtain ⟨k, hk, rfl, rfl, hbel⟩ := hrel
    by_cases hlt : k < l.length
    · have hix := str_at l k hlt
      have HNX := Lib.hid (bytesW_take l k hlt)
      have hbl := bytesW_len (l.take k)
      have htk : (l.take k).length ≤ l.length := List.length_take_le' _ _
      have hbb := byteW_len (l.getD k 0).toNat
      generalize bytesW (l.take k) = pre at *
      have HB := Lib.hid (Byte_any (l.getD k 0).toNat (l.getD k 0).toNat_lt)
      generalize (l.getD k 0).toNat = b at *
      generalize byteW b = bw at *
      go_wp2_with (go_at_call 86; refine (HB.out _).mono ?_; rintro e w1 ⟨rfl, hb1⟩)
      go_roundw
      case rel => exact ⟨k + 1, by omega, by go_num, congrArg Value.string (ByteArray.ext (by rw [HNX.out]; simp)), ext_step hbel hb1⟩
      case measure => simp [intOf]; omega
    · obtain rfl : k = l.length := by omega
      have HQ : Hid (quoteW l = (34 :: bytesW l) ++ [34]) := rfl
      rw [List.take_length]
      have hbl := bytesW_len l
      generalize bytesW l = pre at *
      go_wp2_with fail
      go_ret
      exact ⟨congrArg (fun s => Ending.returned (.string s)) (ByteArray.ext (by rw [HQ.out]; simp)), hbel⟩
end Go.Proofs.YticpjjmacmmpjaaGreatDoor
