/-
  lex.Name: reserved words, names: walked through the program.
-/
import Derived.Test.YticpjjmacmmpjaaGreatDoorLxQ
set_option linter.unusedSimpArgs false
set_option linter.unusedVariables false
set_option maxRecDepth 100000
set_option linter.unnecessarySimpa false
namespace Go.Proofs.YticpjjmacmmpjaaGreatDoor
open Go.RowKit
namespace LX
def resW : List (List UInt8) := [[108, 101, 116], [105, 110], [99, 111, 112, 121], [107, 101, 121], [99, 111, 110, 115, 116], [100, 101, 108], [105, 110, 115], [115, 119, 97, 112], [105, 110, 118], [100, 105, 99, 116], [108, 101, 102, 116], [114, 105, 103, 104, 116], [107, 101, 101, 112], [110, 111, 114, 109]]
def resB (s : List UInt8) : Bool := resW.any fun x => s == x
/-- a text's bytes are those of a name, from the first on, or from a later one on -/
def nameF : Bool → List UInt8 → Bool
  | _, [] => true
  | b, c :: r => letter c b && nameF false r
def nameB (s : List UInt8) : Bool := !(s == []) && decide (s.length ≤ 30) && !resB s && nameF true s
end LX
set_option maxRecDepth 100000 in
theorem reserved_any (s : List UInt8) (w : World) : Calls Tryz.prog 50 #[.string ⟨s.toArray⟩] w fun e w' => e = .returned (.bool (LX.resB s)) ∧ w' = w := by
  have hb : ∀ x : List UInt8, ((⟨s.toArray⟩ : ByteArray).toList == x) = (s == x) := fun x => by rw [ByteArray.toList_mk]
  have HB := Lib.hid hb
  clear hb
  generalize hS : (⟨s.toArray⟩ : ByteArray) = S at *
  have HR : Hid (LX.resB s = LX.resW.any fun x => S.toList == x) := by show _ = _; unfold LX.resB; congr 1; funext x; exact (HB.out x).symm
  rw [HR.out]
  clear hS HB HR
  go_enter Tryz.func50, Tryz.ntmps50
  go_wp2_with fail
  all_goals go_ret
  all_goals exact ⟨by simp_all [LX.resW], rfl⟩
def NmAt (s : List UInt8) (R : Bool) (w : World) (i : Value) (wr : World) : Prop := ∃ j : Nat, j ≤ s.length ∧ i = .int .i64 j ∧ Hid (LX.nameF (j == 0) (s.drop j) = R) ∧ wr = w
theorem nameF_at (s : List UInt8) (j : Nat) (h : j < s.length) : LX.nameF (j == 0) (s.drop j) = (LX.letter (s.getD j 0) (j == 0) && LX.nameF (j + 1 == 0) (s.drop (j + 1))) := by
  have e : s.drop j = s.getD j 0 :: s.drop (j + 1) := by rw [List.drop_eq_getElem_cons h]; congr 1; simp [List.getD, h]
  rw [e]; rfl
set_option maxRecDepth 100000 in
set_option maxHeartbeats 1600000 in
theorem Name_any (s : List UInt8) (w : World) (hs : s.length ≤ 9223372036854775807) : Calls Tryz.prog 16 #[.string ⟨s.toArray⟩] w fun e w' => e = .returned (.bool (LX.nameB s)) ∧ w' = w := by
  have hsz : (⟨s.toArray⟩ : ByteArray).size = s.length := str_size s
  have HRS := Lib.hid (fun W => reserved_any s W)
  have hb : ((⟨s.toArray⟩ : ByteArray).toList == []) = (s == []) := by rw [ByteArray.toList_mk]
  have HIDX := Lib.hid (fun i (h : i < s.length) W => str_at s i h W)
  have HLET := Lib.hid (fun c first W => letter_any c first W)
  have HN : Hid (LX.nameB s = (!(s == []) && decide (s.length ≤ 30) && !LX.resB s && LX.nameF true s)) := rfl
  rw [HN.out]
  clear HN
  generalize hS : (⟨s.toArray⟩ : ByteArray) = S at *
  clear hS
  obtain ⟨R, hR⟩ : ∃ R, LX.nameF true s = R := ⟨_, rfl⟩
  have HR : Hid (LX.nameF ((0 : Nat) == 0) (s.drop 0) = R) := hR
  rw [hR]
  clear hR
  generalize LX.resB s = rb at *
  by_cases h0 : (s == []) = true
  · rw [h0] at hb ⊢
    go_enter Tryz.func16, Tryz.ntmps16
    go_wp2_with fail
    go_ret
    exact ⟨rfl, rfl⟩
  · rw [Bool.not_eq_true] at h0
    rw [h0] at hb ⊢
    clear h0
    by_cases h30 : s.length ≤ 30
    · have h30' : ¬ (30 : Int) < (s.length : Nat) := by omega
      have h30'' : decide ((30 : Int) < (s.length : Nat)) = false := decide_eq_false h30'
      have h30n : decide (30 < s.length) = false := decide_eq_false (by omega)
      rw [decide_eq_true h30]
      cases rb with
      | true =>
        go_enter Tryz.func16, Tryz.ntmps16
        go_wp2_with fail
        refine (HRS.out _).mono ?_
        rintro e w1 ⟨rfl, rfl⟩
        go_wp2_with fail
        go_ret
        exact ⟨rfl, rfl⟩
      | false =>
        go_enter Tryz.func16, Tryz.ntmps16
        go_wp2_with fail
        refine (HRS.out _).mono ?_
        rintro e w1 ⟨rfl, rfl⟩
        go_wp2_with fail
        go_loopw [17] (fun i wr => NmAt s R w1 i wr) (fun i _ => s.length - (intOf i).toNat)
        case atStart => exact ⟨0, Nat.zero_le _, rfl, HR.out, rfl⟩
        case round =>
          obtain ⟨j, hj, rfl, hgo, rfl⟩ := hrel
          by_cases hlt : j < s.length
          · have hidx := HIDX.out j hlt
            have hst := nameF_at s j hlt
            have hjj : ((j : Int) == 0) = (j == 0) := by rw [Bool.eq_iff_iff]; simp
            have HST : Hid (R = (LX.letter (s.getD j 0) (j == 0) && LX.nameF (j + 1 == 0) (s.drop (j + 1)))) := by show _ = _; rw [← hgo.out]; exact hst
            clear hst hgo
            generalize s.getD j 0 = c at *
            generalize hjz : (j == 0) = jz at *
            have HL := Lib.hid (fun W => HLET.out c jz W)
            obtain ⟨L, hL⟩ : ∃ L, LX.letter c jz = L := ⟨_, rfl⟩
            rw [hL] at HST HL
            clear hL hjz
            cases L with
            | true =>
              go_wp2_with fail
              refine (HL.out _).mono ?_
              rintro e w1 ⟨rfl, rfl⟩
              go_wp2_with fail
              go_roundw
              case rel => exact ⟨j + 1, by omega, by go_num, by show _ = _; rw [HST.out]; simp, rfl⟩
              case measure => simp [intOf]; omega
            | false =>
              go_wp2_with fail
              refine (HL.out _).mono ?_
              rintro e w1 ⟨rfl, rfl⟩
              go_wp2_with fail
              go_ret
              exact ⟨by rw [HST.out]; rfl, rfl⟩
          · obtain rfl : j = s.length := by omega
            have HE : Hid (R = true) := by show _ = _; rw [← hgo.out, List.drop_length]; cases (s.length == 0) <;> rfl
            clear hgo
            go_wp2_with fail
            go_ret
            exact ⟨by rw [HE.out]; rfl, rfl⟩
    · have h30' : (30 : Int) < (s.length : Nat) := by omega
      have h30'' : decide ((30 : Int) < (s.length : Nat)) = true := decide_eq_true h30'
      have h30n : decide (30 < s.length) = true := decide_eq_true (by omega)
      rw [decide_eq_false h30]
      go_enter Tryz.func16, Tryz.ntmps16
      go_wp2_with fail
      go_ret
      exact ⟨rfl, rfl⟩
end Go.Proofs.YticpjjmacmmpjaaGreatDoor
