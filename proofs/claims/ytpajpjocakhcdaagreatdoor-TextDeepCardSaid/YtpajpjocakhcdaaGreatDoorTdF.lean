/-
  TextDeep, walked through the program.
-/
import Derived.Test.YtpajpjocakhcdaaGreatDoorTdP
import Derived.Test.YtpajpjocakhcdaaGreatDoorTyF
set_option linter.unusedSimpArgs false
set_option linter.unusedVariables false
set_option maxRecDepth 100000
set_option linter.unnecessarySimpa false
namespace Go.Proofs.YtpajpjocakhcdaaGreatDoor
open Go.RowKit
def ParsAt (K : Nat) (W : World) (a i : Value) (wr : World) : Prop := ∃ k : Nat, k ≤ K ∧ i = .int .i64 k ∧ a = .string ⟨(parsN k).toArray⟩ ∧ wr = W
def LettAt (K : Nat) (W : World) (a i : Value) (wr : World) : Prop := ∃ k : Nat, k ≤ K ∧ i = .int .i64 k ∧ a = .string ⟨(lettN k).toArray⟩ ∧ wr = W
theorem many_read {s : List UInt8} {r : Option RE} {e a : Nat} {W : World} (hl : s.length ≤ 1099511627776) (h : readW s = (r, e, a)) : Calls Tryz.prog 28 #[.string ⟨s.toArray⟩] W (ReadPost W (r, e, a)) := h ▸ Read_any s hl W
set_option maxRecDepth 100000 in
set_option maxHeartbeats 8000000 in
theorem TextDeep_any (n m : Int) (w : World) (hT : Tab w) : Calls Tryz.prog 12 #[.int .i64 n, .int .i64 m] w fun e w' => e = .returned (.bool true) ∧ Below w.heap.size w w' := by
  obtain ⟨hn1, hn2⟩ := lowN_eq n 15 (by omega)
  obtain ⟨hm1, hm2⟩ := lowN_eq m 31 (by omega)
  generalize lowN n 15 = K at *
  generalize lowN m 31 = M at *
  have hn1' : bits .and .i64 n 15 = (K : Nat) := hn1
  have hm1' : bits .and .i64 m 31 = (M : Nat) := hm1
  clear hn1 hm1
  have HH := Lib.hid (txHead_any w hT)
  have HWD := Lib.hid (fun w => Word_any [97] (by simp) w)
  clear hT
  go_enter Tryz.func12, Tryz.ntmps12
  go_wp2_with fail
  refine HH.out.mono ?_
  rintro e w1 ⟨rfl, hb⟩
  have HB1 := Lib.hid hb
  clear hb HH
  go_wp2_with fail
  go_loopw [5, 6] (fun a i wr => ParsAt (55 + K) w1 a i wr) (fun _ i _ => 55 + K - (intOf i).toNat)
  case atStart => exact ⟨0, by omega, rfl, rfl, rfl⟩
  case round =>
    obtain ⟨k, hk, rfl, rfl, rfl⟩ := hrel
    by_cases hlt : k < 55 + K
    · have HA : Hid (((⟨#[40]⟩ : ByteArray) ++ ⟨(parsN k).toArray⟩) ++ ⟨#[41]⟩ = ⟨(parsN (k + 1)).toArray⟩) := ByteArray.ext (by simp [parsN])
      have hln := parsN_len k
      have hsz : (⟨(parsN k).toArray⟩ : ByteArray).size = (parsN k).length := str_size _
      generalize hz : (⟨(parsN k).toArray⟩ : ByteArray) = Z at *
      go_wp2_with fail
      go_roundw
      case rel => exact ⟨k + 1, by omega, by go_num, by first | rw [HA.out] | (congr 1; exact HA.out), rfl⟩
      case measure => simp [intOf]; omega
    · obtain rfl : k = 55 + K := by omega
      have hln := parsN_len (55 + K)
      have HRD : Hid (∃ r e a, (∀ W, Calls Tryz.prog 28 #[.string ⟨(parsN (55 + K)).toArray⟩] W (ReadPost W (r, e, a))) ∧ ((K ≤ 5 ∧ r = some (RE.wordL [97]) ∧ e = 0 ∧ a = 0) ∨ (5 < K ∧ r = none ∧ e = 4 ∧ a = 60))) := by
        by_cases h5 : K ≤ 5
        · exact ⟨_, _, _, fun W => many_read (by omega) (deep_ok K h5), .inl ⟨h5, rfl, rfl, rfl⟩⟩
        · obtain ⟨g1, g2, g3⟩ := (deep_no K (by omega)).resolve_left h5
          refine ⟨none, 4, 60, fun W => many_read (by omega) ?_, .inr ⟨by omega, rfl, rfl, rfl⟩⟩
          rw [← g2, ← g3, ← Option.isNone_iff_eq_none.1 g1]
      have HRM : Hid (∃ r a, (∀ W, Calls Tryz.prog 28 #[.string ⟨(lettN (985 + M)).toArray⟩] W (ReadPost W (r, if 985 + M ≤ 999 then 0 else 3, a)))) := by
        have h1 := many_ok M (by omega)
        refine ⟨(readW (lettN (985 + M))).1, (readW (lettN (985 + M))).2.2, fun W => many_read (by rw [lettN_len]; omega) ?_⟩
        rw [← h1]
      obtain ⟨r, e, a, HR1, hcs⟩ := HRD.out
      clear HRD
      replace HR1 := Lib.hid HR1
      generalize hz : (⟨(parsN (55 + K)).toArray⟩ : ByteArray) = Z at *
      clear hz hln
      rcases hcs with ⟨h5, rfl, rfl, rfl⟩ | ⟨h5, rfl, rfl, rfl⟩
      · go_wp2_with fail
        refine (HR1.out _).mono ?_
        rintro e w5 ⟨v, rfl, hre, hb⟩
        have HB5 := Lib.hid (HB1.out.trans (hb.mono HB1.out.size))
        have HRE := Lib.hid hre
        obtain ⟨vb, rfl, _⟩ := hre
        clear hb HR1
        go_wp2_with fail
        refine (HWD.out _).mono ?_
        rintro e w6 ⟨b, rfl, hre6, hb6⟩
        have HRE6 := Lib.hid (show IsReO w6 (ptr b) (some (RE.wordL [97])) from ⟨b, rfl, hre6⟩)
        have HRE5 := Lib.hid (HRE.out.later hb6)
        have HB6 := Lib.hid (HB5.out.trans (hb6.mono HB5.out.size))
        clear hre6 hb6 HRE HWD
        go_wp2_with fail
        refine (Same_any _ _ _ _ _ HRE5.out HRE6.out).mono ?_
        rintro e w7 ⟨rfl, rfl⟩
        have hsm : sameB (some (RE.wordL [97])) (some (RE.wordL [97])) = true := decide_eq_true rfl
        rw [hsm]
        clear hsm HRE5 HRE6 HB5
        go_wp2_with fail
        go_loopw [10, 11] (fun a i wr => LettAt (985 + M) w7 a i wr) (fun _ i _ => 985 + M - (intOf i).toNat)
        case atStart => exact ⟨0, by omega, rfl, rfl, rfl⟩
        case round =>
          obtain ⟨k, hk, rfl, rfl, rfl⟩ := hrel
          by_cases hlt : k < 985 + M
          · have HA : Hid ((⟨(lettN k).toArray⟩ : ByteArray) ++ ⟨#[97]⟩ = ⟨(lettN (k + 1)).toArray⟩) := ByteArray.ext (by simp [lettN])
            have hln := lettN_len k
            have hsz : (⟨(lettN k).toArray⟩ : ByteArray).size = (lettN k).length := str_size _
            generalize hz : (⟨(lettN k).toArray⟩ : ByteArray) = Z at *
            go_wp2_with fail
            go_roundw
            case rel => exact ⟨k + 1, by omega, by go_num, by first | rw [HA.out] | (congr 1; exact HA.out), rfl⟩
            case measure => simp [intOf]; omega
          · obtain rfl : k = 985 + M := by omega
            obtain ⟨r, a, HR2⟩ := HRM.out
            clear HRM
            replace HR2 := Lib.hid HR2
            generalize hz : (⟨(lettN (985 + M)).toArray⟩ : ByteArray) = Z at *
            clear hz
            by_cases h9 : 985 + M ≤ 999
            · simp only [h9, if_true] at HR2
              have hd9 : decide ((985 : Int) + (M : Int) ≤ 999) = true := decide_eq_true (by omega)
              go_wp2_with fail
              refine (HR2.out _).mono ?_
              rintro e w8 ⟨v, rfl, hre, hb⟩
              have HB8 := Lib.hid (HB6.out.trans (hb.mono HB6.out.size))
              clear hre hb HR2
              go_wp2_with fail
              go_ret
              exact ⟨rfl, HB8.out⟩
            · simp only [h9, if_false] at HR2
              have hd9 : decide ((985 : Int) + (M : Int) ≤ 999) = false := decide_eq_false (by omega)
              go_wp2_with fail
              refine (HR2.out _).mono ?_
              rintro e w8 ⟨v, rfl, hre, hb⟩
              have HB8 := Lib.hid (HB6.out.trans (hb.mono HB6.out.size))
              clear hre hb HR2
              go_wp2_with fail
              go_ret
              exact ⟨rfl, HB8.out⟩
      · go_wp2_with fail
        refine (HR1.out _).mono ?_
        rintro e w5 ⟨v, rfl, hre, hb⟩
        have HB6 := Lib.hid (HB1.out.trans (hb.mono HB1.out.size))
        obtain rfl : v = .pointer none := hre
        clear hb HR1
        go_wp2_with fail
        go_loopw [10, 11] (fun a i wr => LettAt (985 + M) w5 a i wr) (fun _ i _ => 985 + M - (intOf i).toNat)
        case atStart => exact ⟨0, by omega, rfl, rfl, rfl⟩
        case round =>
          obtain ⟨k, hk, rfl, rfl, rfl⟩ := hrel
          by_cases hlt : k < 985 + M
          · have HA : Hid ((⟨(lettN k).toArray⟩ : ByteArray) ++ ⟨#[97]⟩ = ⟨(lettN (k + 1)).toArray⟩) := ByteArray.ext (by simp [lettN])
            have hln := lettN_len k
            have hsz : (⟨(lettN k).toArray⟩ : ByteArray).size = (lettN k).length := str_size _
            generalize hz : (⟨(lettN k).toArray⟩ : ByteArray) = Z at *
            go_wp2_with fail
            go_roundw
            case rel => exact ⟨k + 1, by omega, by go_num, by first | rw [HA.out] | (congr 1; exact HA.out), rfl⟩
            case measure => simp [intOf]; omega
          · obtain rfl : k = 985 + M := by omega
            obtain ⟨r, a, HR2⟩ := HRM.out
            clear HRM
            replace HR2 := Lib.hid HR2
            generalize hz : (⟨(lettN (985 + M)).toArray⟩ : ByteArray) = Z at *
            clear hz
            by_cases h9 : 985 + M ≤ 999
            · simp only [h9, if_true] at HR2
              have hd9 : decide ((985 : Int) + (M : Int) ≤ 999) = true := decide_eq_true (by omega)
              go_wp2_with fail
              refine (HR2.out _).mono ?_
              rintro e w8 ⟨v, rfl, hre, hb⟩
              have HB8 := Lib.hid (HB6.out.trans (hb.mono HB6.out.size))
              clear hre hb HR2
              go_wp2_with fail
              go_ret
              exact ⟨rfl, HB8.out⟩
            · simp only [h9, if_false] at HR2
              have hd9 : decide ((985 : Int) + (M : Int) ≤ 999) = false := decide_eq_false (by omega)
              go_wp2_with fail
              refine (HR2.out _).mono ?_
              rintro e w8 ⟨v, rfl, hre, hb⟩
              have HB8 := Lib.hid (HB6.out.trans (hb.mono HB6.out.size))
              clear hre hb HR2
              go_wp2_with fail
              go_ret
              exact ⟨rfl, HB8.out⟩
end Go.Proofs.YtpajpjocakhcdaaGreatDoor
