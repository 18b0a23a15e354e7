/-
  LexNames, walked through the program.
-/
import Derived.Test.YticpjjmacmmpjaaGreatDoorLxG
import Derived.Test.YticpjjmacmmpjaaGreatDoorLxY
set_option linter.unusedSimpArgs false
set_option linter.unusedVariables false
set_option maxRecDepth 100000
set_option linter.unnecessarySimpa false
namespace Go.Proofs.YticpjjmacmmpjaaGreatDoor
open Go.RowKit
theorem name_words : ∀ i, i < 14 → LX.nameB (LX.resW.getD i []) = false ∧ LX.nameB (LX.resW.getD i [] ++ [95]) = true := by decide +kernel
theorem nameB_eq (s : List UInt8) : LX.nameB s = ((decide (1 ≤ s.length) && decide (s.length ≤ 30) && LX.nameF true s) && !LX.resB s) := by
  have h : (!(s == [])) = decide (1 ≤ s.length) := by cases s <;> simp
  unfold LX.nameB
  rw [h]
  cases decide (1 ≤ s.length) <;> cases decide (s.length ≤ 30) <;> cases LX.resB s <;> cases LX.nameF true s <;> rfl
def Nm1At (s : List UInt8) (R : Bool) (w : World) (b i : Value) (wr : World) : Prop := ∃ (j : Nat) (v : Bool), j ≤ s.length ∧ i = .int .i64 j ∧ b = .bool v ∧ Hid ((v && LX.nameF (j == 0) (s.drop j)) = R) ∧ wr = w
def Nm2At (s : List UInt8) (R : Bool) (w : World) (b i : Value) (wr : World) : Prop := ∃ (k : Nat) (v : Bool), k ≤ 14 ∧ i = .int .i64 k ∧ b = .bool v ∧ Hid ((v && !((LX.resW.drop k).any fun x => s == x)) = R) ∧ wr = w
theorem res_at (s : List UInt8) (k : Nat) (h : k < 14) : ((LX.resW.drop k).any fun x => s == x) = ((s == LX.resW.getD k []) || ((LX.resW.drop (k + 1)).any fun x => s == x)) := by
  have hl : k < LX.resW.length := h
  rw [List.drop_eq_getElem_cons hl, List.any_cons]
  simp [List.getD, hl]
/-- a byte of a name, as the law says it -/
theorem letter_cases (c : UInt8) (z : Bool) : LX.letter c z = ((decide (97 ≤ c.toNat) && decide (c.toNat ≤ 122)) || decide (c.toNat = 95) || (!z && (decide (48 ≤ c.toNat) && decide (c.toNat ≤ 57)))) := by
  have h1 : (97 ≤ c) = (97 ≤ c.toNat) := by rw [UInt8.le_iff_toNat_le]; rfl
  have h2 : (c ≤ 122) = (c.toNat ≤ 122) := by rw [UInt8.le_iff_toNat_le]; rfl
  have h3 : (48 ≤ c) = (48 ≤ c.toNat) := by rw [UInt8.le_iff_toNat_le]; rfl
  have h4 : (c ≤ 57) = (c.toNat ≤ 57) := by rw [UInt8.le_iff_toNat_le]; rfl
  have h5 : (c == 95) = decide (c.toNat = 95) := by rw [Bool.eq_iff_iff]; simp [← UInt8.toNat_inj]
  unfold LX.letter
  rw [h5]
  simp only [h1, h2, h3, h4]
set_option maxRecDepth 100000 in
set_option maxHeartbeats 4000000 in
theorem LexNames_any (s : List UInt8) (n : Int) (w : World) (hT : Tab w) (hs : s.length ≤ 9223372036854775807) : Calls Tryz.prog 3 #[.string ⟨s.toArray⟩, .int .i64 n] w fun e w' => e = .returned (.bool true) ∧ Below w.heap.size w w' := by
  have hsz : (⟨s.toArray⟩ : ByteArray).size = s.length := str_size s
  have HH := Lib.hid (lxHead_any w hT)
  have HNM := Lib.hid (fun W => Name_any s W hs)
  have HIDX := Lib.hid (fun i (h : i < s.length) W => str_at s i h W)
  have HEQ := Lib.hid (nameB_eq s)
  have HTL : Hid (∀ x : List UInt8, ((⟨s.toArray⟩ : ByteArray).toList == x) = (s == x)) := fun x => by rw [ByteArray.toList_mk]
  have HNM2 := Lib.hid (fun (x : List UInt8) (hx : x.length ≤ 9223372036854775807) W => Name_any x W hx)
  have HLET := Lib.hid (fun c first W => letter_any c first W)
  have hu : (IntKind.u64.wrap n).tmod 14 = (uRem n 14 : Nat) := uRem_eq n 14
  have hul := uRem_lt n 14 (by omega)
  generalize uRem n 14 = m at *
  generalize hS : (⟨s.toArray⟩ : ByteArray) = S at *
  have HS := Lib.hid hS
  clear hS hT
  go_enter Tryz.func3, Tryz.ntmps3
  go_wp2_with fail
  refine HH.out.mono ?_
  rintro e w1 ⟨rfl, hb⟩
  have HB1 := Lib.hid hb
  clear hb HH
  go_upto_region 4 with fail
  generalize hW1 : World.alloc w1 _ = W1 at *
  have hcell : ∀ i, i < 14 → W1.cell? ⟨w1.heap.size, i, none⟩ = some (.string ⟨(LX.resW.getD i []).toArray⟩) := by
    intro i hi
    rw [← hW1, cell_of_row _ _ _ _ _ _ (heap_alloc_last w1 _)]
    have : i = 0 ∨ i = 1 ∨ i = 2 ∨ i = 3 ∨ i = 4 ∨ i = 5 ∨ i = 6 ∨ i = 7 ∨ i = 8 ∨ i = 9 ∨ i = 10 ∨ i = 11 ∨ i = 12 ∨ i = 13 := by omega
    rcases this with rfl | rfl | rfl | rfl | rfl | rfl | rfl | rfl | rfl | rfl | rfl | rfl | rfl | rfl
    all_goals rfl
  have HB : Hid (Below w.heap.size w W1) := by show Below _ _ _; rw [← hW1]; exact ext_alloc HB1.out _
  have HC := Lib.hid hcell
  clear hW1 hcell HB1
  obtain ⟨R1, hR1⟩ : ∃ R1, (decide (1 ≤ s.length) && decide (s.length ≤ 30) && LX.nameF true s) = R1 := ⟨_, rfl⟩
  have HR1 := Lib.hid hR1
  rw [hR1] at HEQ
  clear hR1
  obtain ⟨R2, hR2⟩ : ∃ R2, (R1 && !LX.resB s) = R2 := ⟨_, rfl⟩
  have HR2 : Hid ((R1 && !((LX.resW.drop 0).any fun x => s == x)) = R2) := hR2
  rw [hR2] at HEQ
  clear hR2
  have hv : ∃ v0 : Bool, Hid ((v0 && LX.nameF ((0 : Nat) == 0) (s.drop 0)) = R1) ∧ v0 = (decide (1 ≤ s.length) && decide (s.length ≤ 30)) := ⟨_, HR1.out, rfl⟩
  obtain ⟨v0, HV, hv0⟩ := hv
  have hcases : (v0 = true ∧ 1 ≤ s.length ∧ s.length ≤ 30) ∨ (v0 = false ∧ 1 ≤ s.length ∧ ¬ s.length ≤ 30) ∨ (v0 = false ∧ ¬ 1 ≤ s.length) := by
    rw [hv0]
    by_cases h1 : 1 ≤ s.length <;> by_cases h2 : s.length ≤ 30 <;> simp [h1, h2]
  clear HR1 hv0
  rcases hcases with ⟨rfl, hc1, hc2⟩ | ⟨rfl, hc1, hc2⟩ | ⟨rfl, hc1⟩
  · have hc1' : (1 : Int) ≤ (s.length : Nat) := by omega
    have hc2' : (s.length : Int) ≤ 30 := by omega
    go_upto_region 6 with fail
    go_loopw [6, 7] (fun b i wr => Nm1At s R1 W1 b i wr) (fun _ i _ => s.length - (intOf i).toNat)
    case atStart => exact ⟨0, true, Nat.zero_le _, rfl, rfl, HV.out, rfl⟩
    case round =>
      obtain ⟨j, v, hj, rfl, rfl, hgo, rfl⟩ := hrel
      by_cases hlt : j < s.length
      · have hlt' : (j : Int) < (s.length : Nat) := by omega
        cases v with
        | false =>
          have HE : Hid (R1 = false) := by show _ = _; rw [← hgo.out]; rfl
          clear hgo
          go_wp2_with fail
          go_loopw [6, 64] (fun b i W => Nm2At s R2 wr b i W) (fun _ i _ => 14 - (intOf i).toNat)
          case atStart => exact ⟨0, false, Nat.zero_le _, rfl, rfl, by show _ = _; rw [← HE.out]; exact HR2.out, rfl⟩
          case round =>
            clear HIDX HV HR2 HE
            obtain ⟨k, v, hk, rfl, rfl, hgo, rfl⟩ := hrel
            by_cases hlk : k < 14
            · have hck := HC.out k hlk
              have hra := res_at s k hlk
              have HX : Hid (∀ v', (v' = (v && !(s == LX.resW.getD k []))) → (v' && !((LX.resW.drop (k + 1)).any fun x => s == x)) = R2) := fun v' hv => by
                rw [hv, ← hgo.out, hra]; cases v <;> cases (s == LX.resW.getD k []) <;> simp
              clear hgo hra
              generalize LX.resW.getD k [] = x at *
              have hx := HTL.out x
              cases v with
              | false =>
                go_wp2_with fail
                go_roundw
                case rel => exact ⟨k + 1, false, by omega, by go_num, rfl, HX.out _ rfl, rfl⟩
                case measure => simp [intOf]; omega
              | true =>
                go_wp2_with fail
                go_roundw
                case rel => exact ⟨k + 1, _, by omega, by go_num, rfl, HX.out _ rfl, rfl⟩
                case measure => simp [intOf]; omega
            · obtain rfl : k = 14 := by omega
              have HE2 : Hid (v = R2) := by show _ = _; rw [← hgo.out]; cases v <;> rfl
              have HEQ2 : Hid (LX.nameB s = v) := HEQ.out.trans HE2.out.symm
              have hcm := HC.out m hul
              obtain ⟨hn1, hn2⟩ := name_words m hul
              have hml : (LX.resW.getD m []).length ≤ 5 := by
                have : ∀ i, i < 14 → (LX.resW.getD i []).length ≤ 5 := by decide
                exact this m hul
              have hm0 : (0 : Int) ≤ (m : Int) ∧ (m : Int) < 14 := by omega
              generalize LX.resW.getD m [] = T at *
              have HC1 : Hid (∀ W, Calls Tryz.prog 16 #[.string ⟨T.toArray⟩] W fun e w' => e = .returned (.bool false) ∧ w' = W) := fun W => by
                have := HNM2.out T (by omega) W
                rw [hn1] at this; exact this
              have HC2 : Hid (∀ W, Calls Tryz.prog 16 #[.string (⟨T.toArray⟩ ++ ⟨#[95]⟩)] W fun e w' => e = .returned (.bool true) ∧ w' = W) := fun W => by
                have := HNM2.out (T ++ [95]) (by simp; omega) W
                rw [hn2] at this
                have e : (⟨T.toArray⟩ ++ ⟨#[95]⟩ : ByteArray) = ⟨(T ++ [95]).toArray⟩ := ByteArray.ext (by simp)
                rw [e]; exact this
              have hTs : (⟨T.toArray⟩ : ByteArray).size = T.length := str_size T
              have HL1 : Hid (∀ W, Calls Tryz.prog 17 #[.int .u8 48, .bool true] W fun e w' => e = .returned (.bool false) ∧ w' = W) := fun W => HLET.out 48 true W
              have HL2 : Hid (∀ W, Calls Tryz.prog 17 #[.int .u8 48, .bool false] W fun e w' => e = .returned (.bool true) ∧ w' = W) := fun W => HLET.out 48 false W
              have HL3 : Hid (∀ W, Calls Tryz.prog 17 #[.int .u8 65, .bool false] W fun e w' => e = .returned (.bool false) ∧ w' = W) := fun W => HLET.out 65 false W
              clear hn1 hn2 HE2 hgo HLET HNM2 HEQ
              generalize (⟨T.toArray⟩ : ByteArray) = TS at *
              go_wp2_with fail
              refine (HNM.out _).mono ?_
              rintro e w2 ⟨rfl, rfl⟩
              rw [HEQ2.out]
              have hvv : (v == v) = true := by simp
              go_wp2_with fail
              refine (HC1.out _).mono ?_
              rintro e w2 ⟨rfl, rfl⟩
              go_wp2_with fail
              refine (HC2.out _).mono ?_
              rintro e w2 ⟨rfl, rfl⟩
              go_wp2_with fail
              refine (HL1.out _).mono ?_
              rintro e w2 ⟨rfl, rfl⟩
              go_wp2_with fail
              refine (HL2.out _).mono ?_
              rintro e w2 ⟨rfl, rfl⟩
              go_wp2_with fail
              refine (HL3.out _).mono ?_
              rintro e w2 ⟨rfl, rfl⟩
              go_wp2_with fail
              go_ret
              exact ⟨rfl, HB.out⟩
        | true =>
          have hidx := HIDX.out j hlt
          have hst := nameF_at s j hlt
          have HST0 : Hid (R1 = (LX.letter (s.getD j 0) (j == 0) && LX.nameF (j + 1 == 0) (s.drop (j + 1)))) := by show _ = _; rw [← hgo.out, hst]; rfl
          have hjz : (j == 0) = decide (j = 0) := by rw [Bool.eq_iff_iff]; simp
          rw [hjz, letter_cases] at HST0
          clear hst hgo hjz
          have hc255 := (s.getD j 0).toNat_lt
          generalize (s.getD j 0).toNat = c at *
          by_cases g1 : 97 ≤ c
          · by_cases g2 : c ≤ 122
            · have g1' : (97 : Int) ≤ (c : Int) := by omega
              have g2' : (c : Int) ≤ 122 := by omega
              have HST : Hid (LX.nameF (j + 1 == 0) (s.drop (j + 1)) = R1) := by show _ = _; rw [HST0.out]; simp [g1, g2]
              clear HST0
              go_wp2_with fail
              go_roundw
              case rel => exact ⟨j + 1, true, by omega, by go_num, rfl, by show _ = _; rw [HST.out]; simp, rfl⟩
              case measure => simp [intOf]; omega
            · have g2' : ¬ (c : Int) ≤ 122 := by omega
              have g1' : (97 : Int) ≤ (c : Int) := by omega
              have g3' : ((c : Int) == 95) = false := by rw [beq_eq_false_iff_ne]; omega
              have g5 : ¬ (c : Int) ≤ 57 := by omega
              have g4 : (48 : Int) ≤ (c : Int) := by omega
              have HST : Hid (R1 = false) := by
                show _ = _
                have e1 : decide (c ≤ 122) = false := decide_eq_false g2
                have e2 : decide (c = 95) = false := decide_eq_false (by omega)
                have e3 : decide (c ≤ 57) = false := decide_eq_false (by omega)
                rw [HST0.out, e1, e2, e3]; simp
              clear HST0
              go_wp2_with fail
              go_roundw
              case rel => exact ⟨j + 1, false, by omega, by go_num, rfl, by show _ = _; rw [HST.out]; simp, rfl⟩
              case measure => simp [intOf]; omega
          · have g1' : ¬ (97 : Int) ≤ (c : Int) := by omega
            have e0 : decide (97 ≤ c) = false := decide_eq_false g1
            by_cases g3 : c = 95
            · have g3' : ((c : Int) == 95) = true := by rw [g3]; rfl
              have HST : Hid (LX.nameF (j + 1 == 0) (s.drop (j + 1)) = R1) := by show _ = _; rw [HST0.out]; simp [g3]
              clear HST0
              go_wp2_with fail
              go_roundw
              case rel => exact ⟨j + 1, true, by omega, by go_num, rfl, by show _ = _; rw [HST.out]; simp, rfl⟩
              case measure => simp [intOf]; omega
            · have g3' : ((c : Int) == 95) = false := by rw [beq_eq_false_iff_ne]; omega
              have e2 : decide (c = 95) = false := decide_eq_false g3
              by_cases g4 : 48 ≤ c
              · have g4' : (48 : Int) ≤ (c : Int) := by omega
                by_cases g5 : c ≤ 57
                · have g5' : (c : Int) ≤ 57 := by omega
                  by_cases g6 : j = 0
                  · have g6' : ¬ (0 : Int) < (j : Int) := by omega
                    have g6n : decide ((0 : Nat) < j) = false := decide_eq_false (by omega)
                    have HST : Hid (R1 = false) := by show _ = _; rw [HST0.out, e0, e2, decide_eq_true g6]; simp
                    clear HST0 g6
                    go_wp2_with fail
                    go_roundw
                    case rel => exact ⟨j + 1, false, by omega, by go_num, rfl, by show _ = _; rw [HST.out]; simp, rfl⟩
                    case measure => simp [intOf]; omega
                  · have g6' : (0 : Int) < (j : Int) := by omega
                    have g6n : decide ((0 : Nat) < j) = true := decide_eq_true (by omega)
                    have HST : Hid (LX.nameF (j + 1 == 0) (s.drop (j + 1)) = R1) := by show _ = _; rw [HST0.out, e0, e2, decide_eq_false g6, decide_eq_true g4, decide_eq_true g5]; simp
                    clear HST0
                    go_wp2_with fail
                    go_roundw
                    case rel => exact ⟨j + 1, true, by omega, by go_num, rfl, by show _ = _; rw [HST.out]; simp, rfl⟩
                    case measure => simp [intOf]; omega
                · have g5' : ¬ (c : Int) ≤ 57 := by omega
                  have HST : Hid (R1 = false) := by show _ = _; rw [HST0.out, e0, e2, decide_eq_false g5]; simp
                  clear HST0
                  go_wp2_with fail
                  go_roundw
                  case rel => exact ⟨j + 1, false, by omega, by go_num, rfl, by show _ = _; rw [HST.out]; simp, rfl⟩
                  case measure => simp [intOf]; omega
              · have g4' : ¬ (48 : Int) ≤ (c : Int) := by omega
                have HST : Hid (R1 = false) := by show _ = _; rw [HST0.out, e0, e2, decide_eq_false g4]; simp
                clear HST0
                go_wp2_with fail
                go_roundw
                case rel => exact ⟨j + 1, false, by omega, by go_num, rfl, by show _ = _; rw [HST.out]; simp, rfl⟩
                case measure => simp [intOf]; omega
      · obtain rfl : j = s.length := by omega
        have HE : Hid (R1 = v) := by
          show _ = _; rw [← hgo.out, List.drop_length]; cases (s.length == 0) <;> cases v <;> rfl
        have hlt' : ¬ (s.length : Int) < (s.length : Nat) := by omega
        clear hgo
        go_wp2_with fail
        go_loopw [6, 64] (fun b i W => Nm2At s R2 wr b i W) (fun _ i _ => 14 - (intOf i).toNat)
        case atStart => exact ⟨0, v, Nat.zero_le _, rfl, rfl, by show _ = _; rw [← HE.out]; exact HR2.out, rfl⟩
        case round =>
          clear HIDX HV HR2 HE
          obtain ⟨k, v, hk, rfl, rfl, hgo, rfl⟩ := hrel
          by_cases hlk : k < 14
          · have hck := HC.out k hlk
            have hra := res_at s k hlk
            have HX : Hid (∀ v', (v' = (v && !(s == LX.resW.getD k []))) → (v' && !((LX.resW.drop (k + 1)).any fun x => s == x)) = R2) := fun v' hv => by
              rw [hv, ← hgo.out, hra]; cases v <;> cases (s == LX.resW.getD k []) <;> simp
            clear hgo hra
            generalize LX.resW.getD k [] = x at *
            have hx := HTL.out x
            cases v with
            | false =>
              go_wp2_with fail
              go_roundw
              case rel => exact ⟨k + 1, false, by omega, by go_num, rfl, HX.out _ rfl, rfl⟩
              case measure => simp [intOf]; omega
            | true =>
              go_wp2_with fail
              go_roundw
              case rel => exact ⟨k + 1, _, by omega, by go_num, rfl, HX.out _ rfl, rfl⟩
              case measure => simp [intOf]; omega
          · obtain rfl : k = 14 := by omega
            have HE2 : Hid (v = R2) := by show _ = _; rw [← hgo.out]; cases v <;> rfl
            have HEQ2 : Hid (LX.nameB s = v) := HEQ.out.trans HE2.out.symm
            have hcm := HC.out m hul
            obtain ⟨hn1, hn2⟩ := name_words m hul
            have hml : (LX.resW.getD m []).length ≤ 5 := by
              have : ∀ i, i < 14 → (LX.resW.getD i []).length ≤ 5 := by decide
              exact this m hul
            have hm0 : (0 : Int) ≤ (m : Int) ∧ (m : Int) < 14 := by omega
            generalize LX.resW.getD m [] = T at *
            have HC1 : Hid (∀ W, Calls Tryz.prog 16 #[.string ⟨T.toArray⟩] W fun e w' => e = .returned (.bool false) ∧ w' = W) := fun W => by
              have := HNM2.out T (by omega) W
              rw [hn1] at this; exact this
            have HC2 : Hid (∀ W, Calls Tryz.prog 16 #[.string (⟨T.toArray⟩ ++ ⟨#[95]⟩)] W fun e w' => e = .returned (.bool true) ∧ w' = W) := fun W => by
              have := HNM2.out (T ++ [95]) (by simp; omega) W
              rw [hn2] at this
              have e : (⟨T.toArray⟩ ++ ⟨#[95]⟩ : ByteArray) = ⟨(T ++ [95]).toArray⟩ := ByteArray.ext (by simp)
              rw [e]; exact this
            have hTs : (⟨T.toArray⟩ : ByteArray).size = T.length := str_size T
            have HL1 : Hid (∀ W, Calls Tryz.prog 17 #[.int .u8 48, .bool true] W fun e w' => e = .returned (.bool false) ∧ w' = W) := fun W => HLET.out 48 true W
            have HL2 : Hid (∀ W, Calls Tryz.prog 17 #[.int .u8 48, .bool false] W fun e w' => e = .returned (.bool true) ∧ w' = W) := fun W => HLET.out 48 false W
            have HL3 : Hid (∀ W, Calls Tryz.prog 17 #[.int .u8 65, .bool false] W fun e w' => e = .returned (.bool false) ∧ w' = W) := fun W => HLET.out 65 false W
            clear hn1 hn2 HE2 hgo HLET HNM2 HEQ
            generalize (⟨T.toArray⟩ : ByteArray) = TS at *
            go_wp2_with fail
            refine (HNM.out _).mono ?_
            rintro e w2 ⟨rfl, rfl⟩
            rw [HEQ2.out]
            have hvv : (v == v) = true := by simp
            go_wp2_with fail
            refine (HC1.out _).mono ?_
            rintro e w2 ⟨rfl, rfl⟩
            go_wp2_with fail
            refine (HC2.out _).mono ?_
            rintro e w2 ⟨rfl, rfl⟩
            go_wp2_with fail
            refine (HL1.out _).mono ?_
            rintro e w2 ⟨rfl, rfl⟩
            go_wp2_with fail
            refine (HL2.out _).mono ?_
            rintro e w2 ⟨rfl, rfl⟩
            go_wp2_with fail
            refine (HL3.out _).mono ?_
            rintro e w2 ⟨rfl, rfl⟩
            go_wp2_with fail
            go_ret
            exact ⟨rfl, HB.out⟩
  · have hc1' : (1 : Int) ≤ (s.length : Nat) := by omega
    have hc2' : ¬ (s.length : Int) ≤ 30 := by omega
    go_upto_region 6 with fail
    go_loopw [6, 7] (fun b i wr => Nm1At s R1 W1 b i wr) (fun _ i _ => s.length - (intOf i).toNat)
    case atStart => exact ⟨0, false, Nat.zero_le _, rfl, rfl, HV.out, rfl⟩
    case round =>
      obtain ⟨j, v, hj, rfl, rfl, hgo, rfl⟩ := hrel
      by_cases hlt : j < s.length
      · have hlt' : (j : Int) < (s.length : Nat) := by omega
        cases v with
        | false =>
          have HE : Hid (R1 = false) := by show _ = _; rw [← hgo.out]; rfl
          clear hgo
          go_wp2_with fail
          go_loopw [6, 64] (fun b i W => Nm2At s R2 wr b i W) (fun _ i _ => 14 - (intOf i).toNat)
          case atStart => exact ⟨0, false, Nat.zero_le _, rfl, rfl, by show _ = _; rw [← HE.out]; exact HR2.out, rfl⟩
          case round =>
            clear HIDX HV HR2 HE
            obtain ⟨k, v, hk, rfl, rfl, hgo, rfl⟩ := hrel
            by_cases hlk : k < 14
            · have hck := HC.out k hlk
              have hra := res_at s k hlk
              have HX : Hid (∀ v', (v' = (v && !(s == LX.resW.getD k []))) → (v' && !((LX.resW.drop (k + 1)).any fun x => s == x)) = R2) := fun v' hv => by
                rw [hv, ← hgo.out, hra]; cases v <;> cases (s == LX.resW.getD k []) <;> simp
              clear hgo hra
              generalize LX.resW.getD k [] = x at *
              have hx := HTL.out x
              cases v with
              | false =>
                go_wp2_with fail
                go_roundw
                case rel => exact ⟨k + 1, false, by omega, by go_num, rfl, HX.out _ rfl, rfl⟩
                case measure => simp [intOf]; omega
              | true =>
                go_wp2_with fail
                go_roundw
                case rel => exact ⟨k + 1, _, by omega, by go_num, rfl, HX.out _ rfl, rfl⟩
                case measure => simp [intOf]; omega
            · obtain rfl : k = 14 := by omega
              have HE2 : Hid (v = R2) := by show _ = _; rw [← hgo.out]; cases v <;> rfl
              have HEQ2 : Hid (LX.nameB s = v) := HEQ.out.trans HE2.out.symm
              have hcm := HC.out m hul
              obtain ⟨hn1, hn2⟩ := name_words m hul
              have hml : (LX.resW.getD m []).length ≤ 5 := by
                have : ∀ i, i < 14 → (LX.resW.getD i []).length ≤ 5 := by decide
                exact this m hul
              have hm0 : (0 : Int) ≤ (m : Int) ∧ (m : Int) < 14 := by omega
              generalize LX.resW.getD m [] = T at *
              have HC1 : Hid (∀ W, Calls Tryz.prog 16 #[.string ⟨T.toArray⟩] W fun e w' => e = .returned (.bool false) ∧ w' = W) := fun W => by
                have := HNM2.out T (by omega) W
                rw [hn1] at this; exact this
              have HC2 : Hid (∀ W, Calls Tryz.prog 16 #[.string (⟨T.toArray⟩ ++ ⟨#[95]⟩)] W fun e w' => e = .returned (.bool true) ∧ w' = W) := fun W => by
                have := HNM2.out (T ++ [95]) (by simp; omega) W
                rw [hn2] at this
                have e : (⟨T.toArray⟩ ++ ⟨#[95]⟩ : ByteArray) = ⟨(T ++ [95]).toArray⟩ := ByteArray.ext (by simp)
                rw [e]; exact this
              have hTs : (⟨T.toArray⟩ : ByteArray).size = T.length := str_size T
              have HL1 : Hid (∀ W, Calls Tryz.prog 17 #[.int .u8 48, .bool true] W fun e w' => e = .returned (.bool false) ∧ w' = W) := fun W => HLET.out 48 true W
              have HL2 : Hid (∀ W, Calls Tryz.prog 17 #[.int .u8 48, .bool false] W fun e w' => e = .returned (.bool true) ∧ w' = W) := fun W => HLET.out 48 false W
              have HL3 : Hid (∀ W, Calls Tryz.prog 17 #[.int .u8 65, .bool false] W fun e w' => e = .returned (.bool false) ∧ w' = W) := fun W => HLET.out 65 false W
              clear hn1 hn2 HE2 hgo HLET HNM2 HEQ
              generalize (⟨T.toArray⟩ : ByteArray) = TS at *
              go_wp2_with fail
              refine (HNM.out _).mono ?_
              rintro e w2 ⟨rfl, rfl⟩
              rw [HEQ2.out]
              have hvv : (v == v) = true := by simp
              go_wp2_with fail
              refine (HC1.out _).mono ?_
              rintro e w2 ⟨rfl, rfl⟩
              go_wp2_with fail
              refine (HC2.out _).mono ?_
              rintro e w2 ⟨rfl, rfl⟩
              go_wp2_with fail
              refine (HL1.out _).mono ?_
              rintro e w2 ⟨rfl, rfl⟩
              go_wp2_with fail
              refine (HL2.out _).mono ?_
              rintro e w2 ⟨rfl, rfl⟩
              go_wp2_with fail
              refine (HL3.out _).mono ?_
              rintro e w2 ⟨rfl, rfl⟩
              go_wp2_with fail
              go_ret
              exact ⟨rfl, HB.out⟩
        | true =>
          have hidx := HIDX.out j hlt
          have hst := nameF_at s j hlt
          have HST0 : Hid (R1 = (LX.letter (s.getD j 0) (j == 0) && LX.nameF (j + 1 == 0) (s.drop (j + 1)))) := by show _ = _; rw [← hgo.out, hst]; rfl
          have hjz : (j == 0) = decide (j = 0) := by rw [Bool.eq_iff_iff]; simp
          rw [hjz, letter_cases] at HST0
          clear hst hgo hjz
          have hc255 := (s.getD j 0).toNat_lt
          generalize (s.getD j 0).toNat = c at *
          by_cases g1 : 97 ≤ c
          · by_cases g2 : c ≤ 122
            · have g1' : (97 : Int) ≤ (c : Int) := by omega
              have g2' : (c : Int) ≤ 122 := by omega
              have HST : Hid (LX.nameF (j + 1 == 0) (s.drop (j + 1)) = R1) := by show _ = _; rw [HST0.out]; simp [g1, g2]
              clear HST0
              go_wp2_with fail
              go_roundw
              case rel => exact ⟨j + 1, true, by omega, by go_num, rfl, by show _ = _; rw [HST.out]; simp, rfl⟩
              case measure => simp [intOf]; omega
            · have g2' : ¬ (c : Int) ≤ 122 := by omega
              have g1' : (97 : Int) ≤ (c : Int) := by omega
              have g3' : ((c : Int) == 95) = false := by rw [beq_eq_false_iff_ne]; omega
              have g5 : ¬ (c : Int) ≤ 57 := by omega
              have g4 : (48 : Int) ≤ (c : Int) := by omega
              have HST : Hid (R1 = false) := by
                show _ = _
                have e1 : decide (c ≤ 122) = false := decide_eq_false g2
                have e2 : decide (c = 95) = false := decide_eq_false (by omega)
                have e3 : decide (c ≤ 57) = false := decide_eq_false (by omega)
                rw [HST0.out, e1, e2, e3]; simp
              clear HST0
              go_wp2_with fail
              go_roundw
              case rel => exact ⟨j + 1, false, by omega, by go_num, rfl, by show _ = _; rw [HST.out]; simp, rfl⟩
              case measure => simp [intOf]; omega
          · have g1' : ¬ (97 : Int) ≤ (c : Int) := by omega
            have e0 : decide (97 ≤ c) = false := decide_eq_false g1
            by_cases g3 : c = 95
            · have g3' : ((c : Int) == 95) = true := by rw [g3]; rfl
              have HST : Hid (LX.nameF (j + 1 == 0) (s.drop (j + 1)) = R1) := by show _ = _; rw [HST0.out]; simp [g3]
              clear HST0
              go_wp2_with fail
              go_roundw
              case rel => exact ⟨j + 1, true, by omega, by go_num, rfl, by show _ = _; rw [HST.out]; simp, rfl⟩
              case measure => simp [intOf]; omega
            · have g3' : ((c : Int) == 95) = false := by rw [beq_eq_false_iff_ne]; omega
              have e2 : decide (c = 95) = false := decide_eq_false g3
              by_cases g4 : 48 ≤ c
              · have g4' : (48 : Int) ≤ (c : Int) := by omega
                by_cases g5 : c ≤ 57
                · have g5' : (c : Int) ≤ 57 := by omega
                  by_cases g6 : j = 0
                  · have g6' : ¬ (0 : Int) < (j : Int) := by omega
                    have g6n : decide ((0 : Nat) < j) = false := decide_eq_false (by omega)
                    have HST : Hid (R1 = false) := by show _ = _; rw [HST0.out, e0, e2, decide_eq_true g6]; simp
                    clear HST0 g6
                    go_wp2_with fail
                    go_roundw
                    case rel => exact ⟨j + 1, false, by omega, by go_num, rfl, by show _ = _; rw [HST.out]; simp, rfl⟩
                    case measure => simp [intOf]; omega
                  · have g6' : (0 : Int) < (j : Int) := by omega
                    have g6n : decide ((0 : Nat) < j) = true := decide_eq_true (by omega)
                    have HST : Hid (LX.nameF (j + 1 == 0) (s.drop (j + 1)) = R1) := by show _ = _; rw [HST0.out, e0, e2, decide_eq_false g6, decide_eq_true g4, decide_eq_true g5]; simp
                    clear HST0
                    go_wp2_with fail
                    go_roundw
                    case rel => exact ⟨j + 1, true, by omega, by go_num, rfl, by show _ = _; rw [HST.out]; simp, rfl⟩
                    case measure => simp [intOf]; omega
                · have g5' : ¬ (c : Int) ≤ 57 := by omega
                  have HST : Hid (R1 = false) := by show _ = _; rw [HST0.out, e0, e2, decide_eq_false g5]; simp
                  clear HST0
                  go_wp2_with fail
                  go_roundw
                  case rel => exact ⟨j + 1, false, by omega, by go_num, rfl, by show _ = _; rw [HST.out]; simp, rfl⟩
                  case measure => simp [intOf]; omega
              · have g4' : ¬ (48 : Int) ≤ (c : Int) := by omega
                have HST : Hid (R1 = false) := by show _ = _; rw [HST0.out, e0, e2, decide_eq_false g4]; simp
                clear HST0
                go_wp2_with fail
                go_roundw
                case rel => exact ⟨j + 1, false, by omega, by go_num, rfl, by show _ = _; rw [HST.out]; simp, rfl⟩
                case measure => simp [intOf]; omega
      · obtain rfl : j = s.length := by omega
        have HE : Hid (R1 = v) := by
          show _ = _; rw [← hgo.out, List.drop_length]; cases (s.length == 0) <;> cases v <;> rfl
        have hlt' : ¬ (s.length : Int) < (s.length : Nat) := by omega
        clear hgo
        go_wp2_with fail
        go_loopw [6, 64] (fun b i W => Nm2At s R2 wr b i W) (fun _ i _ => 14 - (intOf i).toNat)
        case atStart => exact ⟨0, v, Nat.zero_le _, rfl, rfl, by show _ = _; rw [← HE.out]; exact HR2.out, rfl⟩
        case round =>
          clear HIDX HV HR2 HE
          obtain ⟨k, v, hk, rfl, rfl, hgo, rfl⟩ := hrel
          by_cases hlk : k < 14
          · have hck := HC.out k hlk
            have hra := res_at s k hlk
            have HX : Hid (∀ v', (v' = (v && !(s == LX.resW.getD k []))) → (v' && !((LX.resW.drop (k + 1)).any fun x => s == x)) = R2) := fun v' hv => by
              rw [hv, ← hgo.out, hra]; cases v <;> cases (s == LX.resW.getD k []) <;> simp
            clear hgo hra
            generalize LX.resW.getD k [] = x at *
            have hx := HTL.out x
            cases v with
            | false =>
              go_wp2_with fail
              go_roundw
              case rel => exact ⟨k + 1, false, by omega, by go_num, rfl, HX.out _ rfl, rfl⟩
              case measure => simp [intOf]; omega
            | true =>
              go_wp2_with fail
              go_roundw
              case rel => exact ⟨k + 1, _, by omega, by go_num, rfl, HX.out _ rfl, rfl⟩
              case measure => simp [intOf]; omega
          · obtain rfl : k = 14 := by omega
            have HE2 : Hid (v = R2) := by show _ = _; rw [← hgo.out]; cases v <;> rfl
            have HEQ2 : Hid (LX.nameB s = v) := HEQ.out.trans HE2.out.symm
            have hcm := HC.out m hul
            obtain ⟨hn1, hn2⟩ := name_words m hul
            have hml : (LX.resW.getD m []).length ≤ 5 := by
              have : ∀ i, i < 14 → (LX.resW.getD i []).length ≤ 5 := by decide
              exact this m hul
            have hm0 : (0 : Int) ≤ (m : Int) ∧ (m : Int) < 14 := by omega
            generalize LX.resW.getD m [] = T at *
            have HC1 : Hid (∀ W, Calls Tryz.prog 16 #[.string ⟨T.toArray⟩] W fun e w' => e = .returned (.bool false) ∧ w' = W) := fun W => by
              have := HNM2.out T (by omega) W
              rw [hn1] at this; exact this
            have HC2 : Hid (∀ W, Calls Tryz.prog 16 #[.string (⟨T.toArray⟩ ++ ⟨#[95]⟩)] W fun e w' => e = .returned (.bool true) ∧ w' = W) := fun W => by
              have := HNM2.out (T ++ [95]) (by simp; omega) W
              rw [hn2] at this
              have e : (⟨T.toArray⟩ ++ ⟨#[95]⟩ : ByteArray) = ⟨(T ++ [95]).toArray⟩ := ByteArray.ext (by simp)
              rw [e]; exact this
            have hTs : (⟨T.toArray⟩ : ByteArray).size = T.length := str_size T
            have HL1 : Hid (∀ W, Calls Tryz.prog 17 #[.int .u8 48, .bool true] W fun e w' => e = .returned (.bool false) ∧ w' = W) := fun W => HLET.out 48 true W
            have HL2 : Hid (∀ W, Calls Tryz.prog 17 #[.int .u8 48, .bool false] W fun e w' => e = .returned (.bool true) ∧ w' = W) := fun W => HLET.out 48 false W
            have HL3 : Hid (∀ W, Calls Tryz.prog 17 #[.int .u8 65, .bool false] W fun e w' => e = .returned (.bool false) ∧ w' = W) := fun W => HLET.out 65 false W
            clear hn1 hn2 HE2 hgo HLET HNM2 HEQ
            generalize (⟨T.toArray⟩ : ByteArray) = TS at *
            go_wp2_with fail
            refine (HNM.out _).mono ?_
            rintro e w2 ⟨rfl, rfl⟩
            rw [HEQ2.out]
            have hvv : (v == v) = true := by simp
            go_wp2_with fail
            refine (HC1.out _).mono ?_
            rintro e w2 ⟨rfl, rfl⟩
            go_wp2_with fail
            refine (HC2.out _).mono ?_
            rintro e w2 ⟨rfl, rfl⟩
            go_wp2_with fail
            refine (HL1.out _).mono ?_
            rintro e w2 ⟨rfl, rfl⟩
            go_wp2_with fail
            refine (HL2.out _).mono ?_
            rintro e w2 ⟨rfl, rfl⟩
            go_wp2_with fail
            refine (HL3.out _).mono ?_
            rintro e w2 ⟨rfl, rfl⟩
            go_wp2_with fail
            go_ret
            exact ⟨rfl, HB.out⟩
  · have hc1' : ¬ (1 : Int) ≤ (s.length : Nat) := by omega
    go_upto_region 6 with fail
    go_loopw [6, 7] (fun b i wr => Nm1At s R1 W1 b i wr) (fun _ i _ => s.length - (intOf i).toNat)
    case atStart => exact ⟨0, false, Nat.zero_le _, rfl, rfl, HV.out, rfl⟩
    case round =>
      obtain ⟨j, v, hj, rfl, rfl, hgo, rfl⟩ := hrel
      by_cases hlt : j < s.length
      · exact absurd hlt (by omega)
      · obtain rfl : j = s.length := by omega
        have HE : Hid (R1 = v) := by
          show _ = _; rw [← hgo.out, List.drop_length]; cases (s.length == 0) <;> cases v <;> rfl
        have hlt' : ¬ (s.length : Int) < (s.length : Nat) := by omega
        clear hgo
        go_wp2_with fail
        go_loopw [6, 64] (fun b i W => Nm2At s R2 wr b i W) (fun _ i _ => 14 - (intOf i).toNat)
        case atStart => exact ⟨0, v, Nat.zero_le _, rfl, rfl, by show _ = _; rw [← HE.out]; exact HR2.out, rfl⟩
        case round =>
          clear HIDX HV HR2 HE
          obtain ⟨k, v, hk, rfl, rfl, hgo, rfl⟩ := hrel
          by_cases hlk : k < 14
          · have hck := HC.out k hlk
            have hra := res_at s k hlk
            have HX : Hid (∀ v', (v' = (v && !(s == LX.resW.getD k []))) → (v' && !((LX.resW.drop (k + 1)).any fun x => s == x)) = R2) := fun v' hv => by
              rw [hv, ← hgo.out, hra]; cases v <;> cases (s == LX.resW.getD k []) <;> simp
            clear hgo hra
            generalize LX.resW.getD k [] = x at *
            have hx := HTL.out x
            cases v with
            | false =>
              go_wp2_with fail
              go_roundw
              case rel => exact ⟨k + 1, false, by omega, by go_num, rfl, HX.out _ rfl, rfl⟩
              case measure => simp [intOf]; omega
            | true =>
              go_wp2_with fail
              go_roundw
              case rel => exact ⟨k + 1, _, by omega, by go_num, rfl, HX.out _ rfl, rfl⟩
              case measure => simp [intOf]; omega
          · obtain rfl : k = 14 := by omega
            have HE2 : Hid (v = R2) := by show _ = _; rw [← hgo.out]; cases v <;> rfl
            have HEQ2 : Hid (LX.nameB s = v) := HEQ.out.trans HE2.out.symm
            have hcm := HC.out m hul
            obtain ⟨hn1, hn2⟩ := name_words m hul
            have hml : (LX.resW.getD m []).length ≤ 5 := by
              have : ∀ i, i < 14 → (LX.resW.getD i []).length ≤ 5 := by decide
              exact this m hul
            have hm0 : (0 : Int) ≤ (m : Int) ∧ (m : Int) < 14 := by omega
            generalize LX.resW.getD m [] = T at *
            have HC1 : Hid (∀ W, Calls Tryz.prog 16 #[.string ⟨T.toArray⟩] W fun e w' => e = .returned (.bool false) ∧ w' = W) := fun W => by
              have := HNM2.out T (by omega) W
              rw [hn1] at this; exact this
            have HC2 : Hid (∀ W, Calls Tryz.prog 16 #[.string (⟨T.toArray⟩ ++ ⟨#[95]⟩)] W fun e w' => e = .returned (.bool true) ∧ w' = W) := fun W => by
              have := HNM2.out (T ++ [95]) (by simp; omega) W
              rw [hn2] at this
              have e : (⟨T.toArray⟩ ++ ⟨#[95]⟩ : ByteArray) = ⟨(T ++ [95]).toArray⟩ := ByteArray.ext (by simp)
              rw [e]; exact this
            have hTs : (⟨T.toArray⟩ : ByteArray).size = T.length := str_size T
            have HL1 : Hid (∀ W, Calls Tryz.prog 17 #[.int .u8 48, .bool true] W fun e w' => e = .returned (.bool false) ∧ w' = W) := fun W => HLET.out 48 true W
            have HL2 : Hid (∀ W, Calls Tryz.prog 17 #[.int .u8 48, .bool false] W fun e w' => e = .returned (.bool true) ∧ w' = W) := fun W => HLET.out 48 false W
            have HL3 : Hid (∀ W, Calls Tryz.prog 17 #[.int .u8 65, .bool false] W fun e w' => e = .returned (.bool false) ∧ w' = W) := fun W => HLET.out 65 false W
            clear hn1 hn2 HE2 hgo HLET HNM2 HEQ
            generalize (⟨T.toArray⟩ : ByteArray) = TS at *
            go_wp2_with fail
            refine (HNM.out _).mono ?_
            rintro e w2 ⟨rfl, rfl⟩
            rw [HEQ2.out]
            have hvv : (v == v) = true := by simp
            go_wp2_with fail
            refine (HC1.out _).mono ?_
            rintro e w2 ⟨rfl, rfl⟩
            go_wp2_with fail
            refine (HC2.out _).mono ?_
            rintro e w2 ⟨rfl, rfl⟩
            go_wp2_with fail
            refine (HL1.out _).mono ?_
            rintro e w2 ⟨rfl, rfl⟩
            go_wp2_with fail
            refine (HL2.out _).mono ?_
            rintro e w2 ⟨rfl, rfl⟩
            go_wp2_with fail
            refine (HL3.out _).mono ?_
            rintro e w2 ⟨rfl, rfl⟩
            go_wp2_with fail
            go_ret
            exact ⟨rfl, HB.out⟩
end Go.Proofs.YticpjjmacmmpjaaGreatDoor
