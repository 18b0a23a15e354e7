/-
  ParseDeep, walked through the program.
-/
import Derived.Test.YticpjjmacmmpjaaGreatDoorPrV
import Derived.Test.YticpjjmacmmpjaaGreatDoorPrJ
set_option linter.unusedSimpArgs false
set_option linter.unusedVariables false
set_option maxRecDepth 100000
set_option linter.unnecessarySimpa false
namespace Go.Proofs.YticpjjmacmmpjaaGreatDoor
open Go.RowKit
def OpLoop (s : List UInt8) (K : Nat) (R : Option Nat) (w : World) (kv i : Value) (wr : World) : Prop := ∃ j k : Nat, j ≤ s.length ∧ 1 ≤ k ∧ k ≤ K ∧ i = .int .i64 j ∧ kv = .int .i64 k ∧ Hid (PR.openAt (s.drop j) k j = R) ∧ wr = w
def openV : Option Nat → Int | none => -1 | some i => (i : Nat)
set_option maxRecDepth 100000 in
set_option maxHeartbeats 1600000 in
theorem deepest_any (s : List UInt8) (K : Nat) (hK : 1 ≤ K ∧ K ≤ 1000) (hs : s.length ≤ 1000000) (w : World) : Calls Tryz.prog 38 #[.string ⟨s.toArray⟩, .int .i64 (K : Nat)] w fun e w' => e = .returned (.int .i64 (openV (PR.openAt s K 0))) ∧ w' = w := by
  have hsz : (⟨s.toArray⟩ : ByteArray).size = s.length := str_size s
  have HIDX := Lib.hid (fun i (h : i < s.length) W => str_at s i h W)
  obtain ⟨R, hR⟩ : ∃ R, PR.openAt s K 0 = R := ⟨_, rfl⟩
  have HR : Hid (PR.openAt (s.drop 0) K 0 = R) := hR
  rw [hR]
  clear hR
  generalize (⟨s.toArray⟩ : ByteArray) = S at *
  go_enter Tryz.func38, Tryz.ntmps38
  go_wp2_with fail
  go_loopw [1, 5] (fun kv i wr => OpLoop s K R w kv i wr) (fun _ i _ => s.length - (intOf i).toNat)
  case atStart => exact ⟨0, K, by omega, by omega, by omega, rfl, rfl, HR.out, rfl⟩
  case round =>
    clear HR
    obtain ⟨j, k, hj, hk1, hk2, rfl, rfl, hgo, rfl⟩ := hrel
    by_cases hlt : j < s.length
    · have hidx := HIDX.out j hlt
      have hlt' : (j : Int) < (s.length : Nat) := by omega
      have hd : s.drop j = s.getD j 0 :: s.drop (j + 1) := by
        rw [List.drop_eq_getElem_cons hlt]; congr 1; simp [List.getD, hlt]
      rw [hd] at hgo
      have e40 : ((((s.getD j 0).toNat : Nat) : Int) == 40) = decide (s.getD j 0 = 40) := byteIs (s.getD j 0) 40 (by omega)
      clear hd
      generalize s.getD j 0 = c at *
      by_cases g40 : c = 40
      · have e1 : (((c.toNat : Nat) : Int) == 40) = true := by rw [g40]; rfl
        by_cases gk : k = 1
        · have HO : Hid (R = some j) := by show _ = _; rw [← hgo.out, PR.openAt, if_pos g40, if_pos gk]
          have hkz : ((k : Int) - 1 == 0) = true := by rw [gk]; rfl
          clear hgo e40 g40
          go_wp2_with fail
          go_ret
          exact ⟨by rw [HO.out]; rfl, rfl⟩
        · have HG : Hid (PR.openAt (s.drop (j + 1)) (k - 1) (j + 1) = R) := by show _ = _; rw [← hgo.out, PR.openAt, if_pos g40, if_neg gk]
          have hkz : ((k : Int) - 1 == 0) = false := by rw [beq_eq_false_iff_ne]; omega
          have hkk : (k : Int) - 1 = ((k - 1 : Nat) : Int) := by omega
          clear hgo e40 g40
          go_wp2_with fail
          go_roundw
          case rel => exact ⟨j + 1, k - 1, by omega, by omega, by omega, by go_num, by first | rfl | (rw [← hkk]), HG.out, rfl⟩
          case measure => simp [intOf]; omega
      · have e1 : (((c.toNat : Nat) : Int) == 40) = false := by have e := e40; rw [decide_eq_false g40] at e; exact e
        have HG : Hid (PR.openAt (s.drop (j + 1)) k (j + 1) = R) := by show _ = _; rw [← hgo.out, PR.openAt, if_neg g40]
        clear hgo e40 g40
        go_wp2_with fail
        go_roundw
        case rel => exact ⟨j + 1, k, by omega, by omega, by omega, by go_num, rfl, HG.out, rfl⟩
        case measure => simp [intOf]; omega
    · have HO : Hid (R = none) := by
        show _ = _; rw [← hgo.out, List.drop_eq_nil_of_le (by omega)]; rfl
      have hlt' : ¬ (j : Int) < (s.length : Nat) := by omega
      clear hgo
      go_wp2_with fail
      go_ret
      exact ⟨by rw [HO.out]; rfl, rfl⟩
theorem deepL_len : ∀ i, (PR.deepL i).length ≤ 5 * i + 1
  | 0 => by simp [PR.deepL]
  | i + 1 => by
    have := deepL_len i
    rw [PR.deepL]
    split <;> simp <;> omega
def DsLoop (N : Nat) (W : World) (a i : Value) (wr : World) : Prop := ∃ k : Nat, k ≤ N ∧ i = .int .i64 k ∧ a = .string ⟨(PR.deepL k).toArray⟩ ∧ wr = W
def DtLoop (N : Nat) (W : World) (a i : Value) (wr : World) : Prop := ∃ k : Nat, k + 1 ≤ N ∧ i = .int .i64 ((k + 1 : Nat) : Int) ∧ a = .string ⟨((120 : UInt8) :: PR.dotsL k).toArray⟩ ∧ wr = W
def DuLoop (N : Nat) (W : World) (a i : Value) (wr : World) : Prop := ∃ k : Nat, k ≤ N ∧ i = .int .i64 k ∧ a = .string ⟨(PR.letsL k).toArray⟩ ∧ wr = W
theorem tmod2 (k : Nat) : ((k : Int) % 2 == 0) = decide (k % 2 = 0) := by
  rw [Bool.eq_iff_iff]; simp; omega
set_option maxRecDepth 100000 in
set_option maxHeartbeats 8000000 in
theorem ParseDeep_any (n m k : Int) (w : World) (hT : Tab w) (hWo : WordsAt w) : Calls Tryz.prog 9 #[.int .i64 n, .int .i64 m, .int .i64 k] w fun e w' => e = .returned (.bool true) ∧ Below w.heap.size w w' := by
  obtain ⟨hn1, hn2⟩ := lowN_eq n 15 (by omega)
  obtain ⟨hm1, hm2⟩ := lowN_eq m 15 (by omega)
  obtain ⟨hk1, hk2⟩ := lowN_eq k 15 (by omega)
  have HDS := Lib.hid (PR.deep_s (lowN n 15) (by omega))
  generalize lowN n 15 = A at *
  generalize lowN m 15 = B at *
  generalize lowN k 15 = C at *
  have hn1' : bits .and .i64 n 15 = (A : Nat) := hn1
  have hm1' : bits .and .i64 m 15 = (B : Nat) := hm1
  have hk1' : bits .and .i64 k 15 = (C : Nat) := hk1
  clear hn1 hm1 hk1
  have HE := Lib.hid (EnvP.mk hT hWo)
  have HH := Lib.hid (prHead_any w HE.out)
  have HRD := Lib.hid (fun (s : List UInt8) (hs : s.length ≤ 100000) W (h : EnvP W) => prRead_any s W h (by omega))
  clear hT hWo
  obtain ⟨N, hN⟩ : ∃ N : Nat, N = 55 + A := ⟨_, rfl⟩
  obtain ⟨M, hM⟩ : ∃ M : Nat, M = 495 + B := ⟨_, rfl⟩
  obtain ⟨KK, hKK⟩ : ∃ KK : Nat, KK = 195 + C := ⟨_, rfl⟩
  have HNi : Hid ((55 : Int) + (A : Nat) = (N : Nat)) := by show _ = _; omega
  have HMi : Hid ((495 : Int) + (B : Nat) = (M : Nat)) := by show _ = _; omega
  have HKi : Hid ((195 : Int) + (C : Nat) = (KK : Nat)) := by show _ = _; omega
  rw [← hN] at HDS
  go_enter Tryz.func9, Tryz.ntmps9
  go_wp2_with fail
  refine HH.out.mono ?_
  rintro e w1 ⟨rfl, hb⟩
  have HB1 := Lib.hid hb
  clear hb HH
  go_wp2_with fail
  rw [HNi.out]
  go_loopw [7, 8] (fun a i wr => DsLoop N w1 a i wr) (fun _ i _ => N - (intOf i).toNat)
  case atStart => exact ⟨0, by omega, rfl, rfl, rfl⟩
  case round =>
    obtain ⟨j, hj, rfl, rfl, rfl⟩ := hrel
    have hln := deepL_len j
    have hsz : (⟨(PR.deepL j).toArray⟩ : ByteArray).size = (PR.deepL j).length := str_size _
    by_cases hlt : j < N
    · have hpar := tmod2 j
      by_cases hp : j % 2 = 0
      · rw [decide_eq_true hp] at hpar
        have HA : Hid ((⟨#[40]⟩ : ByteArray) ++ ⟨(PR.deepL j).toArray⟩ ++ ⟨#[41]⟩ = ⟨(PR.deepL (j + 1)).toArray⟩) := by show _ = _; rw [PR.deepL, if_pos hp]; exact ByteArray.ext (by simp)
        have hs1 : ((⟨#[40]⟩ : ByteArray) ++ ⟨(PR.deepL j).toArray⟩).size = (PR.deepL j).length + 1 := by rw [ByteArray.size_append, hsz]; simp [ByteArray.size]; omega
        clear hp
        generalize (⟨(PR.deepL j).toArray⟩ : ByteArray) = Z at *
        go_wp2_with fail
        go_roundw
        case rel => exact ⟨j + 1, by omega, by go_num, by first | rw [HA.out] | (congr 1; exact HA.out), rfl⟩
        case measure => simp [intOf]; omega
      · rw [decide_eq_false hp] at hpar
        have HA : Hid ((⟨#[105, 110, 118, 40]⟩ : ByteArray) ++ ⟨(PR.deepL j).toArray⟩ ++ ⟨#[41]⟩ = ⟨(PR.deepL (j + 1)).toArray⟩) := by show _ = _; rw [PR.deepL, if_neg hp]; exact ByteArray.ext (by simp)
        have hs1 : ((⟨#[105, 110, 118, 40]⟩ : ByteArray) ++ ⟨(PR.deepL j).toArray⟩).size = (PR.deepL j).length + 4 := by rw [ByteArray.size_append, hsz]; simp [ByteArray.size]; omega
        clear hp
        generalize (⟨(PR.deepL j).toArray⟩ : ByteArray) = Z at *
        go_wp2_with fail
        go_roundw
        case rel => exact ⟨j + 1, by omega, by go_num, by first | rw [HA.out] | (congr 1; exact HA.out), rfl⟩
        case measure => simp [intOf]; omega
    · obtain rfl : j = N := by omega
      have hds := HDS.out
      unfold PR.deepOk at hds
      have HR1 := Lib.hid (HRD.out (PR.deepL j) (by omega) wr (HE.out.later HB1.out))
      have HDP := Lib.hid (fun W => deepest_any (PR.deepL j) 61 (by omega) (by omega) W)
      obtain ⟨P, hP⟩ : ∃ P, parseW (PR.deepL j) = P := ⟨_, rfl⟩
      rw [hP] at HR1 hds
      obtain ⟨po, en, q⟩ := P
      generalize PR.openAt (PR.deepL j) 61 0 = oa at *
      generalize (⟨(PR.deepL j).toArray⟩ : ByteArray) = Z at *
      clear hP HDS hln hsz
      by_cases h60 : j ≤ 60
      · rw [if_pos h60] at hds
        simp only [Bool.and_eq_true, beq_iff_eq, Bool.not_eq_true'] at hds
        obtain ⟨he, hpo⟩ := hds
        subst he
        have h60' : (j : Int) ≤ 60 := by omega
        have h60g : ¬ (60 : Int) < (j : Int) := by omega
        go_wp2_with fail
        refine HR1.out.mono ?_
        rintro e ws ⟨v1, rfl, hb1, hv1⟩
        have HBS := Lib.hid (ext_step HB1.out hb1)
        obtain ⟨B1, rfl⟩ : ∃ B1, v1 = ptr B1 := by
          cases po with
          | none => simp at hpo
          | some r1 => obtain ⟨B1, _, _, _, h1, _⟩ := hv1; exact ⟨B1, h1⟩
        clear hb1 hv1 hpo HR1
        have HTT := Lib.hid (PR.deep_t (M - 1) (by omega))
        go_wp2_with fail
        rw [HMi.out]
        go_loopw [12, 13] (fun a i W => DtLoop M ws a i W) (fun _ i _ => M - (intOf i).toNat)
        case atStart => exact ⟨0, by omega, rfl, rfl, rfl⟩
        case round =>
          obtain ⟨x, hx, rfl, rfl, rfl⟩ := hrel
          have hlt1 := PR.dotsL_len x
          have hszt : (⟨((120 : UInt8) :: PR.dotsL x).toArray⟩ : ByteArray).size = 2 * x + 1 := by rw [str_size, List.length_cons, hlt1]
          by_cases hltx : x + 1 < M
          · have HA : Hid ((⟨((120 : UInt8) :: PR.dotsL x).toArray⟩ : ByteArray) ++ ⟨#[46, 120]⟩ = ⟨((120 : UInt8) :: PR.dotsL (x + 1)).toArray⟩) := by show _ = _; rw [PR.dotsL_snoc]; exact ByteArray.ext (by simp)
            have hltx' : ((x + 1 : Nat) : Int) < (M : Nat) := by omega
            generalize (⟨((120 : UInt8) :: PR.dotsL x).toArray⟩ : ByteArray) = Z8 at *
            go_wp2_with fail
            go_roundw
            case rel => exact ⟨x + 1, by omega, by first | rfl | go_num, by first | rw [HA.out] | (congr 1; exact HA.out), rfl⟩
            case measure => simp [intOf]; omega
          · obtain rfl : M = x + 1 := by omega
            have hTT := HTT.out
            rw [Nat.add_sub_cancel] at hTT
            have HR2 : Hid (∀ W, EnvP W → Calls Tryz.prog 37 #[.string ⟨((120 : UInt8) :: PR.dotsL x).toArray⟩] W (PReadPost W (parseW (120 :: PR.dotsL x)))) := fun W hW => HRD.out _ (by simp [hlt1]; omega) W hW
            have hltx' : ¬ ((x + 1 : Nat) : Int) < ((x + 1 : Nat) : Int) := by omega
            generalize parseW (120 :: PR.dotsL x) = P2 at *
            generalize (⟨((120 : UInt8) :: PR.dotsL x).toArray⟩ : ByteArray) = Z8 at *
            obtain ⟨MM, hMM⟩ : ∃ MM : Nat, x + 1 = MM := ⟨_, rfl⟩
            by_cases h500 : x + 1 ≤ 500
            · obtain ⟨r2, rfl⟩ := hTT.1 (by omega)
              have h500' : ((x + 1 : Nat) : Int) ≤ 500 := by omega
              have h500g : ¬ (500 : Int) < ((x + 1 : Nat) : Int) := by omega
              clear hTT HTT
              go_wp2_with fail
              refine (HR2.out _ (HE.out.later HBS.out)).mono ?_
              rintro e wt ⟨v2, rfl, hb2, _⟩
              have HBT := Lib.hid (ext_step HBS.out hb2)
              clear hb2 HR2
              have hnum_k : KK ≤ 210 := by omega
              have HU := Lib.hid (PR.deep_u KK (by omega))
              go_wp2_with fail
              rw [HKi.out]
              go_loopw [17, 18] (fun a i W => DuLoop KK wt a i W) (fun _ i _ => KK - (intOf i).toNat)
              case atStart => exact ⟨0, by omega, rfl, rfl, rfl⟩
              case round =>
                obtain ⟨y, hy, rfl, rfl, rfl⟩ := hrel
                have hlu := PR.letsL_len y
                have hszu : (⟨(PR.letsL y).toArray⟩ : ByteArray).size = 11 * y := by rw [str_size, hlu]
                by_cases hlty : y < KK
                · have HA : Hid ((⟨(PR.letsL y).toArray⟩ : ByteArray) ++ ⟨#[108, 101, 116, 32, 120, 61, 120, 32, 105, 110, 32]⟩ = ⟨(PR.letsL (y + 1)).toArray⟩) := by show _ = _; rw [PR.letsL_snoc]; exact ByteArray.ext (by simp)
                  generalize (⟨(PR.letsL y).toArray⟩ : ByteArray) = Z9 at *
                  go_wp2_with fail
                  go_roundw
                  case rel => exact ⟨y + 1, by omega, by go_num, by first | rw [HA.out] | (congr 1; exact HA.out), rfl⟩
                  case measure => simp [intOf]; omega
                · obtain rfl : y = KK := by omega
                  have hU := HU.out
                  have HR3 : Hid (∀ W, EnvP W → Calls Tryz.prog 37 #[.string (⟨(PR.letsL y).toArray⟩ ++ ⟨#[120]⟩)] W (PReadPost W (parseW (PR.letsL y ++ [120])))) := fun W hW => by
                    have e : (⟨(PR.letsL y).toArray⟩ ++ ⟨#[120]⟩ : ByteArray) = ⟨(PR.letsL y ++ [120]).toArray⟩ := ByteArray.ext (by simp)
                    rw [e]; exact HRD.out _ (by simp [hlu]; omega) W hW
                  generalize parseW (PR.letsL y ++ [120]) = P3 at *
                  generalize (⟨(PR.letsL y).toArray⟩ : ByteArray) = Z9 at *
                  by_cases h200 : y ≤ 200
                  · obtain ⟨r3, rfl⟩ := hU.1 h200
                    have h200' : (y : Int) ≤ 200 := by omega
                    clear hU HU
                    go_wp2_with fail
                    refine (HR3.out _ (HE.out.later HBT.out)).mono ?_
                    rintro e wu ⟨v3, rfl, hb3, _⟩
                    have HB9 := Lib.hid (ext_step HBT.out hb3)
                    clear hb3 HR3
                    go_wp2_with fail
                    go_ret
                    exact ⟨rfl, HB9.out⟩
                  · have hp3 := hU.2 (by omega)
                    subst hp3
                    have h200' : ¬ (y : Int) ≤ 200 := by omega
                    have h200g : (200 : Int) < (y : Int) := by omega
                    clear hU HU
                    go_wp2_with fail
                    refine (HR3.out _ (HE.out.later HBT.out)).mono ?_
                    rintro e wu ⟨v3, rfl, hb3, _⟩
                    have HB9 := Lib.hid (ext_step HBT.out hb3)
                    clear hb3 HR3
                    go_wp2_with fail
                    go_ret
                    exact ⟨rfl, HB9.out⟩
            · have hp2 := hTT.2 (by omega)
              subst hp2
              have h500' : ¬ ((x + 1 : Nat) : Int) ≤ 500 := by omega
              have h500g : (500 : Int) < ((x + 1 : Nat) : Int) := by omega
              clear hTT HTT
              go_wp2_with fail
              refine (HR2.out _ (HE.out.later HBS.out)).mono ?_
              rintro e wt ⟨v2, rfl, hb2, _⟩
              have HBT := Lib.hid (ext_step HBS.out hb2)
              clear hb2 HR2
              have hnum_k : KK ≤ 210 := by omega
              have HU := Lib.hid (PR.deep_u KK (by omega))
              go_wp2_with fail
              rw [HKi.out]
              go_loopw [17, 18] (fun a i W => DuLoop KK wt a i W) (fun _ i _ => KK - (intOf i).toNat)
              case atStart => exact ⟨0, by omega, rfl, rfl, rfl⟩
              case round =>
                obtain ⟨y, hy, rfl, rfl, rfl⟩ := hrel
                have hlu := PR.letsL_len y
                have hszu : (⟨(PR.letsL y).toArray⟩ : ByteArray).size = 11 * y := by rw [str_size, hlu]
                by_cases hlty : y < KK
                · have HA : Hid ((⟨(PR.letsL y).toArray⟩ : ByteArray) ++ ⟨#[108, 101, 116, 32, 120, 61, 120, 32, 105, 110, 32]⟩ = ⟨(PR.letsL (y + 1)).toArray⟩) := by show _ = _; rw [PR.letsL_snoc]; exact ByteArray.ext (by simp)
                  generalize (⟨(PR.letsL y).toArray⟩ : ByteArray) = Z9 at *
                  go_wp2_with fail
                  go_roundw
                  case rel => exact ⟨y + 1, by omega, by go_num, by first | rw [HA.out] | (congr 1; exact HA.out), rfl⟩
                  case measure => simp [intOf]; omega
                · obtain rfl : y = KK := by omega
                  have hU := HU.out
                  have HR3 : Hid (∀ W, EnvP W → Calls Tryz.prog 37 #[.string (⟨(PR.letsL y).toArray⟩ ++ ⟨#[120]⟩)] W (PReadPost W (parseW (PR.letsL y ++ [120])))) := fun W hW => by
                    have e : (⟨(PR.letsL y).toArray⟩ ++ ⟨#[120]⟩ : ByteArray) = ⟨(PR.letsL y ++ [120]).toArray⟩ := ByteArray.ext (by simp)
                    rw [e]; exact HRD.out _ (by simp [hlu]; omega) W hW
                  generalize parseW (PR.letsL y ++ [120]) = P3 at *
                  generalize (⟨(PR.letsL y).toArray⟩ : ByteArray) = Z9 at *
                  by_cases h200 : y ≤ 200
                  · obtain ⟨r3, rfl⟩ := hU.1 h200
                    have h200' : (y : Int) ≤ 200 := by omega
                    clear hU HU
                    go_wp2_with fail
                    refine (HR3.out _ (HE.out.later HBT.out)).mono ?_
                    rintro e wu ⟨v3, rfl, hb3, _⟩
                    have HB9 := Lib.hid (ext_step HBT.out hb3)
                    clear hb3 HR3
                    go_wp2_with fail
                    go_ret
                    exact ⟨rfl, HB9.out⟩
                  · have hp3 := hU.2 (by omega)
                    subst hp3
                    have h200' : ¬ (y : Int) ≤ 200 := by omega
                    have h200g : (200 : Int) < (y : Int) := by omega
                    clear hU HU
                    go_wp2_with fail
                    refine (HR3.out _ (HE.out.later HBT.out)).mono ?_
                    rintro e wu ⟨v3, rfl, hb3, _⟩
                    have HB9 := Lib.hid (ext_step HBT.out hb3)
                    clear hb3 HR3
                    go_wp2_with fail
                    go_ret
                    exact ⟨rfl, HB9.out⟩
      · rw [if_neg h60] at hds
        simp only [Bool.and_eq_true, beq_iff_eq] at hds
        obtain ⟨he, hpo⟩ := hds
        subst he
        rw [hpo] at HDP
        have h60' : ¬ (j : Int) ≤ 60 := by omega
        have h60g : (60 : Int) < (j : Int) := by omega
        go_wp2_with fail
        refine HR1.out.mono ?_
        rintro e ws ⟨v1, rfl, hb1, _⟩
        have HBS := Lib.hid (ext_step HB1.out hb1)
        clear hb1 hpo HR1
        go_wp2_with fail
        refine (HDP.out _).mono ?_
        rintro e wd ⟨rfl, rfl⟩
        have hov : openV (some q) = (q : Nat) := rfl
        rw [hov]
        have HTT := Lib.hid (PR.deep_t (M - 1) (by omega))
        go_wp2_with fail
        rw [HMi.out]
        go_loopw [12, 13] (fun a i W => DtLoop M wd a i W) (fun _ i _ => M - (intOf i).toNat)
        case atStart => exact ⟨0, by omega, rfl, rfl, rfl⟩
        case round =>
          obtain ⟨x, hx, rfl, rfl, rfl⟩ := hrel
          have hlt1 := PR.dotsL_len x
          have hszt : (⟨((120 : UInt8) :: PR.dotsL x).toArray⟩ : ByteArray).size = 2 * x + 1 := by rw [str_size, List.length_cons, hlt1]
          by_cases hltx : x + 1 < M
          · have HA : Hid ((⟨((120 : UInt8) :: PR.dotsL x).toArray⟩ : ByteArray) ++ ⟨#[46, 120]⟩ = ⟨((120 : UInt8) :: PR.dotsL (x + 1)).toArray⟩) := by show _ = _; rw [PR.dotsL_snoc]; exact ByteArray.ext (by simp)
            have hltx' : ((x + 1 : Nat) : Int) < (M : Nat) := by omega
            generalize (⟨((120 : UInt8) :: PR.dotsL x).toArray⟩ : ByteArray) = Z8 at *
            go_wp2_with fail
            go_roundw
            case rel => exact ⟨x + 1, by omega, by first | rfl | go_num, by first | rw [HA.out] | (congr 1; exact HA.out), rfl⟩
            case measure => simp [intOf]; omega
          · obtain rfl : M = x + 1 := by omega
            have hTT := HTT.out
            rw [Nat.add_sub_cancel] at hTT
            have HR2 : Hid (∀ W, EnvP W → Calls Tryz.prog 37 #[.string ⟨((120 : UInt8) :: PR.dotsL x).toArray⟩] W (PReadPost W (parseW (120 :: PR.dotsL x)))) := fun W hW => HRD.out _ (by simp [hlt1]; omega) W hW
            have hltx' : ¬ ((x + 1 : Nat) : Int) < ((x + 1 : Nat) : Int) := by omega
            generalize parseW (120 :: PR.dotsL x) = P2 at *
            generalize (⟨((120 : UInt8) :: PR.dotsL x).toArray⟩ : ByteArray) = Z8 at *
            obtain ⟨MM, hMM⟩ : ∃ MM : Nat, x + 1 = MM := ⟨_, rfl⟩
            by_cases h500 : x + 1 ≤ 500
            · obtain ⟨r2, rfl⟩ := hTT.1 (by omega)
              have h500' : ((x + 1 : Nat) : Int) ≤ 500 := by omega
              have h500g : ¬ (500 : Int) < ((x + 1 : Nat) : Int) := by omega
              clear hTT HTT
              go_wp2_with fail
              refine (HR2.out _ (HE.out.later HBS.out)).mono ?_
              rintro e wt ⟨v2, rfl, hb2, _⟩
              have HBT := Lib.hid (ext_step HBS.out hb2)
              clear hb2 HR2
              have hnum_k : KK ≤ 210 := by omega
              have HU := Lib.hid (PR.deep_u KK (by omega))
              go_wp2_with fail
              rw [HKi.out]
              go_loopw [17, 18] (fun a i W => DuLoop KK wt a i W) (fun _ i _ => KK - (intOf i).toNat)
              case atStart => exact ⟨0, by omega, rfl, rfl, rfl⟩
              case round =>
                obtain ⟨y, hy, rfl, rfl, rfl⟩ := hrel
                have hlu := PR.letsL_len y
                have hszu : (⟨(PR.letsL y).toArray⟩ : ByteArray).size = 11 * y := by rw [str_size, hlu]
                by_cases hlty : y < KK
                · have HA : Hid ((⟨(PR.letsL y).toArray⟩ : ByteArray) ++ ⟨#[108, 101, 116, 32, 120, 61, 120, 32, 105, 110, 32]⟩ = ⟨(PR.letsL (y + 1)).toArray⟩) := by show _ = _; rw [PR.letsL_snoc]; exact ByteArray.ext (by simp)
                  generalize (⟨(PR.letsL y).toArray⟩ : ByteArray) = Z9 at *
                  go_wp2_with fail
                  go_roundw
                  case rel => exact ⟨y + 1, by omega, by go_num, by first | rw [HA.out] | (congr 1; exact HA.out), rfl⟩
                  case measure => simp [intOf]; omega
                · obtain rfl : y = KK := by omega
                  have hU := HU.out
                  have HR3 : Hid (∀ W, EnvP W → Calls Tryz.prog 37 #[.string (⟨(PR.letsL y).toArray⟩ ++ ⟨#[120]⟩)] W (PReadPost W (parseW (PR.letsL y ++ [120])))) := fun W hW => by
                    have e : (⟨(PR.letsL y).toArray⟩ ++ ⟨#[120]⟩ : ByteArray) = ⟨(PR.letsL y ++ [120]).toArray⟩ := ByteArray.ext (by simp)
                    rw [e]; exact HRD.out _ (by simp [hlu]; omega) W hW
                  generalize parseW (PR.letsL y ++ [120]) = P3 at *
                  generalize (⟨(PR.letsL y).toArray⟩ : ByteArray) = Z9 at *
                  by_cases h200 : y ≤ 200
                  · obtain ⟨r3, rfl⟩ := hU.1 h200
                    have h200' : (y : Int) ≤ 200 := by omega
                    clear hU HU
                    go_wp2_with fail
                    refine (HR3.out _ (HE.out.later HBT.out)).mono ?_
                    rintro e wu ⟨v3, rfl, hb3, _⟩
                    have HB9 := Lib.hid (ext_step HBT.out hb3)
                    clear hb3 HR3
                    go_wp2_with fail
                    go_ret
                    exact ⟨rfl, HB9.out⟩
                  · have hp3 := hU.2 (by omega)
                    subst hp3
                    have h200' : ¬ (y : Int) ≤ 200 := by omega
                    have h200g : (200 : Int) < (y : Int) := by omega
                    clear hU HU
                    go_wp2_with fail
                    refine (HR3.out _ (HE.out.later HBT.out)).mono ?_
                    rintro e wu ⟨v3, rfl, hb3, _⟩
                    have HB9 := Lib.hid (ext_step HBT.out hb3)
                    clear hb3 HR3
                    go_wp2_with fail
                    go_ret
                    exact ⟨rfl, HB9.out⟩
            · have hp2 := hTT.2 (by omega)
              subst hp2
              have h500' : ¬ ((x + 1 : Nat) : Int) ≤ 500 := by omega
              have h500g : (500 : Int) < ((x + 1 : Nat) : Int) := by omega
              clear hTT HTT
              go_wp2_with fail
              refine (HR2.out _ (HE.out.later HBS.out)).mono ?_
              rintro e wt ⟨v2, rfl, hb2, _⟩
              have HBT := Lib.hid (ext_step HBS.out hb2)
              clear hb2 HR2
              have hnum_k : KK ≤ 210 := by omega
              have HU := Lib.hid (PR.deep_u KK (by omega))
              go_wp2_with fail
              rw [HKi.out]
              go_loopw [17, 18] (fun a i W => DuLoop KK wt a i W) (fun _ i _ => KK - (intOf i).toNat)
              case atStart => exact ⟨0, by omega, rfl, rfl, rfl⟩
              case round =>
                obtain ⟨y, hy, rfl, rfl, rfl⟩ := hrel
                have hlu := PR.letsL_len y
                have hszu : (⟨(PR.letsL y).toArray⟩ : ByteArray).size = 11 * y := by rw [str_size, hlu]
                by_cases hlty : y < KK
                · have HA : Hid ((⟨(PR.letsL y).toArray⟩ : ByteArray) ++ ⟨#[108, 101, 116, 32, 120, 61, 120, 32, 105, 110, 32]⟩ = ⟨(PR.letsL (y + 1)).toArray⟩) := by show _ = _; rw [PR.letsL_snoc]; exact ByteArray.ext (by simp)
                  generalize (⟨(PR.letsL y).toArray⟩ : ByteArray) = Z9 at *
                  go_wp2_with fail
                  go_roundw
                  case rel => exact ⟨y + 1, by omega, by go_num, by first | rw [HA.out] | (congr 1; exact HA.out), rfl⟩
                  case measure => simp [intOf]; omega
                · obtain rfl : y = KK := by omega
                  have hU := HU.out
                  have HR3 : Hid (∀ W, EnvP W → Calls Tryz.prog 37 #[.string (⟨(PR.letsL y).toArray⟩ ++ ⟨#[120]⟩)] W (PReadPost W (parseW (PR.letsL y ++ [120])))) := fun W hW => by
                    have e : (⟨(PR.letsL y).toArray⟩ ++ ⟨#[120]⟩ : ByteArray) = ⟨(PR.letsL y ++ [120]).toArray⟩ := ByteArray.ext (by simp)
                    rw [e]; exact HRD.out _ (by simp [hlu]; omega) W hW
                  generalize parseW (PR.letsL y ++ [120]) = P3 at *
                  generalize (⟨(PR.letsL y).toArray⟩ : ByteArray) = Z9 at *
                  by_cases h200 : y ≤ 200
                  · obtain ⟨r3, rfl⟩ := hU.1 h200
                    have h200' : (y : Int) ≤ 200 := by omega
                    clear hU HU
                    go_wp2_with fail
                    refine (HR3.out _ (HE.out.later HBT.out)).mono ?_
                    rintro e wu ⟨v3, rfl, hb3, _⟩
                    have HB9 := Lib.hid (ext_step HBT.out hb3)
                    clear hb3 HR3
                    go_wp2_with fail
                    go_ret
                    exact ⟨rfl, HB9.out⟩
                  · have hp3 := hU.2 (by omega)
                    subst hp3
                    have h200' : ¬ (y : Int) ≤ 200 := by omega
                    have h200g : (200 : Int) < (y : Int) := by omega
                    clear hU HU
                    go_wp2_with fail
                    refine (HR3.out _ (HE.out.later HBT.out)).mono ?_
                    rintro e wu ⟨v3, rfl, hb3, _⟩
                    have HB9 := Lib.hid (ext_step HBT.out hb3)
                    clear hb3 HR3
                    go_wp2_with fail
                    go_ret
                    exact ⟨rfl, HB9.out⟩
end Go.Proofs.YticpjjmacmmpjaaGreatDoor
