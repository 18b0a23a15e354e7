/-
  ParseExprs, walked through the program. What the listed variables' data give the walks: the library's table and the ops' words lie as their initialisers lay them.
-/
import Derived.Test.YtgamknphlmcgnaaGreatDoorRows
import Derived.Test.YtgamknphlmcgnaaGreatDoorTie
import Derived.ProofKit
import Derived.LaidMore
import Derived.OpenShut
import Derived.Stop.Joined
import Derived.Test.YtgamknphlmcgnaaGreatDoorPeA
import Derived.Test.YtgamknphlmcgnaaGreatDoorPeB
import Derived.Test.YtgamknphlmcgnaaGreatDoorPeC
import Derived.Test.YtgamknphlmcgnaaGreatDoorPeD
import Derived.Test.YtgamknphlmcgnaaGreatDoorPeE
import Derived.Test.YtgamknphlmcgnaaGreatDoorPeF
import Derived.Test.YtgamknphlmcgnaaGreatDoorPeG
import Derived.Test.YtgamknphlmcgnaaGreatDoorPeH
import Derived.Test.YtgamknphlmcgnaaGreatDoorPeI
import Derived.Test.YtgamknphlmcgnaaGreatDoorPeJ
import Derived.Test.YtgamknphlmcgnaaGreatDoorPeK
import Derived.Test.YtgamknphlmcgnaaGreatDoorPeL
section
set_option linter.unusedSimpArgs false
set_option linter.unusedVariables false
set_option maxRecDepth 100000
set_option linter.unnecessarySimpa false
namespace Go.Proofs.YtgamknphlmcgnaaGreatDoor
open Go.RowKit
theorem pr_two {w : World} {b b' : Nat} {r r' : RE} (h : IsRe w b r) (h' : IsRe w b' r') : ListO (w.alloc (.cells #[ptr b, ptr b'] 28)) (some ⟨w.heap.size, 0, none⟩) [some r, some r'] := .inr ⟨w.heap.size, 0, rfl, fun i hi => by
  have : i = 0 ∨ i = 1 := by simp at hi; omega
  rcases this with rfl | rfl
  · exact ⟨ptr b, by rw [cell_of_row _ _ _ _ _ _ (heap_alloc_last w _)]; rfl, b, rfl, h.later (Nat.le_refl _) (re_alloc w _)⟩
  · exact ⟨ptr b', by rw [cell_of_row _ _ _ _ _ _ (heap_alloc_last w _)]; rfl, b', rfl, h'.later (Nat.le_refl _) (re_alloc w _)⟩⟩
def ExLoop (N : Nat) (W : World) (a i : Value) (wr : World) : Prop := ∃ k : Nat, k ≤ N ∧ i = .int .i64 k ∧ a = .string ⟨(PR.aN k).toArray⟩ ∧ wr = W
def RsLoop (M : Nat) (w0 : World) (r i : Value) (wr : World) : Prop := ∃ k b : Nat, k ≤ M ∧ i = .int .i64 k ∧ r = ptr b ∧ Hid (IsRe wr b (PR.rN k)) ∧ Hid (Below w0.heap.size w0 wr)
def DpLoop (t : List UInt8) (R : Int) (W : World) (d m i : Value) (wr : World) : Prop := ∃ (j : Nat) (n x : Int), j ≤ t.length + 1 ∧ -(j : Int) ≤ n ∧ n ≤ j ∧ 0 ≤ x ∧ x ≤ j ∧ i = .int .i64 j ∧ d = .int .i64 n ∧ m = .int .i64 x ∧ Hid (PS.deepS (t.drop j) n x = R) ∧ wr = W
theorem pr_deepS_esc (r : List UInt8) (n x : Int) : PS.deepS (92 :: r) n x = PS.deepS (r.drop 1) n x := by
  cases r with
  | nil => rfl
  | cons d r => rw [PS.deepS, if_pos rfl]; rfl
set_option maxRecDepth 100000 in
set_option maxHeartbeats 8000000 in
theorem ParseExprs_any (n m : Int) (w : World) (hT : Tab w) (hWo : WordsAt w) : Calls Tryz.prog 3 #[.int .i64 n, .int .i64 m] w fun e w' => e = .returned (.bool true) ∧ Below w.heap.size w w' := by
  obtain ⟨hn1, hn2⟩ := lowN_eq n 7 (by omega)
  obtain ⟨hm1, hm2⟩ := lowN_eq m 7 (by omega)
  have HEX := Lib.hid (PR.exOk_all (lowN n 7) (by omega))
  have HMX := Lib.hid (PR.mOk_all (lowN m 7) (by omega))
  generalize lowN n 7 = A at *
  generalize lowN m 7 = B at *
  have hn1' : bits .and .i64 n 7 = (A : Nat) := hn1
  have hm1' : bits .and .i64 m 7 = (B : Nat) := hm1
  clear hn1 hm1
  have HE := Lib.hid (EnvP.mk hT hWo)
  have HH := Lib.hid (prHead_any w HE.out)
  have HRD := Lib.hid (fun (s : List UInt8) (hs : s.length ≤ 100000) W (h : EnvP W) => prRead_any s W h (by omega))
  clear hT hWo
  obtain ⟨N, hN⟩ : ∃ N : Nat, N = 295 + A := ⟨_, rfl⟩
  obtain ⟨M, hM⟩ : ∃ M : Nat, M = 47 + B := ⟨_, rfl⟩
  have HNi : Hid ((295 : Int) + (A : Nat) = (N : Nat)) := by show _ = _; omega
  have HMi : Hid ((47 : Int) + (B : Nat) = (M : Nat)) := by show _ = _; omega
  rw [← hN] at HEX
  rw [← hM] at HMX
  have hNb : N ≤ 302 := by omega
  have hMb : M ≤ 54 := by omega
  clear hN hM
  go_enter Tryz.func3, Tryz.ntmps3
  go_wp2_with fail
  refine HH.out.mono ?_
  rintro e w1 ⟨rfl, hb⟩
  have HB1 := Lib.hid hb
  clear hb HH
  go_wp2_with fail
  rw [HNi.out]
  go_loopw [5, 6] (fun a i wr => ExLoop N w1 a i wr) (fun _ i _ => N - (intOf i).toNat)
  case atStart => exact ⟨0, by omega, rfl, rfl, rfl⟩
  case round =>
    obtain ⟨j, hj, rfl, rfl, rfl⟩ := hrel
    have hsz : (⟨(PR.aN j).toArray⟩ : ByteArray).size = j := by rw [str_size, PR.aN_len]
    by_cases hlt : j < N
    · have HA : Hid ((⟨(PR.aN j).toArray⟩ : ByteArray) ++ ⟨#[97]⟩ = ⟨(PR.aN (j + 1)).toArray⟩) := ByteArray.ext (by simp [PR.aN])
      generalize (⟨(PR.aN j).toArray⟩ : ByteArray) = Z at *
      go_wp2_with fail
      go_roundw
      case rel => exact ⟨j + 1, by omega, by go_num, by first | rw [HA.out] | (congr 1; exact HA.out), rfl⟩
      case measure => simp [intOf]; omega
    · obtain rfl : j = N := by omega
      have hex := HEX.out
      unfold PR.exOk at hex
      have HR1 : Hid (Calls Tryz.prog 16 #[.string (⟨#[99, 111, 112, 121, 32, 120, 32, 46, 32, 99, 111, 112, 121, 32, 47]⟩ ++ ⟨(PR.aN j).toArray⟩ ++ ⟨#[47]⟩)] wr (PReadPost wr (parseW (PR.exT j)))) := by
        have e : (⟨#[99, 111, 112, 121, 32, 120, 32, 46, 32, 99, 111, 112, 121, 32, 47]⟩ ++ ⟨(PR.aN j).toArray⟩ ++ ⟨#[47]⟩ : ByteArray) = ⟨(PR.exT j).toArray⟩ := ByteArray.ext (by simp [PR.exT])
        rw [e]; exact HRD.out _ (by simp [PR.exT, PR.aN_len]; omega) wr (HE.out.later HB1.out)
      generalize parseW (PR.exT j) = P at *
      obtain ⟨po, en, q⟩ := P
      have hex : (if j ≤ 299 then en == 0 && po.isSome else en == 3 && q == 14) = true := hex
      generalize (⟨(PR.aN j).toArray⟩ : ByteArray) = Z at *
      have hz1 : (⟨#[99, 111, 112, 121, 32, 120, 32, 46, 32, 99, 111, 112, 121, 32, 47]⟩ ++ Z : ByteArray).size = 15 + j := by rw [ByteArray.size_append, hsz]; rfl
      clear HEX
      by_cases h299 : j ≤ 299
      · rw [if_pos h299] at hex
        simp only [Bool.and_eq_true, beq_iff_eq] at hex
        obtain ⟨rfl, hpo⟩ := hex
        have h299' : (j : Int) ≤ 299 := by omega
        have h299g : ¬ (299 : Int) < (j : Int) := by omega
        go_wp2_with fail
        refine HR1.out.mono ?_
        rintro e ws ⟨v1, rfl, hb1, hv1⟩
        have HBS := Lib.hid (ext_step HB1.out hb1)
        obtain ⟨B1, rfl⟩ : ∃ B1, v1 = ptr B1 := by
          cases po with
          | none => simp at hpo
          | some r1 => obtain ⟨B1, _, _, _, h1, _⟩ := hv1; exact ⟨B1, h1⟩
        clear hb1 hv1 hpo HR1 hz1 hsz
        go_wp2_with fail
        refine (One_any 2#64 0#64 0#64 0#64 _).mono ?_
        rintro e wo ⟨b0, rfl, hr0, hb0⟩
        have HO := Lib.hid (show IsRe wo b0 (PR.rN 0) from hr0.is)
        have HBO := Lib.hid (ext_step HBS.out hb0)
        clear hr0 hb0
        go_wp2_with fail
        rw [HMi.out]
        go_loopw [11, 12] (fun r i wr => RsLoop M w r i wr) (fun _ i _ => M - (intOf i).toNat)
        case atStart => exact ⟨0, b0, by omega, rfl, rfl, HO.out, HBO.out⟩
        case round =>
          obtain ⟨k, b, hk, rfl, rfl, hre, hbl⟩ := hrel
          have hs4 := PR.rN_size k
          by_cases hlk : k < M
          · have hkM : (k : Int) < (M : Nat) := by omega
            have HF : Hid (RE.sizes (RE.flat 3 [some (RE.many (some (PR.rN k))), some (RE.one ⟨4#64, 0#64, 0#64, 0#64⟩)]) ≤ 1099511627775) := by
              show RE.sizes _ ≤ _
              have h1 := RE.sizes_flat 3 [some (RE.many (some (PR.rN k))), some (RE.one ⟨4#64, 0#64, 0#64, 0#64⟩)]
              have h3 := RE.size_many (some (PR.rN k))
              have h4 := RE.one_size' ⟨4#64, 0#64, 0#64, 0#64⟩
              simp only [RE.sizeOs, List.map_cons, List.map_nil, List.sum_cons, List.sum_nil, RE.sizeO] at h1 h3
              omega
            go_wp2_with fail
            refine (Many_any (ptr b) (some (PR.rN k)) _ ⟨b, rfl, hre.out⟩ (by show (PR.rN k).size ≤ _; omega)).mono ?_
            rintro e wa ⟨ba, rfl, hra, hba⟩
            have HRA := Lib.hid hra
            have HBA := Lib.hid (ext_step hbl.out hba)
            clear hra hba
            go_wp2_with fail
            refine (One_any 4#64 0#64 0#64 0#64 _).mono ?_
            rintro e wc ⟨bc, rfl, hrc, hbc⟩
            have HRA2 := Lib.hid (HRA.out.later (Nat.le_refl _) hbc)
            have HRC := Lib.hid hrc.is
            have HBC := Lib.hid (ext_step HBA.out hbc)
            clear hrc hbc
            go_wp2_with fail
            refine (Then_any (some ⟨wc.heap.size, 0, none⟩) 2 [some (RE.many (some (PR.rN k))), some (RE.one ⟨4#64, 0#64, 0#64, 0#64⟩)] _ (pr_two HRA2.out HRC.out) (PR.nf_two (RE.nf_many fun r hr => by cases hr; exact PR.rN_nf k) (RE.nf_one _)) HF.out (by simp)).mono ?_
            rintro e wd ⟨bd, rfl, hrd, hbd⟩
            have HRDD := Lib.hid (show IsRe wd bd (PR.rN (k + 1)) from hrd)
            have HBD := Lib.hid (ext_step HBC.out ((re_alloc wc _).trans (hbd.mono (by simp))))
            clear hrd hbd
            go_wp2_with fail
            go_roundw
            case rel => exact ⟨k + 1, bd, by omega, by go_num, rfl, HRDD.out, HBD.out⟩
            case measure => simp [intOf]; omega
          · obtain rfl : k = M := by omega
            have hkM : ¬ (k : Int) < (k : Nat) := by omega
            go_wp2_with fail
            refine (txOf_any (PR.rN k).size (PR.rN k) (Nat.le_refl _) (PR.rN_nf k) (by omega) _ b (HE.out.tab.later hbl.out) hre.out).mono ?_
            rintro e wt ⟨rfl, hbt⟩
            have HBT := Lib.hid (ext_step hbl.out hbt)
            have HRE := Lib.hid (hre.out.later (Nat.le_refl _) hbt)
            clear hbt hre hbl
            have hml := PR.mT_len k (by omega)
            have HTT : Hid ((⟨#[47]⟩ : ByteArray) ++ ⟨(RE.ofW (PR.rN k)).toArray⟩ ++ ⟨#[47]⟩ = ⟨(PR.mT k).toArray⟩) := ByteArray.ext (by simp [PR.mT])
            have hol : (⟨(RE.ofW (PR.rN k)).toArray⟩ : ByteArray).size ≤ 1000 := by rw [str_size]; simp [PR.mT] at hml; omega
            have hol1 : ((⟨#[47]⟩ : ByteArray) ++ ⟨(RE.ofW (PR.rN k)).toArray⟩).size = 1 + (⟨(RE.ofW (PR.rN k)).toArray⟩ : ByteArray).size := by rw [ByteArray.size_append]; rfl
            have HR3 : Hid (∀ W, EnvP W → Calls Tryz.prog 16 #[.string ⟨(PR.mT k).toArray⟩] W (PReadPost W (parseW (PR.mT k)))) := fun W hW => HRD.out _ (by omega) W hW
            have HIDX := Lib.hid (fun i (h : i < (PR.mT k).length) W => str_at (PR.mT k) i h W)
            have hts : (⟨(PR.mT k).toArray⟩ : ByteArray).size = (PR.mT k).length := str_size _
            have hmx := HMX.out
            unfold PR.mOk at hmx
            generalize parseW (PR.mT k) = P3 at *
            obtain ⟨po3, e3, a3⟩ := P3
            have hmx : ((e3 == 0) == (decide ((PR.rN k).size ≤ 300) && decide (deepW (PR.mT k) ≤ 50)) && (e3 == 0 || (e3 == 3 && a3 == 0))) = true := hmx
            have HMY := Lib.hid hmx
            clear hmx HMX
            have hso : RE.sizeO (some (PR.rN k)) = (PR.rN k).size := rfl
            obtain ⟨R, hR⟩ : ∃ R, deepW (PR.mT k) = R := ⟨_, rfl⟩
            have HR0 : Hid (PS.deepS ((PR.mT k).drop 0) 0 0 = R) := hR
            rw [hR] at HMY
            clear hR
            generalize PR.mT k = t at *
            generalize (⟨(RE.ofW (PR.rN k)).toArray⟩ : ByteArray) = O at *
            generalize (⟨t.toArray⟩ : ByteArray) = T at *
            go_wp2_with fail
            rw [HTT.out]
            go_loopw [14, 15, 16] (fun d m i W => DpLoop t R wt d m i W) (fun _ _ i _ => t.length + 1 - (intOf i).toNat)
            case atStart => exact ⟨0, 0, 0, by omega, by omega, by omega, by omega, by omega, rfl, rfl, rfl, HR0.out, rfl⟩
            case round =>
              clear HR0 HTT
              obtain ⟨j, nn, x, hj, h1, h2, h3, h4, rfl, rfl, rfl, hgo, rfl⟩ := hrel
              by_cases hlt : j < t.length
              · have hidx := HIDX.out j hlt
                have hlt' : (j : Int) < (t.length : Nat) := by omega
                have hd : t.drop j = t.getD j 0 :: t.drop (j + 1) := by
                  rw [List.drop_eq_getElem_cons hlt]; congr 1; simp [List.getD, hlt]
                rw [hd] at hgo
                have e92 : ((((t.getD j 0).toNat : Nat) : Int) == 92) = decide (t.getD j 0 = 92) := byteIs (t.getD j 0) 92 (by omega)
                have e40 : ((((t.getD j 0).toNat : Nat) : Int) == 40) = decide (t.getD j 0 = 40) := byteIs (t.getD j 0) 40 (by omega)
                have e41 : ((((t.getD j 0).toNat : Nat) : Int) == 41) = decide (t.getD j 0 = 41) := byteIs (t.getD j 0) 41 (by omega)
                clear hd
                generalize t.getD j 0 = c at *
                by_cases g92 : c = 92
                · have HG : Hid (PS.deepS (t.drop (j + 1 + 1)) nn x = R) := by
                    show _ = _
                    rw [← hgo.out, g92, pr_deepS_esc, List.drop_drop]
                  rw [decide_eq_true g92] at e92
                  clear hgo e40 e41 g92
                  go_wp2_with fail
                  go_roundw
                  case rel => exact ⟨j + 1 + 1, nn, x, by omega, by omega, by omega, by omega, by omega, by go_num, rfl, rfl, HG.out, rfl⟩
                  case measure => simp [intOf]; omega
                · rw [decide_eq_false g92] at e92
                  by_cases g40 : c = 40
                  · have HG : Hid (PS.deepS (t.drop (j + 1)) (nn + 1) (max x (nn + 1)) = R) := by
                      show _ = _
                      rw [← hgo.out, PS.deepS_cons _ _ _ _ g92, if_pos g40]
                    rw [decide_eq_true g40] at e40
                    clear hgo e41 g92 g40
                    go_wp2_with fail
                    go_roundw
                    case rel => exact ⟨j + 1, nn + 1, max x (nn + 1), by omega, by omega, by omega, by omega, by omega, by go_num, rfl, rfl, HG.out, rfl⟩
                    case measure => simp [intOf]; omega
                  · rw [decide_eq_false g40] at e40
                    by_cases g41 : c = 41
                    · have HG : Hid (PS.deepS (t.drop (j + 1)) (nn - 1) x = R) := by
                        show _ = _
                        rw [← hgo.out, PS.deepS_cons _ _ _ _ g92, if_neg g40, if_pos g41]
                      rw [decide_eq_true g41] at e41
                      clear hgo g92 g40 g41
                      go_wp2_with fail
                      go_roundw
                      case rel => exact ⟨j + 1, nn - 1, x, by omega, by omega, by omega, by omega, by omega, by go_num, rfl, rfl, HG.out, rfl⟩
                      case measure => simp [intOf]; omega
                    · have HG : Hid (PS.deepS (t.drop (j + 1)) nn x = R) := by
                        show _ = _
                        rw [← hgo.out, PS.deepS_cons _ _ _ _ g92, if_neg g40, if_neg g41]
                      rw [decide_eq_false g41] at e41
                      clear hgo g92 g40 g41
                      go_wp2_with fail
                      go_roundw
                      case rel => exact ⟨j + 1, nn, x, by omega, by omega, by omega, by omega, by omega, by go_num, rfl, rfl, HG.out, rfl⟩
                      case measure => simp [intOf]; omega
              · have hlt' : ¬ (j : Int) < (t.length : Nat) := by omega
                have hxR : x = R := by
                  rw [← hgo.out, List.drop_eq_nil_of_le (by omega)]; rfl
                clear hgo HIDX
                have hmy := HMY.out
                rw [← hxR] at hmy
                clear HMY hxR
                by_cases he3 : e3 = 0
                · subst he3
                  have hmy : (decide ((PR.rN k).size ≤ 300) && decide (x ≤ 50)) = true := by simpa using hmy
                  simp only [Bool.and_eq_true, decide_eq_true_eq] at hmy
                  obtain ⟨m1, m2⟩ := hmy
                  have m1' : ((PR.rN k).size : Int) ≤ 300 := by omega
                  have m1g : ¬ (300 : Int) < ((PR.rN k).size : Int) := by omega
                  have m2g : ¬ (50 : Int) < x := by omega
                  have hdx : decide (x ≤ 50) = true := decide_eq_true m2
                  have HR3X := HR3.out
                  clear HR3
                  go_wp2_with fail
                  refine (HR3X _ (HE.out.later HBT.out)).mono ?_
                  rintro e wu ⟨v3, rfl, hb3, _⟩
                  have HB9 := Lib.hid (ext_step HBT.out hb3)
                  have HRE9 := Lib.hid (HRE.out.later (Nat.le_refl _) hb3)
                  clear hb3 HR3X
                  go_wp2_with fail
                  refine (Size_any (ptr b) (some (PR.rN k)) _ ⟨b, rfl, HRE9.out⟩).mono ?_
                  rintro e wv ⟨rfl, rfl⟩
                  rw [hso]
                  go_wp2_with fail
                  first
                    | done
                    | (go_ret; done)
                    | (go_ret; exact ⟨rfl, HB9.out⟩)
                    | (go_ret; exact ⟨by show Ending.returned (Value.bool (!decide (x ≤ 50))) = _; rw [HDX.out]; rfl, HB9.out⟩)
                · have hmy : ¬ ((PR.rN k).size ≤ 300 ∧ x ≤ 50) ∧ e3 = 3 ∧ a3 = 0 := by
                    have h0 : (e3 == 0) = false := by simpa using he3
                    rw [h0] at hmy
                    simp only [Bool.false_or, Bool.and_eq_true, beq_iff_eq] at hmy
                    refine ⟨fun h => ?_, hmy.2⟩
                    have h2 := hmy.1
                    rw [decide_eq_true h.1, decide_eq_true h.2] at h2
                    simp at h2
                  obtain ⟨m0, rfl, rfl⟩ := hmy
                  by_cases m1 : (PR.rN k).size ≤ 300
                  · have m1' : ((PR.rN k).size : Int) ≤ 300 := by omega
                    have m2 : ¬ x ≤ 50 := fun h => m0 ⟨m1, h⟩
                    have HDX := Lib.hid (show decide (x ≤ 50) = false from decide_eq_false m2)
                    have HR3X := HR3.out
                    clear HR3
                    go_wp2_with fail
                    refine (HR3X _ (HE.out.later HBT.out)).mono ?_
                    rintro e wu ⟨v3, rfl, hb3, _⟩
                    have HB9 := Lib.hid (ext_step HBT.out hb3)
                    have HRE9 := Lib.hid (HRE.out.later (Nat.le_refl _) hb3)
                    clear hb3 HR3X
                    go_wp2_with fail
                    refine (Size_any (ptr b) (some (PR.rN k)) _ ⟨b, rfl, HRE9.out⟩).mono ?_
                    rintro e wv ⟨rfl, rfl⟩
                    rw [hso]
                    go_wp2_with fail
                    first
                      | done
                      | (go_ret; done)
                      | (go_ret; exact ⟨rfl, HB9.out⟩)
                      | (go_ret; exact ⟨by show Ending.returned (Value.bool (!decide (x ≤ 50))) = _; rw [HDX.out]; rfl, HB9.out⟩)
                  · have m1' : ¬ ((PR.rN k).size : Int) ≤ 300 := by omega
                    have HR3X := HR3.out
                    clear HR3
                    go_wp2_with fail
                    refine (HR3X _ (HE.out.later HBT.out)).mono ?_
                    rintro e wu ⟨v3, rfl, hb3, _⟩
                    have HB9 := Lib.hid (ext_step HBT.out hb3)
                    have HRE9 := Lib.hid (HRE.out.later (Nat.le_refl _) hb3)
                    clear hb3 HR3X
                    go_wp2_with fail
                    refine (Size_any (ptr b) (some (PR.rN k)) _ ⟨b, rfl, HRE9.out⟩).mono ?_
                    rintro e wv ⟨rfl, rfl⟩
                    rw [hso]
                    go_wp2_with fail
                    first
                      | done
                      | (go_ret; done)
                      | (go_ret; exact ⟨rfl, HB9.out⟩)
                      | (go_ret; exact ⟨by show Ending.returned (Value.bool (!decide (x ≤ 50))) = _; rw [HDX.out]; rfl, HB9.out⟩)
      · rw [if_neg h299] at hex
        simp only [Bool.and_eq_true, beq_iff_eq] at hex
        obtain ⟨rfl, rfl⟩ := hex
        have h299' : ¬ (j : Int) ≤ 299 := by omega
        have h299g : (299 : Int) < (j : Int) := by omega
        go_wp2_with fail
        refine HR1.out.mono ?_
        rintro e ws ⟨v1, rfl, hb1, _⟩
        have HBS := Lib.hid (ext_step HB1.out hb1)
        clear hb1 HR1 hz1 hsz
        go_wp2_with fail
        refine (One_any 2#64 0#64 0#64 0#64 _).mono ?_
        rintro e wo ⟨b0, rfl, hr0, hb0⟩
        have HO := Lib.hid (show IsRe wo b0 (PR.rN 0) from hr0.is)
        have HBO := Lib.hid (ext_step HBS.out hb0)
        clear hr0 hb0
        go_wp2_with fail
        rw [HMi.out]
        go_loopw [11, 12] (fun r i wr => RsLoop M w r i wr) (fun _ i _ => M - (intOf i).toNat)
        case atStart => exact ⟨0, b0, by omega, rfl, rfl, HO.out, HBO.out⟩
        case round =>
          obtain ⟨k, b, hk, rfl, rfl, hre, hbl⟩ := hrel
          have hs4 := PR.rN_size k
          by_cases hlk : k < M
          · have hkM : (k : Int) < (M : Nat) := by omega
            have HF : Hid (RE.sizes (RE.flat 3 [some (RE.many (some (PR.rN k))), some (RE.one ⟨4#64, 0#64, 0#64, 0#64⟩)]) ≤ 1099511627775) := by
              show RE.sizes _ ≤ _
              have h1 := RE.sizes_flat 3 [some (RE.many (some (PR.rN k))), some (RE.one ⟨4#64, 0#64, 0#64, 0#64⟩)]
              have h3 := RE.size_many (some (PR.rN k))
              have h4 := RE.one_size' ⟨4#64, 0#64, 0#64, 0#64⟩
              simp only [RE.sizeOs, List.map_cons, List.map_nil, List.sum_cons, List.sum_nil, RE.sizeO] at h1 h3
              omega
            go_wp2_with fail
            refine (Many_any (ptr b) (some (PR.rN k)) _ ⟨b, rfl, hre.out⟩ (by show (PR.rN k).size ≤ _; omega)).mono ?_
            rintro e wa ⟨ba, rfl, hra, hba⟩
            have HRA := Lib.hid hra
            have HBA := Lib.hid (ext_step hbl.out hba)
            clear hra hba
            go_wp2_with fail
            refine (One_any 4#64 0#64 0#64 0#64 _).mono ?_
            rintro e wc ⟨bc, rfl, hrc, hbc⟩
            have HRA2 := Lib.hid (HRA.out.later (Nat.le_refl _) hbc)
            have HRC := Lib.hid hrc.is
            have HBC := Lib.hid (ext_step HBA.out hbc)
            clear hrc hbc
            go_wp2_with fail
            refine (Then_any (some ⟨wc.heap.size, 0, none⟩) 2 [some (RE.many (some (PR.rN k))), some (RE.one ⟨4#64, 0#64, 0#64, 0#64⟩)] _ (pr_two HRA2.out HRC.out) (PR.nf_two (RE.nf_many fun r hr => by cases hr; exact PR.rN_nf k) (RE.nf_one _)) HF.out (by simp)).mono ?_
            rintro e wd ⟨bd, rfl, hrd, hbd⟩
            have HRDD := Lib.hid (show IsRe wd bd (PR.rN (k + 1)) from hrd)
            have HBD := Lib.hid (ext_step HBC.out ((re_alloc wc _).trans (hbd.mono (by simp))))
            clear hrd hbd
            go_wp2_with fail
            go_roundw
            case rel => exact ⟨k + 1, bd, by omega, by go_num, rfl, HRDD.out, HBD.out⟩
            case measure => simp [intOf]; omega
          · obtain rfl : k = M := by omega
            have hkM : ¬ (k : Int) < (k : Nat) := by omega
            go_wp2_with fail
            refine (txOf_any (PR.rN k).size (PR.rN k) (Nat.le_refl _) (PR.rN_nf k) (by omega) _ b (HE.out.tab.later hbl.out) hre.out).mono ?_
            rintro e wt ⟨rfl, hbt⟩
            have HBT := Lib.hid (ext_step hbl.out hbt)
            have HRE := Lib.hid (hre.out.later (Nat.le_refl _) hbt)
            clear hbt hre hbl
            have hml := PR.mT_len k (by omega)
            have HTT : Hid ((⟨#[47]⟩ : ByteArray) ++ ⟨(RE.ofW (PR.rN k)).toArray⟩ ++ ⟨#[47]⟩ = ⟨(PR.mT k).toArray⟩) := ByteArray.ext (by simp [PR.mT])
            have hol : (⟨(RE.ofW (PR.rN k)).toArray⟩ : ByteArray).size ≤ 1000 := by rw [str_size]; simp [PR.mT] at hml; omega
            have hol1 : ((⟨#[47]⟩ : ByteArray) ++ ⟨(RE.ofW (PR.rN k)).toArray⟩).size = 1 + (⟨(RE.ofW (PR.rN k)).toArray⟩ : ByteArray).size := by rw [ByteArray.size_append]; rfl
            have HR3 : Hid (∀ W, EnvP W → Calls Tryz.prog 16 #[.string ⟨(PR.mT k).toArray⟩] W (PReadPost W (parseW (PR.mT k)))) := fun W hW => HRD.out _ (by omega) W hW
            have HIDX := Lib.hid (fun i (h : i < (PR.mT k).length) W => str_at (PR.mT k) i h W)
            have hts : (⟨(PR.mT k).toArray⟩ : ByteArray).size = (PR.mT k).length := str_size _
            have hmx := HMX.out
            unfold PR.mOk at hmx
            generalize parseW (PR.mT k) = P3 at *
            obtain ⟨po3, e3, a3⟩ := P3
            have hmx : ((e3 == 0) == (decide ((PR.rN k).size ≤ 300) && decide (deepW (PR.mT k) ≤ 50)) && (e3 == 0 || (e3 == 3 && a3 == 0))) = true := hmx
            have HMY := Lib.hid hmx
            clear hmx HMX
            have hso : RE.sizeO (some (PR.rN k)) = (PR.rN k).size := rfl
            obtain ⟨R, hR⟩ : ∃ R, deepW (PR.mT k) = R := ⟨_, rfl⟩
            have HR0 : Hid (PS.deepS ((PR.mT k).drop 0) 0 0 = R) := hR
            rw [hR] at HMY
            clear hR
            generalize PR.mT k = t at *
            generalize (⟨(RE.ofW (PR.rN k)).toArray⟩ : ByteArray) = O at *
            generalize (⟨t.toArray⟩ : ByteArray) = T at *
            go_wp2_with fail
            rw [HTT.out]
            go_loopw [14, 15, 16] (fun d m i W => DpLoop t R wt d m i W) (fun _ _ i _ => t.length + 1 - (intOf i).toNat)
            case atStart => exact ⟨0, 0, 0, by omega, by omega, by omega, by omega, by omega, rfl, rfl, rfl, HR0.out, rfl⟩
            case round =>
              clear HR0 HTT
              obtain ⟨j, nn, x, hj, h1, h2, h3, h4, rfl, rfl, rfl, hgo, rfl⟩ := hrel
              by_cases hlt : j < t.length
              · have hidx := HIDX.out j hlt
                have hlt' : (j : Int) < (t.length : Nat) := by omega
                have hd : t.drop j = t.getD j 0 :: t.drop (j + 1) := by
                  rw [List.drop_eq_getElem_cons hlt]; congr 1; simp [List.getD, hlt]
                rw [hd] at hgo
                have e92 : ((((t.getD j 0).toNat : Nat) : Int) == 92) = decide (t.getD j 0 = 92) := byteIs (t.getD j 0) 92 (by omega)
                have e40 : ((((t.getD j 0).toNat : Nat) : Int) == 40) = decide (t.getD j 0 = 40) := byteIs (t.getD j 0) 40 (by omega)
                have e41 : ((((t.getD j 0).toNat : Nat) : Int) == 41) = decide (t.getD j 0 = 41) := byteIs (t.getD j 0) 41 (by omega)
                clear hd
                generalize t.getD j 0 = c at *
                by_cases g92 : c = 92
                · have HG : Hid (PS.deepS (t.drop (j + 1 + 1)) nn x = R) := by
                    show _ = _
                    rw [← hgo.out, g92, pr_deepS_esc, List.drop_drop]
                  rw [decide_eq_true g92] at e92
                  clear hgo e40 e41 g92
                  go_wp2_with fail
                  go_roundw
                  case rel => exact ⟨j + 1 + 1, nn, x, by omega, by omega, by omega, by omega, by omega, by go_num, rfl, rfl, HG.out, rfl⟩
                  case measure => simp [intOf]; omega
                · rw [decide_eq_false g92] at e92
                  by_cases g40 : c = 40
                  · have HG : Hid (PS.deepS (t.drop (j + 1)) (nn + 1) (max x (nn + 1)) = R) := by
                      show _ = _
                      rw [← hgo.out, PS.deepS_cons _ _ _ _ g92, if_pos g40]
                    rw [decide_eq_true g40] at e40
                    clear hgo e41 g92 g40
                    go_wp2_with fail
                    go_roundw
                    case rel => exact ⟨j + 1, nn + 1, max x (nn + 1), by omega, by omega, by omega, by omega, by omega, by go_num, rfl, rfl, HG.out, rfl⟩
                    case measure => simp [intOf]; omega
                  · rw [decide_eq_false g40] at e40
                    by_cases g41 : c = 41
                    · have HG : Hid (PS.deepS (t.drop (j + 1)) (nn - 1) x = R) := by
                        show _ = _
                        rw [← hgo.out, PS.deepS_cons _ _ _ _ g92, if_neg g40, if_pos g41]
                      rw [decide_eq_true g41] at e41
                      clear hgo g92 g40 g41
                      go_wp2_with fail
                      go_roundw
                      case rel => exact ⟨j + 1, nn - 1, x, by omega, by omega, by omega, by omega, by omega, by go_num, rfl, rfl, HG.out, rfl⟩
                      case measure => simp [intOf]; omega
                    · have HG : Hid (PS.deepS (t.drop (j + 1)) nn x = R) := by
                        show _ = _
                        rw [← hgo.out, PS.deepS_cons _ _ _ _ g92, if_neg g40, if_neg g41]
                      rw [decide_eq_false g41] at e41
                      clear hgo g92 g40 g41
                      go_wp2_with fail
                      go_roundw
                      case rel => exact ⟨j + 1, nn, x, by omega, by omega, by omega, by omega, by omega, by go_num, rfl, rfl, HG.out, rfl⟩
                      case measure => simp [intOf]; omega
              · have hlt' : ¬ (j : Int) < (t.length : Nat) := by omega
                have hxR : x = R := by
                  rw [← hgo.out, List.drop_eq_nil_of_le (by omega)]; rfl
                clear hgo HIDX
                have hmy := HMY.out
                rw [← hxR] at hmy
                clear HMY hxR
                by_cases he3 : e3 = 0
                · subst he3
                  have hmy : (decide ((PR.rN k).size ≤ 300) && decide (x ≤ 50)) = true := by simpa using hmy
                  simp only [Bool.and_eq_true, decide_eq_true_eq] at hmy
                  obtain ⟨m1, m2⟩ := hmy
                  have m1' : ((PR.rN k).size : Int) ≤ 300 := by omega
                  have m1g : ¬ (300 : Int) < ((PR.rN k).size : Int) := by omega
                  have m2g : ¬ (50 : Int) < x := by omega
                  have hdx : decide (x ≤ 50) = true := decide_eq_true m2
                  have HR3X := HR3.out
                  clear HR3
                  go_wp2_with fail
                  refine (HR3X _ (HE.out.later HBT.out)).mono ?_
                  rintro e wu ⟨v3, rfl, hb3, _⟩
                  have HB9 := Lib.hid (ext_step HBT.out hb3)
                  have HRE9 := Lib.hid (HRE.out.later (Nat.le_refl _) hb3)
                  clear hb3 HR3X
                  go_wp2_with fail
                  refine (Size_any (ptr b) (some (PR.rN k)) _ ⟨b, rfl, HRE9.out⟩).mono ?_
                  rintro e wv ⟨rfl, rfl⟩
                  rw [hso]
                  go_wp2_with fail
                  first
                    | done
                    | (go_ret; done)
                    | (go_ret; exact ⟨rfl, HB9.out⟩)
                    | (go_ret; exact ⟨by show Ending.returned (Value.bool (!decide (x ≤ 50))) = _; rw [HDX.out]; rfl, HB9.out⟩)
                · have hmy : ¬ ((PR.rN k).size ≤ 300 ∧ x ≤ 50) ∧ e3 = 3 ∧ a3 = 0 := by
                    have h0 : (e3 == 0) = false := by simpa using he3
                    rw [h0] at hmy
                    simp only [Bool.false_or, Bool.and_eq_true, beq_iff_eq] at hmy
                    refine ⟨fun h => ?_, hmy.2⟩
                    have h2 := hmy.1
                    rw [decide_eq_true h.1, decide_eq_true h.2] at h2
                    simp at h2
                  obtain ⟨m0, rfl, rfl⟩ := hmy
                  by_cases m1 : (PR.rN k).size ≤ 300
                  · have m1' : ((PR.rN k).size : Int) ≤ 300 := by omega
                    have m2 : ¬ x ≤ 50 := fun h => m0 ⟨m1, h⟩
                    have HDX := Lib.hid (show decide (x ≤ 50) = false from decide_eq_false m2)
                    have HR3X := HR3.out
                    clear HR3
                    go_wp2_with fail
                    refine (HR3X _ (HE.out.later HBT.out)).mono ?_
                    rintro e wu ⟨v3, rfl, hb3, _⟩
                    have HB9 := Lib.hid (ext_step HBT.out hb3)
                    have HRE9 := Lib.hid (HRE.out.later (Nat.le_refl _) hb3)
                    clear hb3 HR3X
                    go_wp2_with fail
                    refine (Size_any (ptr b) (some (PR.rN k)) _ ⟨b, rfl, HRE9.out⟩).mono ?_
                    rintro e wv ⟨rfl, rfl⟩
                    rw [hso]
                    go_wp2_with fail
                    first
                      | done
                      | (go_ret; done)
                      | (go_ret; exact ⟨rfl, HB9.out⟩)
                      | (go_ret; exact ⟨by show Ending.returned (Value.bool (!decide (x ≤ 50))) = _; rw [HDX.out]; rfl, HB9.out⟩)
                  · have m1' : ¬ ((PR.rN k).size : Int) ≤ 300 := by omega
                    have HR3X := HR3.out
                    clear HR3
                    go_wp2_with fail
                    refine (HR3X _ (HE.out.later HBT.out)).mono ?_
                    rintro e wu ⟨v3, rfl, hb3, _⟩
                    have HB9 := Lib.hid (ext_step HBT.out hb3)
                    have HRE9 := Lib.hid (HRE.out.later (Nat.le_refl _) hb3)
                    clear hb3 HR3X
                    go_wp2_with fail
                    refine (Size_any (ptr b) (some (PR.rN k)) _ ⟨b, rfl, HRE9.out⟩).mono ?_
                    rintro e wv ⟨rfl, rfl⟩
                    rw [hso]
                    go_wp2_with fail
                    first
                      | done
                      | (go_ret; done)
                      | (go_ret; exact ⟨rfl, HB9.out⟩)
                      | (go_ret; exact ⟨by show Ending.returned (Value.bool (!decide (x ≤ 50))) = _; rw [HDX.out]; rfl, HB9.out⟩)
end Go.Proofs.YtgamknphlmcgnaaGreatDoor
end
section
set_option linter.unusedSimpArgs false
set_option linter.unusedVariables false
set_option maxRecDepth 100000
set_option linter.unnecessarySimpa false
namespace Go.Proofs.YtgamknphlmcgnaaGreatDoor
open Go.ChangeShapes Go.WideShapes Go.ChangeAt Go.WideMaps Go.WideElems Go.RowKit
abbrev allLaid : List (String × DataW Unit) := [("math/bits.deBruijn32tab", Rows.laid_math_bits_deBruijn32tab), ("math/bits.deBruijn64tab", Rows.laid_math_bits_deBruijn64tab), ("internal/strconv.uint64pow10", Rows.laid_internal_strconv_uint64pow10), ("periscope/lens.words", Rows.laid_periscope_lens_words)]
theorem gTab : Tryz.prog.globalNamed "math/bits.deBruijn64tab" = some (Tryz.lays29_ren.g 1) := by kernel_rfl
theorem door_met (os : Os) (args : Array Value) : laidMetH Tryz.prog allLaid ((World.doorLaid Tryz.prog 400 os).forCall (fun _ _ => 0) ⟨#[], args, []⟩).memory :=
  laidMetH_of_parts3 (fuel := 8) (laidMet_of_run' 8 (by kernel_rfl) (by kernel_rfl)) (by kernel_rfl) (by kernel_rfl)
theorem tTab : (Tryz.prog.globals[Tryz.lays29_ren.g 1]?).map (·.type) = some 216 := by kernel_rfl
theorem cTab : Tryz.prog.cellsOf 5 = 1 := by kernel_rfl
theorem lTab : (Rows.laid_math_bits_deBruijn64tab : DataW Unit) = .agg (Lib.deBruijn64tab.map fun (n : Nat) => .lit (.int .u8 (n : Int))) := by kernel_rfl
theorem gWo : Tryz.prog.globalNamed "periscope/lens.words" = some 0 := by kernel_rfl
theorem tWo : (Tryz.prog.globals[0]?).map (·.type) = some 182 := by kernel_rfl
theorem cWo : Tryz.prog.cellsOf 9 = 1 := by kernel_rfl
theorem lWo : (Rows.laid_periscope_lens_words : DataW Unit) = .agg (opWords.map fun l => .lit (.string l)) := by kernel_rfl
theorem of_laid {W : World} (h : laidMetH Tryz.prog allLaid W) : Tab W ∧ WordsAt W := by
  rw [MakeChecks.laidMetH_plain _ _ _ (by kernel_rfl)] at h
  obtain ⟨ps, ⟨g0, t0, cs0, f0, p0, q0, hg0, ht0, hv0, hd0, ⟨g1, t1, cs1, f1, p1, q1, hg1, ht1, hv1, hd1, ⟨g2, t2, cs2, f2, p2, q2, hg2, ht2, hv2, hd2, ⟨g3, t3, cs3, f3, p3, q3, hg3, ht3, hv3, hd3, _⟩, _⟩, _⟩, _⟩, h2, h3⟩ := h
  clear h2 h3 hg0 ht0 hv0 hd0 hg2 ht2 hv2 hd2
  constructor
  · obtain rfl := Option.some.inj (gTab.symm.trans hg1)
    obtain rfl := Option.some.inj (tTab.symm.trans ht1)
    rw [lTab] at hd1
    obtain ⟨xs, m, rfl, hx, hlen, hn, hel⟩ := DataW.trod_array Tryz.underlying216 hd1
    simp only [Prod.mk.injEq, DataW.agg.injEq] at hx
    intro j hj
    have hj64 : j < 64 := hj
    have h0 := hel j hj64
    rw [cTab, Nat.mul_one, List.getElem?_eq_getElem (by omega)] at h0
    obtain ⟨n, e1, e2, _⟩ := DataW.trod_int Tryz.underlying5 h0
    have hm := congrArg (fun l => l[j]?) hx.1
    simp only [List.getElem?_map] at hm
    rw [List.getElem?_eq_getElem (show j < xs.length by omega), List.getElem?_eq_getElem hj] at hm
    simp only [Option.map_some, Option.some.injEq] at hm
    rw [e2] at hm
    simp only [DataW.lit.injEq, Lit.int.injEq, true_and] at hm
    rw [World.var?_cell hg1 hv1 j]
    have e3 := congrArg (fun l => l[0]?) e1
    simp only [List.getElem?_take, List.getElem?_drop] at e3
    simp at e3
    rw [e3, ← hm, List.getD_eq_getElem?_getD, List.getElem?_eq_getElem hj]
    rfl
  · obtain rfl := Option.some.inj (gWo.symm.trans hg3)
    obtain rfl := Option.some.inj (tWo.symm.trans ht3)
    rw [lWo] at hd3
    obtain ⟨xs, m, rfl, hx, hlen, hn, hel⟩ := DataW.trod_array Tryz.underlying182 hd3
    simp only [Prod.mk.injEq, DataW.agg.injEq] at hx
    intro j hj
    have h0 := hel j hj
    rw [cWo, Nat.mul_one, List.getElem?_eq_getElem (by omega)] at h0
    obtain ⟨n, e1, e2, _⟩ := DataW.trod_string Tryz.underlying9 h0
    have hjo : j < opWords.length := hj
    have hm := congrArg (fun l => l[j]?) hx.1
    simp only [List.getElem?_map] at hm
    rw [List.getElem?_eq_getElem (show j < xs.length by omega), List.getElem?_eq_getElem hjo] at hm
    simp only [Option.map_some, Option.some.injEq] at hm
    rw [e2] at hm
    simp only [DataW.lit.injEq, Lit.string.injEq] at hm
    rw [World.var?_cell hg3 hv3 j]
    have e3 := congrArg (fun l => l[0]?) e1
    simp only [List.getElem?_take, List.getElem?_drop] at e3
    simp at e3
    rw [e3, List.getD_eq_getElem?_getD, List.getElem?_eq_getElem hjo, Option.getD_some, hm]
end Go.Proofs.YtgamknphlmcgnaaGreatDoor
end
