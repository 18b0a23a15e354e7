/-
  TextAgain, walked through the program.
-/
import Derived.Test.YtpajpjocakhcdaaGreatDoorTaM
set_option linter.unusedSimpArgs false
set_option linter.unusedVariables false
set_option maxRecDepth 100000
set_option linter.unnecessarySimpa false
namespace Go.Proofs.YtpajpjocakhcdaaGreatDoor
open Go.RowKit
set_option maxRecDepth 100000 in
set_option maxHeartbeats 8000000 in
theorem TextAgain_any (p : SH) (sv : Value) (w : World) (hT : Tab w) (hp : IsSh w sv p.kids) : Calls Tryz.prog 11 #[shV p sv] w fun e w' => e = .returned (.bool true) ∧ Below w.heap.size w w' := by
  have hB0 := re_alloc w (shBox p sv)
  have HB0 := Lib.hid hB0
  have HT0 := Lib.hid (hT.later hB0)
  have HP0 := Lib.hid (hp.later hB0)
  have HH := Lib.hid (txHead_any _ HT0.out)
  have HBX := Lib.hid (heap_alloc_last w (shBox p sv))
  have HFEW := Lib.hid (fun W (h : IsSh W sv p.kids) => ShFew_any p sv W h)
  have HMK := Lib.hid (fun (hf : p.fit) (hz : p.sz ≤ 1000) W (h : IsSh W sv p.kids) => ShMake_any p sv W h hf hz)
  have HOF := Lib.hid (SH.of_cnt p 0)
  have HAG := Lib.hid (shape_again p)
  have HNF := Lib.hid (SH.nf_mk p.sz p (Nat.le_refl _))
  have HFW := Lib.hid (RE.few_mk p.sz p (Nat.le_refl _))
  have HWT := Lib.hid (RE.ofW_wt p.mk)
  obtain ⟨a2, cap2, _, _, _, rfl, _⟩ := hp.open
  clear hB0 hp hT
  go_enter Tryz.func11, Tryz.ntmps11
  go_wp2_with fail
  refine HH.out.mono ?_
  rintro e w1 ⟨rfl, hb⟩
  have hbx := (hb.block _ (by simp)).trans HBX.out
  have HBX1 := Lib.hid hbx
  have HB1 := Lib.hid (HB0.out.trans (hb.mono HB0.out.size))
  have HP1 := Lib.hid (HP0.out.later hb)
  have HT1 := Lib.hid (HT0.out.later hb)
  have q0 : w1.cell? ⟨w.heap.size, 0, none⟩ = some (.int .i64 p.op) := by rw [cell_of_row _ _ _ _ _ _ hbx]; rfl
  have q1 : w1.cell? ⟨w.heap.size, 1, none⟩ = some (.int .u8 p.lo) := by rw [cell_of_row _ _ _ _ _ _ hbx]; rfl
  have q2 : w1.cell? ⟨w.heap.size, 2, none⟩ = some (.int .u8 p.hi) := by rw [cell_of_row _ _ _ _ _ _ hbx]; rfl
  have q3 : w1.cell? ⟨w.heap.size, 3, none⟩ = some (.string p.tx) := by rw [cell_of_row _ _ _ _ _ _ hbx]; rfl
  have q4 : w1.cell? ⟨w.heap.size, 4, none⟩ = some (.slice a2 p.kids.length cap2) := by rw [cell_of_row _ _ _ _ _ _ hbx]; rfl
  clear hb HH hbx
  by_cases hfew : SH.cnt 0 p ≤ 30
  · have hd : decide (SH.cnt 0 p ≤ 30) = true := decide_eq_true hfew
    obtain ⟨g1, g2⟩ := HOF.out (by omega)
    obtain ⟨k1, k2, k3⟩ := HFW.out g2
    have hz : p.sz ≤ 1000 := by omega
    have hwt := HWT.out
    have hln : (RE.ofW p.mk).length ≤ 1099511627776 := by omega
    have hsz1 : p.mk.size ≤ 1000000 := by omega
    have HMK2 := Lib.hid (HMK.out g2 hz)
    have HAG2 := Lib.hid (HAG.out hfew)
    have HRD := Lib.hid (fun W => Read_any (RE.ofW p.mk) hln W)
    have HO := Lib.hid (fun W v (hT : Tab W) (h : IsReO W v (some p.mk)) => Of_text v (some p.mk) W hT h (fun r hr => by cases hr; exact HNF.out) (by simp only [RE.sizeO]; omega))
    have hof : RE.ofO (some p.mk) = RE.ofW p.mk := rfl
    rw [hof] at HO
    have HSZ := Lib.hid (fun W v (h : IsReO W v (some p.mk)) => Size_any v (some p.mk) W h)
    have hso : RE.sizeO (some p.mk) = p.mk.size := rfl
    rw [hso] at HSZ
    have hsm : sameB (some p.mk) (some p.mk) = true := decide_eq_true rfl
    have HSM := Lib.hid (fun W v v' (h : IsReO W v (some p.mk)) (h' : IsReO W v' (some p.mk)) => Same_any v v' _ _ W h h')
    rw [hsm] at HSM
    rw [hd] at HFEW
    clear g1 g2 k1 k2 k3 hz hwt hln hfew hof hso hsm hsz1 HMK HAG HOF HFW HWT HNF hd
    go_wp2_with fail
    refine (HFEW.out _ HP1.out).mono ?_
    rintro e w2 ⟨rfl, hb⟩
    have hbx := (hb.block _ (Array.getElem?_eq_some_iff.1 HBX1.out).1).trans HBX1.out
    have HB2 := Lib.hid (HB1.out.trans (hb.mono HB1.out.size))
    have HP2 := Lib.hid (HP1.out.later hb)
    have HT2 := Lib.hid (HT1.out.later hb)
    clear q0 q1 q2 q3 q4
    have q0 : w2.cell? ⟨w.heap.size, 0, none⟩ = some (.int .i64 p.op) := by rw [cell_of_row _ _ _ _ _ _ hbx]; rfl
    have q1 : w2.cell? ⟨w.heap.size, 1, none⟩ = some (.int .u8 p.lo) := by rw [cell_of_row _ _ _ _ _ _ hbx]; rfl
    have q2 : w2.cell? ⟨w.heap.size, 2, none⟩ = some (.int .u8 p.hi) := by rw [cell_of_row _ _ _ _ _ _ hbx]; rfl
    have q3 : w2.cell? ⟨w.heap.size, 3, none⟩ = some (.string p.tx) := by rw [cell_of_row _ _ _ _ _ _ hbx]; rfl
    have q4 : w2.cell? ⟨w.heap.size, 4, none⟩ = some (.slice a2 p.kids.length cap2) := by rw [cell_of_row _ _ _ _ _ _ hbx]; rfl
    clear hb hbx
    go_wp2_with fail
    refine (HMK2.out _ HP2.out).mono ?_
    rintro e w3 ⟨b, rfl, hre, hb⟩
    have HB3 := Lib.hid (HB2.out.trans (hb.mono HB2.out.size))
    have HT3 := Lib.hid (HT2.out.later hb)
    have HR3 : Hid (IsReO w3 (ptr b) (some p.mk)) := ⟨b, rfl, hre⟩
    clear hre hb q0 q1 q2 q3 q4
    go_wp2_with fail
    refine (HSZ.out _ _ HR3.out).mono ?_
    rintro e w3' ⟨rfl, rfl⟩
    by_cases hs : 300 < p.mk.size
    · have hs' : (300 : Int) < (p.mk.size : Int) := by omega
      go_wp2_with fail
      go_ret
      exact ⟨rfl, HB3.out⟩
    · have hs' : ¬ (300 : Int) < (p.mk.size : Int) := by omega
      have HAG3 := Lib.hid (HAG2.out (by omega))
      rw [HAG3.out] at HRD
      generalize RE.ofW p.mk = T at *
      go_wp2_with fail
      refine (HO.out _ _ HT3.out HR3.out).mono ?_
      rintro e w4 ⟨rfl, hb⟩
      have HB4 := Lib.hid (ext_step HB3.out hb)
      have HT4 := Lib.hid (HT3.out.later hb)
      have HR4 := Lib.hid (HR3.out.later hb)
      clear hb
      go_wp2_with fail
      refine (HRD.out _).mono ?_
      rintro e w5 ⟨v, rfl, hre, hb⟩
      have HB5 := Lib.hid (ext_step HB4.out hb)
      have HT5 := Lib.hid (HT4.out.later hb)
      have HR5 := Lib.hid (HR4.out.later hb)
      have HX5 := Lib.hid hre
      obtain ⟨vb, rfl, _⟩ := hre
      clear hb
      go_wp2_with fail
      refine (HSM.out _ _ _ HX5.out HR5.out).mono ?_
      rintro e w6 ⟨rfl, rfl⟩
      go_wp2_with fail
      refine (HO.out _ _ HT5.out HX5.out).mono ?_
      rintro e w7 ⟨rfl, hb⟩
      have HB7 := Lib.hid (ext_step HB5.out hb)
      clear hb
      go_wp2_with fail
      go_ret
      exact ⟨rfl, HB7.out⟩
  · have hd : decide (SH.cnt 0 p ≤ 30) = false := decide_eq_false hfew
    rw [hd] at HFEW
    go_wp2_with fail
    refine (HFEW.out _ HP1.out).mono ?_
    rintro e w2 ⟨rfl, hb⟩
    have HB2 := Lib.hid (HB1.out.trans (hb.mono HB1.out.size))
    clear hb
    go_wp2_with fail
    go_ret
    exact ⟨rfl, HB2.out⟩
end Go.Proofs.YtpajpjocakhcdaaGreatDoor
