/-
  LensNests, walked through the program.
-/
import Derived.Test.YtpajpjocakhcdaaGreatDoorLnG
set_option linter.unusedSimpArgs false
set_option linter.unusedVariables false
set_option maxRecDepth 100000
set_option linter.unnecessarySimpa false
namespace Go.Proofs.YtpajpjocakhcdaaGreatDoor
open Go.RowKit
theorem eqB (c : UInt8) (x : Nat) (hx : x < 256) : (((c.toNat : Nat) : Int) == (x : Int)) = decide (c = x.toUInt8) := by
  rw [Bool.eq_iff_iff]
  simp only [beq_iff_eq, decide_eq_true_eq]
  constructor
  · intro h
    have h2 : c.toNat = x := by omega
    rw [← h2]; simp
  · rintro rfl
    have : x.toUInt8.toNat = x := by simp; omega
    omega
theorem eqBB (c d : UInt8) : (((c.toNat : Nat) : Int) == ((d.toNat : Nat) : Int)) = decide (c = d) := by
  rw [Bool.eq_iff_iff]
  simp only [beq_iff_eq, decide_eq_true_eq]
  constructor
  · intro h; exact UInt8.toNat_inj.1 (by omega)
  · rintro rfl; rfl
/-- where the reckoning is -/
def ScanAt (l : List UInt8) (M : Int) (w : World) (n m q i : Value) (wr : World) : Prop :=
  ∃ (k : Nat) (a b : Int) (c : UInt8), k ≤ l.length + 1 ∧ i = .int .i64 k ∧ n = .int .i64 a ∧ m = .int .i64 b ∧ q = .int .u8 (c.toNat : Nat) ∧ -(k : Int) ≤ a ∧ a ≤ k ∧ 0 ≤ b ∧ b ≤ k ∧ scan (l.drop k) false a b c = M ∧ wr = w
theorem scan_skip (l : List UInt8) (n m : Int) (q : UInt8) : scan l true n m q = scan (l.drop 1) false n m q := by
  cases l with
  | nil => rfl
  | cons c r => rw [scan, if_pos rfl]; rfl
theorem drop_at (l : List UInt8) (k : Nat) (h : k < l.length) : l.drop k = l.getD k 0 :: l.drop (k + 1) := by
  rw [List.drop_eq_getElem_cons h]; simp [List.getD, h]
set_option maxRecDepth 100000 in
set_option maxHeartbeats 4000000 in
theorem LensNests_any (p : PL) (sv : Value) (w : World) (hT : Tab w) (hWo : WordsAt w) (hp : IsPl w sv p.kids) :
    Calls Tryz.prog 5 #[plV p sv] w fun e w' => e = .returned (.bool true) ∧ Below w.heap.size w w' := by
  have hx := re_alloc w (planCells p sv)
  have HX := Lib.hid hx
  have HT := Lib.hid (hT.later hx)
  have HW := Lib.hid (hWo.later hx)
  have HP := Lib.hid (hp.later hx)
  have HM := Lib.hid (fun W (h : IsPl W sv p.kids) => Make_any p sv W h)
  have HF := Lib.hid (fun W (h : IsPl W sv p.kids) => Few_any p sv W h)
  have HN := Lib.hid (fun (t : TA) (h : t.zero = p.mk) => TA.nests h)
  obtain ⟨a, cap, B, off, kv, rfl, ha, hml, hks⟩ := hp.open
  have hcl : ∀ i, i < 4 → (w.alloc (planCells p (.slice a p.kids.length cap))).cell? ⟨w.heap.size, i, none⟩ = #[Value.int .i64 p.op, .int .i64 p.w, .int .i64 p.n, .slice a p.kids.length cap][i]? := fun i _ => by
    rw [cell_of_row _ _ _ _ _ _ (heap_alloc_last w _)]
  have HCL := Lib.hid hcl
  clear hT hWo hx hp ha hks hml hcl
  generalize p.kids.length = len at *
  go_enter Tryz.func5, Tryz.ntmps5
  go_wp2_with fail
  refine (head_any _ HT.out HW.out).mono ?_
  rintro e w1 ⟨rfl, hb⟩
  have HB1 := Lib.hid (HX.out.trans (hb.mono (by simp)))
  have HT1 := Lib.hid (HT.out.later hb)
  have HP1 := Lib.hid (HP.out.later hb)
  have hbk : ∀ i, w1.cell? ⟨w.heap.size, i, none⟩ = (w.alloc (planCells p (.slice a len cap))).cell? ⟨w.heap.size, i, none⟩ := fun i => hb.cell (p := ⟨w.heap.size, i, none⟩) (by simp)
  have HBK := Lib.hid hbk
  clear hbk
  have m0 := (HBK.out 0).trans (HCL.out 0 (by omega))
  have m1 := (HBK.out 1).trans (HCL.out 1 (by omega))
  have m2 := (HBK.out 2).trans (HCL.out 2 (by omega))
  have m3 := (HBK.out 3).trans (HCL.out 3 (by omega))
  have hlt1 : w.heap.size < w1.heap.size := by have := hb.size; simp at this; omega
  clear hb HT HW HP HBK HCL
  go_wp2_with fail
  refine (HF.out _ HP1.out).mono ?_
  rintro e w2 ⟨rfl, hb⟩
  have HB2 := Lib.hid (ext_step HB1.out hb)
  have HT2 := Lib.hid (HT1.out.later hb)
  have HP2 := Lib.hid (HP1.out.later hb)
  rw [← hb.cell (p := ⟨w.heap.size, 0, none⟩) hlt1] at m0
  rw [← hb.cell (p := ⟨w.heap.size, 1, none⟩) hlt1] at m1
  rw [← hb.cell (p := ⟨w.heap.size, 2, none⟩) hlt1] at m2
  rw [← hb.cell (p := ⟨w.heap.size, 3, none⟩) hlt1] at m3
  have hlt2 : w.heap.size < w2.heap.size := by have := hb.size; omega
  clear hb HT1 HP1 HB1
  have HFN := Lib.hid (fun (t : TA) (hc : PL.cnt 0 p ≤ 30) (h : t.zero = p.mk) => fine_of hc h)
  generalize PL.cnt 0 p = c at *
  generalize p.mk = m at *
  by_cases hc : c ≤ 30
  · have HC := Lib.hid hc
    have hcd : decide (c ≤ 30) = true := by simp [hc]
    clear hc
    go_wp2_with fail
    refine (HM.out _ HP2.out).mono ?_
    rintro e w3 ⟨t, rfl, ht, hz, hb, _, _⟩
    have hf := HFN.out t HC.out hz
    have HB3 := Lib.hid (ext_step HB2.out hb)
    have HT3 := Lib.hid (HT2.out.later hb)
    have HI3 := Lib.hid ht
    have HQ := Lib.hid hf
    have HSC := Lib.hid (HN.out t hz)
    have hsl := t.str_len
    have hwt := hf.wt
    have hnl := t.nest_le
    have hsz := hf.size
    clear hb HT2 HP2 HB2 ht hz hf m0 m1 m2 m3 HN
    go_wp2_with fail
    refine (lwWrite_any _ t (Nat.le_refl _) HQ.out.made HQ.out.ok (by have := HQ.out.wt; omega) _ HT3.out HI3.out).mono ?_
    rintro e w4 ⟨rfl, hb⟩
    have HB4 := Lib.hid (ext_step HB3.out hb)
    have HI4 := Lib.hid (IsTa.later hb _ HI3.out)
    have HNE := Lib.hid (fun (hw : World) (h : IsTa hw t) => tmNest_any _ t (Nat.le_refl _) HQ.out.ok (by have := HQ.out.size; omega) hw h)
    clear hb HT3 HB3 HI3 HQ
    have hln : t.str.length ≤ 7200000 := by omega
    clear hsl hwt
    generalize t.str = l at *
    generalize t.nest = N at *
    have HSZ : Hid ((⟨l.toArray⟩ : ByteArray).size = l.length) := str_size l
    generalize hs : (⟨l.toArray⟩ : ByteArray) = s at *
    have HS := Lib.hid hs
    clear hs
    go_wp2_with fail
    go_loopw [5, 6, 7, 8] (fun n m q i wr => ScanAt l N w4 n m q i wr) (fun _ _ _ i _ => l.length + 1 - (intOf i).toNat)
    case atStart => exact ⟨0, 0, 0, 0, by omega, rfl, rfl, rfl, rfl, by omega, by omega, by omega, by omega, HSC.out, rfl⟩
    case round =>
      obtain ⟨k, a, b, q, hk, rfl, rfl, rfl, rfl, ha1, ha2, hb1, hb2, hsc, rfl⟩ := hrel
      have hsz' := HSZ.out
      by_cases hlt : k < l.length
      · rw [drop_at l k hlt, scan, if_neg (by simp)] at hsc
        have hidx := fun W => str_at l k hlt W
        rw [HS.out] at hidx
        have hlk : ((k : Nat) : Int) < (l.length : Nat) := by omega
        have hq0 := eqB q 0 (by omega)
        have hc92 := eqB (l.getD k 0) 92 (by omega)
        have hc34 := eqB (l.getD k 0) 34 (by omega)
        have hc47 := eqB (l.getD k 0) 47 (by omega)
        have hc40 := eqB (l.getD k 0) 40 (by omega)
        have hc41 := eqB (l.getD k 0) 41 (by omega)
        have hcq := eqBB (l.getD k 0) q
        generalize l.getD k 0 = c at *
        have HR := fun (a' b' : Int) (q' : UInt8) (k' : Nat) (h1 : k' ≤ l.length + 1) (h2 : -(k' : Int) ≤ a') (h3 : a' ≤ k') (h4 : 0 ≤ b') (h5 : b' ≤ k') (i' : Int) (h7 : i' = (k' : Nat)) (h6 : scan (l.drop k') false a' b' q' = N) =>
          (show ScanAt l N wr (.int .i64 a') (.int .i64 b') (.int .u8 (q'.toNat : Nat)) (.int .i64 i') wr from ⟨k', a', b', q', h1, by rw [h7], rfl, rfl, rfl, h2, h3, h4, h5, h6, rfl⟩)
        have HRR := Lib.hid HR
        clear HR hnl hsz
        by_cases e0 : q = 0
        · subst e0
          rw [if_neg (by simp)] at hsc
          have n0 : (((UInt8.toNat 0 : Nat) : Int) != 0) = false := by decide
          have n1 : (((UInt8.toNat 0 : Nat) : Int) == 0) = true := by decide
          by_cases g : c = 34 ∨ c = 47
          · rw [if_pos g] at hsc
            have g' : (((c.toNat : Nat) : Int) == 34) = true ∨ ((((c.toNat : Nat) : Int) == 34) = false ∧ (((c.toNat : Nat) : Int) == 47) = true) := by
              rcases g with rfl | rfl <;> decide
            have HSC := Lib.hid hsc
            clear hsc g hq0 hc92 hc34 hc47 hc40 hc41 hcq
            rcases g' with g1 | ⟨g1, g2⟩
            all_goals
              go_wp2_with fail
              go_roundw
              case rel => exact HRR.out a b c (k + 1) (by omega) (by omega) (by omega) (by omega) (by omega) _ (by omega) HSC.out
              case measure => simp [intOf]; omega
          · rw [if_neg g] at hsc
            have g1 : (((c.toNat : Nat) : Int) == 34) = false := (eqB c 34 (by omega)).trans (by simp; exact fun e => g (.inl e))
            have g2 : (((c.toNat : Nat) : Int) == 47) = false := (eqB c 47 (by omega)).trans (by simp; exact fun e => g (.inr e))
            clear g hq0 hc92 hc34 hc47 hcq
            by_cases g3 : c = 40
            · rw [if_pos g3] at hsc
              have g4 : (((c.toNat : Nat) : Int) == 40) = true := by subst g3; decide
              have HSC := Lib.hid hsc
              clear hsc g3 hc40 hc41
              go_wp2_with fail
              go_roundw
              case rel => exact HRR.out (a + 1) (max b (a + 1)) 0 (k + 1) (by omega) (by omega) (by omega) (by omega) (by omega) _ (by omega) HSC.out
              case measure => simp [intOf]; omega
            · rw [if_neg g3] at hsc
              have g4 : (((c.toNat : Nat) : Int) == 40) = false := (eqB c 40 (by omega)).trans (by simpa using g3)
              clear g3 hc40
              by_cases g5 : c = 41
              · rw [if_pos g5] at hsc
                have g6 : (((c.toNat : Nat) : Int) == 41) = true := by subst g5; decide
                have HSC := Lib.hid hsc
                clear hsc g5 hc41
                go_wp2_with fail
                go_roundw
                case rel => exact HRR.out (a - 1) b 0 (k + 1) (by omega) (by omega) (by omega) (by omega) (by omega) _ (by omega) HSC.out
                case measure => simp [intOf]; omega
              · rw [if_neg g5] at hsc
                have g6 : (((c.toNat : Nat) : Int) == 41) = false := (eqB c 41 (by omega)).trans (by simpa using g5)
                have HSC := Lib.hid hsc
                clear hsc g5 hc41
                go_wp2_with fail
                go_roundw
                case rel => exact HRR.out a b 0 (k + 1) (by omega) (by omega) (by omega) (by omega) (by omega) _ (by omega) HSC.out
                case measure => simp [intOf]; omega
        · rw [if_pos e0] at hsc
          have n1 : (((q.toNat : Nat) : Int) == 0) = false := hq0.trans (by simpa using e0)
          have n0 : (((q.toNat : Nat) : Int) != 0) = true := by rw [bne, n1]; rfl
          clear e0 hq0 hc34 hc47 hc40 hc41
          by_cases g : c = 92
          · rw [if_pos g, scan_skip, List.drop_drop] at hsc
            have g1 : (((c.toNat : Nat) : Int) == 92) = true := by subst g; decide
            have HSC := Lib.hid hsc
            clear hsc g hc92 hcq
            go_wp2_with fail
            go_roundw
            case rel => exact HRR.out a b q (k + 1 + 1) (by omega) (by omega) (by omega) (by omega) (by omega) _ (by omega) HSC.out
            case measure => simp [intOf]; omega
          · rw [if_neg g] at hsc
            have g1 : (((c.toNat : Nat) : Int) == 92) = false := hc92.trans (by simpa using g)
            clear g hc92
            by_cases g2 : c = q
            · rw [if_pos g2] at hsc
              have g3 : (((c.toNat : Nat) : Int) == ((q.toNat : Nat) : Int)) = true := by rw [hcq]; simpa using g2
              have g4 : c.toNat = q.toNat := by rw [g2]
              have HSC := Lib.hid hsc
              clear hsc g2 hcq
              go_wp2_with fail
              go_roundw
              case rel => exact HRR.out a b 0 (k + 1) (by omega) (by omega) (by omega) (by omega) (by omega) _ (by omega) HSC.out
              case measure => simp [intOf]; omega
            · rw [if_neg g2] at hsc
              have g3 : (((c.toNat : Nat) : Int) == ((q.toNat : Nat) : Int)) = false := by rw [hcq]; simpa using g2
              have g4 : ¬ c.toNat = q.toNat := fun e => g2 (UInt8.toNat_inj.1 e)
              have HSC := Lib.hid hsc
              clear hsc g2 hcq
              go_wp2_with fail
              go_roundw
              case rel => exact HRR.out a b q (k + 1) (by omega) (by omega) (by omega) (by omega) (by omega) _ (by omega) HSC.out
              case measure => simp [intOf]; omega
      · have hdn : l.drop k = [] := List.drop_eq_nil_of_le (by omega)
        rw [hdn, scan] at hsc
        subst hsc
        have hlk : ¬ ((k : Nat) : Int) < (l.length : Nat) := by omega
        clear hdn
        go_wp2_with fail
        refine (HNE.out _ HI4.out).mono ?_
        rintro e w' ⟨rfl, rfl⟩
        go_wp2_with fail
        refine (tmNest_nil _).mono ?_
        rintro e w' ⟨rfl, rfl⟩
        go_wp2_with fail
        go_ret
        exact ⟨rfl, HB4.out⟩
  · have hcd : decide (c ≤ 30) = false := by simp [hc]
    go_wp2_with fail
    go_ret
    exact ⟨rfl, HB2.out⟩
end Go.Proofs.YtpajpjocakhcdaaGreatDoor
