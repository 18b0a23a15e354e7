/-
  A byte that is written otherwise, behind a backslash, read: walked through the program (a sign).
-/
import Derived.Test.YticpjjmacmmpjaaGreatDoorPsO
set_option linter.unusedSimpArgs false
set_option linter.unusedVariables false
set_option maxRecDepth 100000
set_option linter.unnecessarySimpa false
namespace Go.Proofs.YticpjjmacmmpjaaGreatDoor
open Go.RowKit
set_option maxRecDepth 100000 in
set_option maxHeartbeats 4000000 in
theorem sl_space (p : Nat) (s : List UInt8) (st : PS) (w : World) (h : PAt w p s st) (hs : s.length ≤ 65536) (c : UInt8) (r : List UInt8) (hno : c.toNat ≠ 110 ∧ c.toNat ≠ 116 ∧ c.toNat ≠ 120) (hk : c.toNat = 32) (hr : st.rest = 92 :: (c :: r)) :
    Calls Tryz.prog 198 #[ptr p] w (OnePost p s w (st.adv 2, c.toNat)) := by
  obtain ⟨c0, c1, c2, c3, c4, c5⟩ := h.cells
  have hsz : (⟨s.toArray⟩ : ByteArray).size = s.length := str_size s
  obtain ⟨hl, hg, hd, ht⟩ := one_at w p s st h 92 (c :: r) hr
  have hidx := fun W => str_at s st.at_ hl W
  rw [hg] at hidx
  have hc1 : ((st.at_ : Nat) : Int) < (s.length : Nat) := by omega
  have hc2 : ¬ s.length ≤ st.at_ := by omega
  have hc3 : ((st.at_ : Nat) : Int) + 1 ≤ (s.length : Nat) := by omega
  have hf1 := fun W => strFrom s (st.at_ + 1) (by omega) W
  have hf2 := fun W => strFromAt s (st.at_ + 1) (by omega) W
  rw [hd, show ((st.at_ + 1 : Nat) : Int) = (st.at_ : Int) + 1 by omega] at hf1 hf2
  have hwr : IntKind.i64.wrap ((st.at_ : Int) + 1) = (st.at_ : Int) + 1 := by rw [IntKind.wrap_i64]; omega
  have HF := Lib.hid (fun W (hp : PAt W p s st) => psFail_any p s st W hp hs 2 (by omega))
  have HP := Lib.hid h
  have HR2 : Hid (st.rest.length = ((c :: r) : List UInt8).length + 1) := by show _ = _; rw [hr]; simp
  have HA := Lib.hid (fun W (hp : PAt W p s st) k (hk : k ≤ st.rest.length) => hp.put_adv' k st.at_ rfl hk)
  have f1 := h.frz 1
  clear h hr hl hg hd c2 c3 c4 c5
  generalize hat : st.at_ = a at *
  clear hat
  have hz : (⟨(c :: r).toArray⟩ : ByteArray).size = r.length + 1 := str_size (c :: r)
  have hix : (⟨(c :: r).toArray⟩ : ByteArray)[0].toNat = c.toNat := rfl
  have HR2 : Hid (st.rest.length = r.length + 2) := by show _ = _; have := HR2.out; simpa using this
  have hcl := c.toNat_lt
  have g110 : (((c.toNat : Nat) : Int) == 110) = false := by rw [beq_eq_false_iff_ne]; omega
  have g116 : (((c.toNat : Nat) : Int) == 116) = false := by rw [beq_eq_false_iff_ne]; omega
  have g120 : (((c.toNat : Nat) : Int) == 120) = false := by rw [beq_eq_false_iff_ne]; omega
  generalize c.toNat = n at *
  have b1 : ¬ (32 : Int) < (n : Int) := by omega
  have q32 : ((n : Int) == 32) = true := by rw [hk]; rfl
  clear hno hk
  go_enter Tryz.func198, Tryz.ntmps198
  go_wp2_with fail
  go_quiet (fail)
  go_wp2_with fail
  go_quiet (fail)
  go_wp2_with fail
  go_quiet (fail)
  go_wp2_with fail
  go_ret
  exact ⟨rfl, HA.out _ (by repeat (first | exact HP.out | refine PAt.drew ?_ _)) 2 (by have := HR2.out; omega), (by repeat (first | exact Far.refl _ _ | refine Far.drew ?_ _ | refine Far.set ?_ _ _))⟩
set_option maxRecDepth 100000 in
set_option maxHeartbeats 4000000 in
theorem sl_low (p : Nat) (s : List UInt8) (st : PS) (w : World) (h : PAt w p s st) (hs : s.length ≤ 65536) (c : UInt8) (r : List UInt8) (hno : c.toNat ≠ 110 ∧ c.toNat ≠ 116 ∧ c.toNat ≠ 120) (hk : c.toNat < 32) (hr : st.rest = 92 :: (c :: r)) :
    Calls Tryz.prog 198 #[ptr p] w (OnePost p s w (st.fail 2, 0)) := by
  obtain ⟨c0, c1, c2, c3, c4, c5⟩ := h.cells
  have hsz : (⟨s.toArray⟩ : ByteArray).size = s.length := str_size s
  obtain ⟨hl, hg, hd, ht⟩ := one_at w p s st h 92 (c :: r) hr
  have hidx := fun W => str_at s st.at_ hl W
  rw [hg] at hidx
  have hc1 : ((st.at_ : Nat) : Int) < (s.length : Nat) := by omega
  have hc2 : ¬ s.length ≤ st.at_ := by omega
  have hc3 : ((st.at_ : Nat) : Int) + 1 ≤ (s.length : Nat) := by omega
  have hf1 := fun W => strFrom s (st.at_ + 1) (by omega) W
  have hf2 := fun W => strFromAt s (st.at_ + 1) (by omega) W
  rw [hd, show ((st.at_ + 1 : Nat) : Int) = (st.at_ : Int) + 1 by omega] at hf1 hf2
  have hwr : IntKind.i64.wrap ((st.at_ : Int) + 1) = (st.at_ : Int) + 1 := by rw [IntKind.wrap_i64]; omega
  have HF := Lib.hid (fun W (hp : PAt W p s st) => psFail_any p s st W hp hs 2 (by omega))
  have HP := Lib.hid h
  have HR2 : Hid (st.rest.length = ((c :: r) : List UInt8).length + 1) := by show _ = _; rw [hr]; simp
  have HA := Lib.hid (fun W (hp : PAt W p s st) k (hk : k ≤ st.rest.length) => hp.put_adv' k st.at_ rfl hk)
  have f1 := h.frz 1
  clear h hr hl hg hd c2 c3 c4 c5
  generalize hat : st.at_ = a at *
  clear hat
  have hz : (⟨(c :: r).toArray⟩ : ByteArray).size = r.length + 1 := str_size (c :: r)
  have hix : (⟨(c :: r).toArray⟩ : ByteArray)[0].toNat = c.toNat := rfl
  have HR2 : Hid (st.rest.length = r.length + 2) := by show _ = _; have := HR2.out; simpa using this
  have hcl := c.toNat_lt
  have g110 : (((c.toNat : Nat) : Int) == 110) = false := by rw [beq_eq_false_iff_ne]; omega
  have g116 : (((c.toNat : Nat) : Int) == 116) = false := by rw [beq_eq_false_iff_ne]; omega
  have g120 : (((c.toNat : Nat) : Int) == 120) = false := by rw [beq_eq_false_iff_ne]; omega
  generalize c.toNat = n at *
  have b1 : ¬ (32 : Int) < (n : Int) := by omega
  have q32 : ((n : Int) == 32) = false := by rw [beq_eq_false_iff_ne]; omega
  clear hno hk
  go_enter Tryz.func198, Tryz.ntmps198
  go_wp2_with fail
  go_quiet (fail)
  go_wp2_with fail
  go_quiet (fail)
  go_wp2_with fail
  go_quiet (fail)
  go_wp2_with fail
  refine (HF.out _ (by repeat (first | exact HP.out | refine PAt.drew ?_ _))).mono ?_
  rintro e w2 ⟨rfl, hp2, hf2⟩
  go_wp2_with fail
  go_ret
  exact ⟨rfl, hp2, (by repeat (first | exact Far.refl _ _ | refine Far.drew ?_ _) : Far p w _).trans hf2⟩
set_option maxRecDepth 100000 in
set_option maxHeartbeats 4000000 in
theorem sl_high (p : Nat) (s : List UInt8) (st : PS) (w : World) (h : PAt w p s st) (hs : s.length ≤ 65536) (c : UInt8) (r : List UInt8) (hno : c.toNat ≠ 110 ∧ c.toNat ≠ 116 ∧ c.toNat ≠ 120) (hk : 127 ≤ c.toNat) (hr : st.rest = 92 :: (c :: r)) :
    Calls Tryz.prog 198 #[ptr p] w (OnePost p s w (st.fail 2, 0)) := by
  obtain ⟨c0, c1, c2, c3, c4, c5⟩ := h.cells
  have hsz : (⟨s.toArray⟩ : ByteArray).size = s.length := str_size s
  obtain ⟨hl, hg, hd, ht⟩ := one_at w p s st h 92 (c :: r) hr
  have hidx := fun W => str_at s st.at_ hl W
  rw [hg] at hidx
  have hc1 : ((st.at_ : Nat) : Int) < (s.length : Nat) := by omega
  have hc2 : ¬ s.length ≤ st.at_ := by omega
  have hc3 : ((st.at_ : Nat) : Int) + 1 ≤ (s.length : Nat) := by omega
  have hf1 := fun W => strFrom s (st.at_ + 1) (by omega) W
  have hf2 := fun W => strFromAt s (st.at_ + 1) (by omega) W
  rw [hd, show ((st.at_ + 1 : Nat) : Int) = (st.at_ : Int) + 1 by omega] at hf1 hf2
  have hwr : IntKind.i64.wrap ((st.at_ : Int) + 1) = (st.at_ : Int) + 1 := by rw [IntKind.wrap_i64]; omega
  have HF := Lib.hid (fun W (hp : PAt W p s st) => psFail_any p s st W hp hs 2 (by omega))
  have HP := Lib.hid h
  have HR2 : Hid (st.rest.length = ((c :: r) : List UInt8).length + 1) := by show _ = _; rw [hr]; simp
  have HA := Lib.hid (fun W (hp : PAt W p s st) k (hk : k ≤ st.rest.length) => hp.put_adv' k st.at_ rfl hk)
  have f1 := h.frz 1
  clear h hr hl hg hd c2 c3 c4 c5
  generalize hat : st.at_ = a at *
  clear hat
  have hz : (⟨(c :: r).toArray⟩ : ByteArray).size = r.length + 1 := str_size (c :: r)
  have hix : (⟨(c :: r).toArray⟩ : ByteArray)[0].toNat = c.toNat := rfl
  have HR2 : Hid (st.rest.length = r.length + 2) := by show _ = _; have := HR2.out; simpa using this
  have hcl := c.toNat_lt
  have g110 : (((c.toNat : Nat) : Int) == 110) = false := by rw [beq_eq_false_iff_ne]; omega
  have g116 : (((c.toNat : Nat) : Int) == 116) = false := by rw [beq_eq_false_iff_ne]; omega
  have g120 : (((c.toNat : Nat) : Int) == 120) = false := by rw [beq_eq_false_iff_ne]; omega
  generalize c.toNat = n at *
  have b1 : (32 : Int) < (n : Int) := by omega
  have b2 : ¬ (n : Int) < 127 := by omega
  have q32 : ((n : Int) == 32) = false := by rw [beq_eq_false_iff_ne]; omega
  clear hno hk
  go_enter Tryz.func198, Tryz.ntmps198
  go_wp2_with fail
  go_quiet (fail)
  go_wp2_with fail
  go_quiet (fail)
  go_wp2_with fail
  go_quiet (fail)
  go_wp2_with fail
  refine (HF.out _ (by repeat (first | exact HP.out | refine PAt.drew ?_ _))).mono ?_
  rintro e w2 ⟨rfl, hp2, hf2⟩
  go_wp2_with fail
  go_ret
  exact ⟨rfl, hp2, (by repeat (first | exact Far.refl _ _ | refine Far.drew ?_ _) : Far p w _).trans hf2⟩
set_option maxRecDepth 100000 in
set_option maxHeartbeats 4000000 in
theorem sl_lc (p : Nat) (s : List UInt8) (st : PS) (w : World) (h : PAt w p s st) (hs : s.length ≤ 65536) (c : UInt8) (r : List UInt8) (hno : c.toNat ≠ 110 ∧ c.toNat ≠ 116 ∧ c.toNat ≠ 120) (hk : (97 ≤ c.toNat ∧ c.toNat ≤ 122)) (hr : st.rest = 92 :: (c :: r)) :
    Calls Tryz.prog 198 #[ptr p] w (OnePost p s w (st.fail 2, 0)) := by
  obtain ⟨c0, c1, c2, c3, c4, c5⟩ := h.cells
  have hsz : (⟨s.toArray⟩ : ByteArray).size = s.length := str_size s
  obtain ⟨hl, hg, hd, ht⟩ := one_at w p s st h 92 (c :: r) hr
  have hidx := fun W => str_at s st.at_ hl W
  rw [hg] at hidx
  have hc1 : ((st.at_ : Nat) : Int) < (s.length : Nat) := by omega
  have hc2 : ¬ s.length ≤ st.at_ := by omega
  have hc3 : ((st.at_ : Nat) : Int) + 1 ≤ (s.length : Nat) := by omega
  have hf1 := fun W => strFrom s (st.at_ + 1) (by omega) W
  have hf2 := fun W => strFromAt s (st.at_ + 1) (by omega) W
  rw [hd, show ((st.at_ + 1 : Nat) : Int) = (st.at_ : Int) + 1 by omega] at hf1 hf2
  have hwr : IntKind.i64.wrap ((st.at_ : Int) + 1) = (st.at_ : Int) + 1 := by rw [IntKind.wrap_i64]; omega
  have HF := Lib.hid (fun W (hp : PAt W p s st) => psFail_any p s st W hp hs 2 (by omega))
  have HP := Lib.hid h
  have HR2 : Hid (st.rest.length = ((c :: r) : List UInt8).length + 1) := by show _ = _; rw [hr]; simp
  have HA := Lib.hid (fun W (hp : PAt W p s st) k (hk : k ≤ st.rest.length) => hp.put_adv' k st.at_ rfl hk)
  have f1 := h.frz 1
  clear h hr hl hg hd c2 c3 c4 c5
  generalize hat : st.at_ = a at *
  clear hat
  have hz : (⟨(c :: r).toArray⟩ : ByteArray).size = r.length + 1 := str_size (c :: r)
  have hix : (⟨(c :: r).toArray⟩ : ByteArray)[0].toNat = c.toNat := rfl
  have HR2 : Hid (st.rest.length = r.length + 2) := by show _ = _; have := HR2.out; simpa using this
  have hcl := c.toNat_lt
  have g110 : (((c.toNat : Nat) : Int) == 110) = false := by rw [beq_eq_false_iff_ne]; omega
  have g116 : (((c.toNat : Nat) : Int) == 116) = false := by rw [beq_eq_false_iff_ne]; omega
  have g120 : (((c.toNat : Nat) : Int) == 120) = false := by rw [beq_eq_false_iff_ne]; omega
  generalize c.toNat = n at *
  have b1 : (32 : Int) < (n : Int) := by omega
  have b2 : (n : Int) < 127 := by omega
  have b3 : ¬ (n : Int) < 97 := by omega
  have b4 : ¬ (122 : Int) < (n : Int) := by omega
  have q32 : ((n : Int) == 32) = false := by rw [beq_eq_false_iff_ne]; omega
  clear hno hk
  go_enter Tryz.func198, Tryz.ntmps198
  go_wp2_with fail
  go_quiet (fail)
  go_wp2_with fail
  go_quiet (fail)
  go_wp2_with fail
  go_quiet (fail)
  go_wp2_with fail
  refine (HF.out _ (by repeat (first | exact HP.out | refine PAt.drew ?_ _))).mono ?_
  rintro e w2 ⟨rfl, hp2, hf2⟩
  go_wp2_with fail
  go_ret
  exact ⟨rfl, hp2, (by repeat (first | exact Far.refl _ _ | refine Far.drew ?_ _) : Far p w _).trans hf2⟩
set_option maxRecDepth 100000 in
set_option maxHeartbeats 4000000 in
theorem sl_uc (p : Nat) (s : List UInt8) (st : PS) (w : World) (h : PAt w p s st) (hs : s.length ≤ 65536) (c : UInt8) (r : List UInt8) (hno : c.toNat ≠ 110 ∧ c.toNat ≠ 116 ∧ c.toNat ≠ 120) (hk : (65 ≤ c.toNat ∧ c.toNat ≤ 90)) (hr : st.rest = 92 :: (c :: r)) :
    Calls Tryz.prog 198 #[ptr p] w (OnePost p s w (st.fail 2, 0)) := by
  obtain ⟨c0, c1, c2, c3, c4, c5⟩ := h.cells
  have hsz : (⟨s.toArray⟩ : ByteArray).size = s.length := str_size s
  obtain ⟨hl, hg, hd, ht⟩ := one_at w p s st h 92 (c :: r) hr
  have hidx := fun W => str_at s st.at_ hl W
  rw [hg] at hidx
  have hc1 : ((st.at_ : Nat) : Int) < (s.length : Nat) := by omega
  have hc2 : ¬ s.length ≤ st.at_ := by omega
  have hc3 : ((st.at_ : Nat) : Int) + 1 ≤ (s.length : Nat) := by omega
  have hf1 := fun W => strFrom s (st.at_ + 1) (by omega) W
  have hf2 := fun W => strFromAt s (st.at_ + 1) (by omega) W
  rw [hd, show ((st.at_ + 1 : Nat) : Int) = (st.at_ : Int) + 1 by omega] at hf1 hf2
  have hwr : IntKind.i64.wrap ((st.at_ : Int) + 1) = (st.at_ : Int) + 1 := by rw [IntKind.wrap_i64]; omega
  have HF := Lib.hid (fun W (hp : PAt W p s st) => psFail_any p s st W hp hs 2 (by omega))
  have HP := Lib.hid h
  have HR2 : Hid (st.rest.length = ((c :: r) : List UInt8).length + 1) := by show _ = _; rw [hr]; simp
  have HA := Lib.hid (fun W (hp : PAt W p s st) k (hk : k ≤ st.rest.length) => hp.put_adv' k st.at_ rfl hk)
  have f1 := h.frz 1
  clear h hr hl hg hd c2 c3 c4 c5
  generalize hat : st.at_ = a at *
  clear hat
  have hz : (⟨(c :: r).toArray⟩ : ByteArray).size = r.length + 1 := str_size (c :: r)
  have hix : (⟨(c :: r).toArray⟩ : ByteArray)[0].toNat = c.toNat := rfl
  have HR2 : Hid (st.rest.length = r.length + 2) := by show _ = _; have := HR2.out; simpa using this
  have hcl := c.toNat_lt
  have g110 : (((c.toNat : Nat) : Int) == 110) = false := by rw [beq_eq_false_iff_ne]; omega
  have g116 : (((c.toNat : Nat) : Int) == 116) = false := by rw [beq_eq_false_iff_ne]; omega
  have g120 : (((c.toNat : Nat) : Int) == 120) = false := by rw [beq_eq_false_iff_ne]; omega
  generalize c.toNat = n at *
  have b1 : (32 : Int) < (n : Int) := by omega
  have b2 : (n : Int) < 127 := by omega
  have b3 : (n : Int) < 97 := by omega
  have b4 : ¬ (n : Int) < 65 := by omega
  have b5 : ¬ (90 : Int) < (n : Int) := by omega
  have q32 : ((n : Int) == 32) = false := by rw [beq_eq_false_iff_ne]; omega
  clear hno hk
  go_enter Tryz.func198, Tryz.ntmps198
  go_wp2_with fail
  go_quiet (fail)
  go_wp2_with fail
  go_quiet (fail)
  go_wp2_with fail
  go_quiet (fail)
  go_wp2_with fail
  refine (HF.out _ (by repeat (first | exact HP.out | refine PAt.drew ?_ _))).mono ?_
  rintro e w2 ⟨rfl, hp2, hf2⟩
  go_wp2_with fail
  go_ret
  exact ⟨rfl, hp2, (by repeat (first | exact Far.refl _ _ | refine Far.drew ?_ _) : Far p w _).trans hf2⟩
set_option maxRecDepth 100000 in
set_option maxHeartbeats 4000000 in
theorem sl_dg (p : Nat) (s : List UInt8) (st : PS) (w : World) (h : PAt w p s st) (hs : s.length ≤ 65536) (c : UInt8) (r : List UInt8) (hno : c.toNat ≠ 110 ∧ c.toNat ≠ 116 ∧ c.toNat ≠ 120) (hk : (48 ≤ c.toNat ∧ c.toNat ≤ 57)) (hr : st.rest = 92 :: (c :: r)) :
    Calls Tryz.prog 198 #[ptr p] w (OnePost p s w (st.fail 2, 0)) := by
  obtain ⟨c0, c1, c2, c3, c4, c5⟩ := h.cells
  have hsz : (⟨s.toArray⟩ : ByteArray).size = s.length := str_size s
  obtain ⟨hl, hg, hd, ht⟩ := one_at w p s st h 92 (c :: r) hr
  have hidx := fun W => str_at s st.at_ hl W
  rw [hg] at hidx
  have hc1 : ((st.at_ : Nat) : Int) < (s.length : Nat) := by omega
  have hc2 : ¬ s.length ≤ st.at_ := by omega
  have hc3 : ((st.at_ : Nat) : Int) + 1 ≤ (s.length : Nat) := by omega
  have hf1 := fun W => strFrom s (st.at_ + 1) (by omega) W
  have hf2 := fun W => strFromAt s (st.at_ + 1) (by omega) W
  rw [hd, show ((st.at_ + 1 : Nat) : Int) = (st.at_ : Int) + 1 by omega] at hf1 hf2
  have hwr : IntKind.i64.wrap ((st.at_ : Int) + 1) = (st.at_ : Int) + 1 := by rw [IntKind.wrap_i64]; omega
  have HF := Lib.hid (fun W (hp : PAt W p s st) => psFail_any p s st W hp hs 2 (by omega))
  have HP := Lib.hid h
  have HR2 : Hid (st.rest.length = ((c :: r) : List UInt8).length + 1) := by show _ = _; rw [hr]; simp
  have HA := Lib.hid (fun W (hp : PAt W p s st) k (hk : k ≤ st.rest.length) => hp.put_adv' k st.at_ rfl hk)
  have f1 := h.frz 1
  clear h hr hl hg hd c2 c3 c4 c5
  generalize hat : st.at_ = a at *
  clear hat
  have hz : (⟨(c :: r).toArray⟩ : ByteArray).size = r.length + 1 := str_size (c :: r)
  have hix : (⟨(c :: r).toArray⟩ : ByteArray)[0].toNat = c.toNat := rfl
  have HR2 : Hid (st.rest.length = r.length + 2) := by show _ = _; have := HR2.out; simpa using this
  have hcl := c.toNat_lt
  have g110 : (((c.toNat : Nat) : Int) == 110) = false := by rw [beq_eq_false_iff_ne]; omega
  have g116 : (((c.toNat : Nat) : Int) == 116) = false := by rw [beq_eq_false_iff_ne]; omega
  have g120 : (((c.toNat : Nat) : Int) == 120) = false := by rw [beq_eq_false_iff_ne]; omega
  generalize c.toNat = n at *
  have b1 : (32 : Int) < (n : Int) := by omega
  have b2 : (n : Int) < 127 := by omega
  have b3 : (n : Int) < 97 := by omega
  have b4 : (n : Int) < 65 := by omega
  have b5 : ¬ (n : Int) < 48 := by omega
  have b6 : ¬ (57 : Int) < (n : Int) := by omega
  have q32 : ((n : Int) == 32) = false := by rw [beq_eq_false_iff_ne]; omega
  clear hno hk
  go_enter Tryz.func198, Tryz.ntmps198
  go_wp2_with fail
  go_quiet (fail)
  go_wp2_with fail
  go_quiet (fail)
  go_wp2_with fail
  go_quiet (fail)
  go_wp2_with fail
  refine (HF.out _ (by repeat (first | exact HP.out | refine PAt.drew ?_ _))).mono ?_
  rintro e w2 ⟨rfl, hp2, hf2⟩
  go_wp2_with fail
  go_ret
  exact ⟨rfl, hp2, (by repeat (first | exact Far.refl _ _ | refine Far.drew ?_ _) : Far p w _).trans hf2⟩
set_option maxRecDepth 100000 in
set_option maxHeartbeats 4000000 in
theorem sl_ok1 (p : Nat) (s : List UInt8) (st : PS) (w : World) (h : PAt w p s st) (hs : s.length ≤ 65536) (c : UInt8) (r : List UInt8) (hno : c.toNat ≠ 110 ∧ c.toNat ≠ 116 ∧ c.toNat ≠ 120) (hk : 33 ≤ c.toNat ∧ c.toNat ≤ 47) (hr : st.rest = 92 :: (c :: r)) :
    Calls Tryz.prog 198 #[ptr p] w (OnePost p s w (st.adv 2, c.toNat)) := by
  obtain ⟨c0, c1, c2, c3, c4, c5⟩ := h.cells
  have hsz : (⟨s.toArray⟩ : ByteArray).size = s.length := str_size s
  obtain ⟨hl, hg, hd, ht⟩ := one_at w p s st h 92 (c :: r) hr
  have hidx := fun W => str_at s st.at_ hl W
  rw [hg] at hidx
  have hc1 : ((st.at_ : Nat) : Int) < (s.length : Nat) := by omega
  have hc2 : ¬ s.length ≤ st.at_ := by omega
  have hc3 : ((st.at_ : Nat) : Int) + 1 ≤ (s.length : Nat) := by omega
  have hf1 := fun W => strFrom s (st.at_ + 1) (by omega) W
  have hf2 := fun W => strFromAt s (st.at_ + 1) (by omega) W
  rw [hd, show ((st.at_ + 1 : Nat) : Int) = (st.at_ : Int) + 1 by omega] at hf1 hf2
  have hwr : IntKind.i64.wrap ((st.at_ : Int) + 1) = (st.at_ : Int) + 1 := by rw [IntKind.wrap_i64]; omega
  have HF := Lib.hid (fun W (hp : PAt W p s st) => psFail_any p s st W hp hs 2 (by omega))
  have HP := Lib.hid h
  have HR2 : Hid (st.rest.length = ((c :: r) : List UInt8).length + 1) := by show _ = _; rw [hr]; simp
  have HA := Lib.hid (fun W (hp : PAt W p s st) k (hk : k ≤ st.rest.length) => hp.put_adv' k st.at_ rfl hk)
  have f1 := h.frz 1
  clear h hr hl hg hd c2 c3 c4 c5
  generalize hat : st.at_ = a at *
  clear hat
  have hz : (⟨(c :: r).toArray⟩ : ByteArray).size = r.length + 1 := str_size (c :: r)
  have hix : (⟨(c :: r).toArray⟩ : ByteArray)[0].toNat = c.toNat := rfl
  have HR2 : Hid (st.rest.length = r.length + 2) := by show _ = _; have := HR2.out; simpa using this
  have hcl := c.toNat_lt
  have g110 : (((c.toNat : Nat) : Int) == 110) = false := by rw [beq_eq_false_iff_ne]; omega
  have g116 : (((c.toNat : Nat) : Int) == 116) = false := by rw [beq_eq_false_iff_ne]; omega
  have g120 : (((c.toNat : Nat) : Int) == 120) = false := by rw [beq_eq_false_iff_ne]; omega
  generalize c.toNat = n at *
  have b0 : (32 : Int) < (n : Int) := by omega
  have b1 : (n : Int) < 127 := by omega
  have b2 : (n : Int) < 97 := by omega
  have b3 : (n : Int) < 65 := by omega
  have b4 : (n : Int) < 48 := by omega
  clear hno hk
  go_enter Tryz.func198, Tryz.ntmps198
  go_wp2_with fail
  go_quiet (fail)
  go_wp2_with fail
  go_quiet (fail)
  go_wp2_with fail
  go_quiet (fail)
  go_wp2_with fail
  go_ret
  exact ⟨rfl, HA.out _ (by repeat (first | exact HP.out | refine PAt.drew ?_ _)) 2 (by have := HR2.out; omega), (by repeat (first | exact Far.refl _ _ | refine Far.drew ?_ _ | refine Far.set ?_ _ _))⟩
set_option maxRecDepth 100000 in
set_option maxHeartbeats 4000000 in
theorem sl_ok2 (p : Nat) (s : List UInt8) (st : PS) (w : World) (h : PAt w p s st) (hs : s.length ≤ 65536) (c : UInt8) (r : List UInt8) (hno : c.toNat ≠ 110 ∧ c.toNat ≠ 116 ∧ c.toNat ≠ 120) (hk : 58 ≤ c.toNat ∧ c.toNat ≤ 64) (hr : st.rest = 92 :: (c :: r)) :
    Calls Tryz.prog 198 #[ptr p] w (OnePost p s w (st.adv 2, c.toNat)) := by
  obtain ⟨c0, c1, c2, c3, c4, c5⟩ := h.cells
  have hsz : (⟨s.toArray⟩ : ByteArray).size = s.length := str_size s
  obtain ⟨hl, hg, hd, ht⟩ := one_at w p s st h 92 (c :: r) hr
  have hidx := fun W => str_at s st.at_ hl W
  rw [hg] at hidx
  have hc1 : ((st.at_ : Nat) : Int) < (s.length : Nat) := by omega
  have hc2 : ¬ s.length ≤ st.at_ := by omega
  have hc3 : ((st.at_ : Nat) : Int) + 1 ≤ (s.length : Nat) := by omega
  have hf1 := fun W => strFrom s (st.at_ + 1) (by omega) W
  have hf2 := fun W => strFromAt s (st.at_ + 1) (by omega) W
  rw [hd, show ((st.at_ + 1 : Nat) : Int) = (st.at_ : Int) + 1 by omega] at hf1 hf2
  have hwr : IntKind.i64.wrap ((st.at_ : Int) + 1) = (st.at_ : Int) + 1 := by rw [IntKind.wrap_i64]; omega
  have HF := Lib.hid (fun W (hp : PAt W p s st) => psFail_any p s st W hp hs 2 (by omega))
  have HP := Lib.hid h
  have HR2 : Hid (st.rest.length = ((c :: r) : List UInt8).length + 1) := by show _ = _; rw [hr]; simp
  have HA := Lib.hid (fun W (hp : PAt W p s st) k (hk : k ≤ st.rest.length) => hp.put_adv' k st.at_ rfl hk)
  have f1 := h.frz 1
  clear h hr hl hg hd c2 c3 c4 c5
  generalize hat : st.at_ = a at *
  clear hat
  have hz : (⟨(c :: r).toArray⟩ : ByteArray).size = r.length + 1 := str_size (c :: r)
  have hix : (⟨(c :: r).toArray⟩ : ByteArray)[0].toNat = c.toNat := rfl
  have HR2 : Hid (st.rest.length = r.length + 2) := by show _ = _; have := HR2.out; simpa using this
  have hcl := c.toNat_lt
  have g110 : (((c.toNat : Nat) : Int) == 110) = false := by rw [beq_eq_false_iff_ne]; omega
  have g116 : (((c.toNat : Nat) : Int) == 116) = false := by rw [beq_eq_false_iff_ne]; omega
  have g120 : (((c.toNat : Nat) : Int) == 120) = false := by rw [beq_eq_false_iff_ne]; omega
  generalize c.toNat = n at *
  have b0 : (32 : Int) < (n : Int) := by omega
  have b1 : (n : Int) < 127 := by omega
  have b2 : (n : Int) < 97 := by omega
  have b3 : (n : Int) < 65 := by omega
  have b4 : ¬ (n : Int) < 48 := by omega
  have b5 : (57 : Int) < (n : Int) := by omega
  clear hno hk
  go_enter Tryz.func198, Tryz.ntmps198
  go_wp2_with fail
  go_quiet (fail)
  go_wp2_with fail
  go_quiet (fail)
  go_wp2_with fail
  go_quiet (fail)
  go_wp2_with fail
  go_ret
  exact ⟨rfl, HA.out _ (by repeat (first | exact HP.out | refine PAt.drew ?_ _)) 2 (by have := HR2.out; omega), (by repeat (first | exact Far.refl _ _ | refine Far.drew ?_ _ | refine Far.set ?_ _ _))⟩
set_option maxRecDepth 100000 in
set_option maxHeartbeats 4000000 in
theorem sl_ok3 (p : Nat) (s : List UInt8) (st : PS) (w : World) (h : PAt w p s st) (hs : s.length ≤ 65536) (c : UInt8) (r : List UInt8) (hno : c.toNat ≠ 110 ∧ c.toNat ≠ 116 ∧ c.toNat ≠ 120) (hk : 91 ≤ c.toNat ∧ c.toNat ≤ 96) (hr : st.rest = 92 :: (c :: r)) :
    Calls Tryz.prog 198 #[ptr p] w (OnePost p s w (st.adv 2, c.toNat)) := by
  obtain ⟨c0, c1, c2, c3, c4, c5⟩ := h.cells
  have hsz : (⟨s.toArray⟩ : ByteArray).size = s.length := str_size s
  obtain ⟨hl, hg, hd, ht⟩ := one_at w p s st h 92 (c :: r) hr
  have hidx := fun W => str_at s st.at_ hl W
  rw [hg] at hidx
  have hc1 : ((st.at_ : Nat) : Int) < (s.length : Nat) := by omega
  have hc2 : ¬ s.length ≤ st.at_ := by omega
  have hc3 : ((st.at_ : Nat) : Int) + 1 ≤ (s.length : Nat) := by omega
  have hf1 := fun W => strFrom s (st.at_ + 1) (by omega) W
  have hf2 := fun W => strFromAt s (st.at_ + 1) (by omega) W
  rw [hd, show ((st.at_ + 1 : Nat) : Int) = (st.at_ : Int) + 1 by omega] at hf1 hf2
  have hwr : IntKind.i64.wrap ((st.at_ : Int) + 1) = (st.at_ : Int) + 1 := by rw [IntKind.wrap_i64]; omega
  have HF := Lib.hid (fun W (hp : PAt W p s st) => psFail_any p s st W hp hs 2 (by omega))
  have HP := Lib.hid h
  have HR2 : Hid (st.rest.length = ((c :: r) : List UInt8).length + 1) := by show _ = _; rw [hr]; simp
  have HA := Lib.hid (fun W (hp : PAt W p s st) k (hk : k ≤ st.rest.length) => hp.put_adv' k st.at_ rfl hk)
  have f1 := h.frz 1
  clear h hr hl hg hd c2 c3 c4 c5
  generalize hat : st.at_ = a at *
  clear hat
  have hz : (⟨(c :: r).toArray⟩ : ByteArray).size = r.length + 1 := str_size (c :: r)
  have hix : (⟨(c :: r).toArray⟩ : ByteArray)[0].toNat = c.toNat := rfl
  have HR2 : Hid (st.rest.length = r.length + 2) := by show _ = _; have := HR2.out; simpa using this
  have hcl := c.toNat_lt
  have g110 : (((c.toNat : Nat) : Int) == 110) = false := by rw [beq_eq_false_iff_ne]; omega
  have g116 : (((c.toNat : Nat) : Int) == 116) = false := by rw [beq_eq_false_iff_ne]; omega
  have g120 : (((c.toNat : Nat) : Int) == 120) = false := by rw [beq_eq_false_iff_ne]; omega
  generalize c.toNat = n at *
  have b0 : (32 : Int) < (n : Int) := by omega
  have b1 : (n : Int) < 127 := by omega
  have b2 : (n : Int) < 97 := by omega
  have b3 : ¬ (n : Int) < 65 := by omega
  have b4 : (90 : Int) < (n : Int) := by omega
  have b5 : ¬ (n : Int) < 48 := by omega
  have b6 : (57 : Int) < (n : Int) := by omega
  clear hno hk
  go_enter Tryz.func198, Tryz.ntmps198
  go_wp2_with fail
  go_quiet (fail)
  go_wp2_with fail
  go_quiet (fail)
  go_wp2_with fail
  go_quiet (fail)
  go_wp2_with fail
  go_ret
  exact ⟨rfl, HA.out _ (by repeat (first | exact HP.out | refine PAt.drew ?_ _)) 2 (by have := HR2.out; omega), (by repeat (first | exact Far.refl _ _ | refine Far.drew ?_ _ | refine Far.set ?_ _ _))⟩
set_option maxRecDepth 100000 in
set_option maxHeartbeats 4000000 in
theorem sl_ok4 (p : Nat) (s : List UInt8) (st : PS) (w : World) (h : PAt w p s st) (hs : s.length ≤ 65536) (c : UInt8) (r : List UInt8) (hno : c.toNat ≠ 110 ∧ c.toNat ≠ 116 ∧ c.toNat ≠ 120) (hk : 123 ≤ c.toNat ∧ c.toNat ≤ 126) (hr : st.rest = 92 :: (c :: r)) :
    Calls Tryz.prog 198 #[ptr p] w (OnePost p s w (st.adv 2, c.toNat)) := by
  obtain ⟨c0, c1, c2, c3, c4, c5⟩ := h.cells
  have hsz : (⟨s.toArray⟩ : ByteArray).size = s.length := str_size s
  obtain ⟨hl, hg, hd, ht⟩ := one_at w p s st h 92 (c :: r) hr
  have hidx := fun W => str_at s st.at_ hl W
  rw [hg] at hidx
  have hc1 : ((st.at_ : Nat) : Int) < (s.length : Nat) := by omega
  have hc2 : ¬ s.length ≤ st.at_ := by omega
  have hc3 : ((st.at_ : Nat) : Int) + 1 ≤ (s.length : Nat) := by omega
  have hf1 := fun W => strFrom s (st.at_ + 1) (by omega) W
  have hf2 := fun W => strFromAt s (st.at_ + 1) (by omega) W
  rw [hd, show ((st.at_ + 1 : Nat) : Int) = (st.at_ : Int) + 1 by omega] at hf1 hf2
  have hwr : IntKind.i64.wrap ((st.at_ : Int) + 1) = (st.at_ : Int) + 1 := by rw [IntKind.wrap_i64]; omega
  have HF := Lib.hid (fun W (hp : PAt W p s st) => psFail_any p s st W hp hs 2 (by omega))
  have HP := Lib.hid h
  have HR2 : Hid (st.rest.length = ((c :: r) : List UInt8).length + 1) := by show _ = _; rw [hr]; simp
  have HA := Lib.hid (fun W (hp : PAt W p s st) k (hk : k ≤ st.rest.length) => hp.put_adv' k st.at_ rfl hk)
  have f1 := h.frz 1
  clear h hr hl hg hd c2 c3 c4 c5
  generalize hat : st.at_ = a at *
  clear hat
  have hz : (⟨(c :: r).toArray⟩ : ByteArray).size = r.length + 1 := str_size (c :: r)
  have hix : (⟨(c :: r).toArray⟩ : ByteArray)[0].toNat = c.toNat := rfl
  have HR2 : Hid (st.rest.length = r.length + 2) := by show _ = _; have := HR2.out; simpa using this
  have hcl := c.toNat_lt
  have g110 : (((c.toNat : Nat) : Int) == 110) = false := by rw [beq_eq_false_iff_ne]; omega
  have g116 : (((c.toNat : Nat) : Int) == 116) = false := by rw [beq_eq_false_iff_ne]; omega
  have g120 : (((c.toNat : Nat) : Int) == 120) = false := by rw [beq_eq_false_iff_ne]; omega
  generalize c.toNat = n at *
  have b0 : (32 : Int) < (n : Int) := by omega
  have b1 : (n : Int) < 127 := by omega
  have b2 : ¬ (n : Int) < 97 := by omega
  have b3 : (122 : Int) < (n : Int) := by omega
  have b4 : ¬ (n : Int) < 65 := by omega
  have b5 : (90 : Int) < (n : Int) := by omega
  have b6 : ¬ (n : Int) < 48 := by omega
  have b7 : (57 : Int) < (n : Int) := by omega
  clear hno hk
  go_enter Tryz.func198, Tryz.ntmps198
  go_wp2_with fail
  go_quiet (fail)
  go_wp2_with fail
  go_quiet (fail)
  go_wp2_with fail
  go_quiet (fail)
  go_wp2_with fail
  go_ret
  exact ⟨rfl, HA.out _ (by repeat (first | exact HP.out | refine PAt.drew ?_ _)) 2 (by have := HR2.out; omega), (by repeat (first | exact Far.refl _ _ | refine Far.drew ?_ _ | refine Far.set ?_ _ _))⟩
end Go.Proofs.YticpjjmacmmpjaaGreatDoor
