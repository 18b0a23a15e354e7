/-
  A byte that is written otherwise, behind a backslash, read: walked through the program (the end, a line's end, a tab, a number).
-/
import Derived.Test.YticpjjmacmmpjaaGreatDoorPsO
set_option linter.unusedSimpArgs false
set_option linter.unusedVariables false
set_option maxRecDepth 100000
set_option linter.unnecessarySimpa false
namespace Go.Proofs.YticpjjmacmmpjaaGreatDoor
open Go.RowKit
set_option maxRecDepth 100000 in
set_option maxHeartbeats 4000000 in
theorem slash_nil (p : Nat) (s : List UInt8) (st : PS) (w : World) (h : PAt w p s st) (hs : s.length ≤ 65536) (hr : st.rest = 92 :: []) :
    Calls Tryz.prog 198 #[ptr p] w (OnePost p s w (st.fail 2, 0)) := by
  obtain ⟨c0, c1, c2, c3, c4, c5⟩ := h.cells
  have hsz : (⟨s.toArray⟩ : ByteArray).size = s.length := str_size s
  obtain ⟨hl, hg, hd, ht⟩ := one_at w p s st h 92 [] hr
  have hidx := fun W => str_at s st.at_ hl W
  rw [hg] at hidx
  have hc1 : ((st.at_ : Nat) : Int) < (s.length : Nat) := by omega
  have hc2 : ¬ s.length ≤ st.at_ := by omega
  have hc3 : ((st.at_ : Nat) : Int) + 1 ≤ (s.length : Nat) := by omega
  have hf1 := fun W => strFrom s (st.at_ + 1) (by omega) W
  have hf2 := fun W => strFromAt s (st.at_ + 1) (by omega) W
  rw [hd, show ((st.at_ + 1 : Nat) : Int) = (st.at_ : Int) + 1 by omega] at hf1 hf2
  have hwr : IntKind.i64.wrap ((st.at_ : Int) + 1) = (st.at_ : Int) + 1 := by rw [IntKind.wrap_i64]; omega
  have HF := Lib.hid (fun W (hp : PAt W p s st) => psFail_any p s st W hp hs 2 (by omega))
  have HP := Lib.hid h
  have HR2 : Hid (st.rest.length = ([] : List UInt8).length + 1) := by show _ = _; rw [hr]; simp
  have HA := Lib.hid (fun W (hp : PAt W p s st) k (hk : k ≤ st.rest.length) => hp.put_adv' k st.at_ rfl hk)
  have f1 := h.frz 1
  clear h hr hl hg hd c2 c3 c4 c5
  generalize hat : st.at_ = a at *
  clear hat
  go_enter Tryz.func198, Tryz.ntmps198
  go_wp2_with fail
  go_quiet (fail)
  go_wp2_with fail
  go_quiet (fail)
  go_wp2_with fail
  go_quiet (fail)
  go_wp2_with fail
  refine (HF.out _ (by repeat (first | exact HP.out | refine PAt.drew ?_ _))).mono ?_
  rintro e w2 ⟨rfl, hp2, hf2⟩
  go_wp2_with fail
  go_ret
  exact ⟨rfl, hp2, (by repeat (first | exact Far.refl _ _ | refine Far.drew ?_ _) : Far p w _).trans hf2⟩
set_option maxRecDepth 100000 in
set_option maxHeartbeats 4000000 in
theorem slash_n (p : Nat) (s : List UInt8) (st : PS) (w : World) (h : PAt w p s st) (hs : s.length ≤ 65536) (r : List UInt8) (hr : st.rest = 92 :: (110 :: r)) :
    Calls Tryz.prog 198 #[ptr p] w (OnePost p s w (st.adv 2, 10)) := by
  obtain ⟨c0, c1, c2, c3, c4, c5⟩ := h.cells
  have hsz : (⟨s.toArray⟩ : ByteArray).size = s.length := str_size s
  obtain ⟨hl, hg, hd, ht⟩ := one_at w p s st h 92 (110 :: r) hr
  have hidx := fun W => str_at s st.at_ hl W
  rw [hg] at hidx
  have hc1 : ((st.at_ : Nat) : Int) < (s.length : Nat) := by omega
  have hc2 : ¬ s.length ≤ st.at_ := by omega
  have hc3 : ((st.at_ : Nat) : Int) + 1 ≤ (s.length : Nat) := by omega
  have hf1 := fun W => strFrom s (st.at_ + 1) (by omega) W
  have hf2 := fun W => strFromAt s (st.at_ + 1) (by omega) W
  rw [hd, show ((st.at_ + 1 : Nat) : Int) = (st.at_ : Int) + 1 by omega] at hf1 hf2
  have hwr : IntKind.i64.wrap ((st.at_ : Int) + 1) = (st.at_ : Int) + 1 := by rw [IntKind.wrap_i64]; omega
  have HF := Lib.hid (fun W (hp : PAt W p s st) => psFail_any p s st W hp hs 2 (by omega))
  have HP := Lib.hid h
  have HR2 : Hid (st.rest.length = ((110 :: r) : List UInt8).length + 1) := by show _ = _; rw [hr]; simp
  have HA := Lib.hid (fun W (hp : PAt W p s st) k (hk : k ≤ st.rest.length) => hp.put_adv' k st.at_ rfl hk)
  have f1 := h.frz 1
  clear h hr hl hg hd c2 c3 c4 c5
  generalize hat : st.at_ = a at *
  clear hat
  have hz : (⟨(110 :: r).toArray⟩ : ByteArray).size = r.length + 1 := str_size (110 :: r)
  have HR2 : Hid (st.rest.length = r.length + 2) := by show _ = _; have := HR2.out; simpa using this
  go_enter Tryz.func198, Tryz.ntmps198
  go_wp2_with fail
  go_quiet (fail)
  go_wp2_with fail
  go_quiet (fail)
  go_wp2_with fail
  go_quiet (fail)
  go_wp2_with fail
  go_ret
  exact ⟨rfl, HA.out _ (by repeat (first | exact HP.out | refine PAt.drew ?_ _)) 2 (by have := HR2.out; omega), (by repeat (first | exact Far.refl _ _ | refine Far.drew ?_ _ | refine Far.set ?_ _ _))⟩
set_option maxRecDepth 100000 in
set_option maxHeartbeats 4000000 in
theorem slash_t (p : Nat) (s : List UInt8) (st : PS) (w : World) (h : PAt w p s st) (hs : s.length ≤ 65536) (r : List UInt8) (hr : st.rest = 92 :: (116 :: r)) :
    Calls Tryz.prog 198 #[ptr p] w (OnePost p s w (st.adv 2, 9)) := by
  obtain ⟨c0, c1, c2, c3, c4, c5⟩ := h.cells
  have hsz : (⟨s.toArray⟩ : ByteArray).size = s.length := str_size s
  obtain ⟨hl, hg, hd, ht⟩ := one_at w p s st h 92 (116 :: r) hr
  have hidx := fun W => str_at s st.at_ hl W
  rw [hg] at hidx
  have hc1 : ((st.at_ : Nat) : Int) < (s.length : Nat) := by omega
  have hc2 : ¬ s.length ≤ st.at_ := by omega
  have hc3 : ((st.at_ : Nat) : Int) + 1 ≤ (s.length : Nat) := by omega
  have hf1 := fun W => strFrom s (st.at_ + 1) (by omega) W
  have hf2 := fun W => strFromAt s (st.at_ + 1) (by omega) W
  rw [hd, show ((st.at_ + 1 : Nat) : Int) = (st.at_ : Int) + 1 by omega] at hf1 hf2
  have hwr : IntKind.i64.wrap ((st.at_ : Int) + 1) = (st.at_ : Int) + 1 := by rw [IntKind.wrap_i64]; omega
  have HF := Lib.hid (fun W (hp : PAt W p s st) => psFail_any p s st W hp hs 2 (by omega))
  have HP := Lib.hid h
  have HR2 : Hid (st.rest.length = ((116 :: r) : List UInt8).length + 1) := by show _ = _; rw [hr]; simp
  have HA := Lib.hid (fun W (hp : PAt W p s st) k (hk : k ≤ st.rest.length) => hp.put_adv' k st.at_ rfl hk)
  have f1 := h.frz 1
  clear h hr hl hg hd c2 c3 c4 c5
  generalize hat : st.at_ = a at *
  clear hat
  have hz : (⟨(116 :: r).toArray⟩ : ByteArray).size = r.length + 1 := str_size (116 :: r)
  have HR2 : Hid (st.rest.length = r.length + 2) := by show _ = _; have := HR2.out; simpa using this
  go_enter Tryz.func198, Tryz.ntmps198
  go_wp2_with fail
  go_quiet (fail)
  go_wp2_with fail
  go_quiet (fail)
  go_wp2_with fail
  go_quiet (fail)
  go_wp2_with fail
  go_ret
  exact ⟨rfl, HA.out _ (by repeat (first | exact HP.out | refine PAt.drew ?_ _)) 2 (by have := HR2.out; omega), (by repeat (first | exact Far.refl _ _ | refine Far.drew ?_ _ | refine Far.set ?_ _ _))⟩
set_option maxRecDepth 100000 in
set_option maxHeartbeats 4000000 in
theorem slash_x_short (p : Nat) (s : List UInt8) (st : PS) (w : World) (h : PAt w p s st) (hs : s.length ≤ 65536) (r : List UInt8) (h3 : r.length < 2) (hr : st.rest = 92 :: (120 :: r)) :
    Calls Tryz.prog 198 #[ptr p] w (OnePost p s w (st.fail 2, 0)) := by
  obtain ⟨c0, c1, c2, c3, c4, c5⟩ := h.cells
  have hsz : (⟨s.toArray⟩ : ByteArray).size = s.length := str_size s
  obtain ⟨hl, hg, hd, ht⟩ := one_at w p s st h 92 (120 :: r) hr
  have hidx := fun W => str_at s st.at_ hl W
  rw [hg] at hidx
  have hc1 : ((st.at_ : Nat) : Int) < (s.length : Nat) := by omega
  have hc2 : ¬ s.length ≤ st.at_ := by omega
  have hc3 : ((st.at_ : Nat) : Int) + 1 ≤ (s.length : Nat) := by omega
  have hf1 := fun W => strFrom s (st.at_ + 1) (by omega) W
  have hf2 := fun W => strFromAt s (st.at_ + 1) (by omega) W
  rw [hd, show ((st.at_ + 1 : Nat) : Int) = (st.at_ : Int) + 1 by omega] at hf1 hf2
  have hwr : IntKind.i64.wrap ((st.at_ : Int) + 1) = (st.at_ : Int) + 1 := by rw [IntKind.wrap_i64]; omega
  have HF := Lib.hid (fun W (hp : PAt W p s st) => psFail_any p s st W hp hs 2 (by omega))
  have HP := Lib.hid h
  have HR2 : Hid (st.rest.length = ((120 :: r) : List UInt8).length + 1) := by show _ = _; rw [hr]; simp
  have HA := Lib.hid (fun W (hp : PAt W p s st) k (hk : k ≤ st.rest.length) => hp.put_adv' k st.at_ rfl hk)
  have f1 := h.frz 1
  clear h hr hl hg hd c2 c3 c4 c5
  generalize hat : st.at_ = a at *
  clear hat
  have hz : (⟨(120 :: r).toArray⟩ : ByteArray).size = r.length + 1 := str_size (120 :: r)
  have g3 : ¬ (3 : Int) ≤ ((r.length : Nat) : Int) + 1 := by omega
  have g4 : ¬ 3 ≤ r.length + 1 := by omega
  have g5 : ¬ 2 ≤ r.length := by omega
  go_enter Tryz.func198, Tryz.ntmps198
  go_wp2_with fail
  go_quiet (fail)
  go_wp2_with fail
  go_quiet (fail)
  go_wp2_with fail
  go_quiet (fail)
  go_wp2_with fail
  refine (HF.out _ (by repeat (first | exact HP.out | refine PAt.drew ?_ _))).mono ?_
  rintro e w2 ⟨rfl, hp2, hf2⟩
  go_wp2_with fail
  go_ret
  exact ⟨rfl, hp2, (by repeat (first | exact Far.refl _ _ | refine Far.drew ?_ _) : Far p w _).trans hf2⟩
theorem hex_or : ∀ x y : Nat, x < 16 → y < 16 → bits .or .i64 ((x : Int) * 16) (y : Int) % 256 = ((x * 16 + y : Nat) : Int) := by
  have key : ∀ x : Nat, x < 16 → ∀ y : Nat, y < 16 → bits .or .i64 ((x : Int) * 16) (y : Int) % 256 = ((x * 16 + y : Nat) : Int) := by decide +kernel
  exact fun x y hx hy => key x hx y hy
set_option maxRecDepth 100000 in
set_option maxHeartbeats 4000000 in
theorem slash_hex (p : Nat) (s : List UInt8) (st : PS) (w : World) (h : PAt w p s st) (hs : s.length ≤ 65536) (h1 h2 : UInt8) (r : List UInt8) (hx1 : PS.isHex h1 = true) (hx2 : PS.isHex h2 = true) (hr : st.rest = 92 :: (120 :: h1 :: h2 :: r)) :
    Calls Tryz.prog 198 #[ptr p] w (OnePost p s w (st.adv 4, PS.hexV h1 * 16 + PS.hexV h2)) := by
  obtain ⟨c0, c1, c2, c3, c4, c5⟩ := h.cells
  have hsz : (⟨s.toArray⟩ : ByteArray).size = s.length := str_size s
  obtain ⟨hl, hg, hd, ht⟩ := one_at w p s st h 92 (120 :: h1 :: h2 :: r) hr
  have hidx := fun W => str_at s st.at_ hl W
  rw [hg] at hidx
  have hc1 : ((st.at_ : Nat) : Int) < (s.length : Nat) := by omega
  have hc2 : ¬ s.length ≤ st.at_ := by omega
  have hc3 : ((st.at_ : Nat) : Int) + 1 ≤ (s.length : Nat) := by omega
  have hf1 := fun W => strFrom s (st.at_ + 1) (by omega) W
  have hf2 := fun W => strFromAt s (st.at_ + 1) (by omega) W
  rw [hd, show ((st.at_ + 1 : Nat) : Int) = (st.at_ : Int) + 1 by omega] at hf1 hf2
  have hwr : IntKind.i64.wrap ((st.at_ : Int) + 1) = (st.at_ : Int) + 1 := by rw [IntKind.wrap_i64]; omega
  have HF := Lib.hid (fun W (hp : PAt W p s st) => psFail_any p s st W hp hs 2 (by omega))
  have HP := Lib.hid h
  have HR2 : Hid (st.rest.length = ((120 :: h1 :: h2 :: r) : List UInt8).length + 1) := by show _ = _; rw [hr]; simp
  have HA := Lib.hid (fun W (hp : PAt W p s st) k (hk : k ≤ st.rest.length) => hp.put_adv' k st.at_ rfl hk)
  have f1 := h.frz 1
  clear h hr hl hg hd c2 c3 c4 c5
  generalize hat : st.at_ = a at *
  clear hat
  have hz : (⟨(120 :: h1 :: h2 :: r).toArray⟩ : ByteArray).size = (h1 :: h2 :: r).length + 1 := str_size (120 :: h1 :: h2 :: r)
  have hi1 := fun W => str_at (120 :: h1 :: h2 :: r) 1 (by simp) W
  have hi2 := fun W => str_at (120 :: h1 :: h2 :: r) 2 (by simp) W
  have HD1 := Lib.hid (fun W => digit_any h1.toNat h1.toNat_lt W)
  have HD2 := Lib.hid (fun W => digit_any h2.toNat h2.toNat_lt W)
  have g3 : (3 : Int) ≤ (((h1 :: h2 :: r).length : Nat) : Int) + 1 := by simp; omega
  have hb1 : h1.toNat.toUInt8 = h1 := by simp
  have hb2 : h2.toNat.toUInt8 = h2 := by simp
  rw [hb1] at HD1
  rw [hb2] at HD2
  have hx4 : 4 ≤ st.rest.length := by rw [HR2.out]; simp
  have HR2 := Lib.hid hx4
  clear hb1 hb2 hx4
  have hv1 := hexV_idx h1 hx1
  have hl1 := PS.hexV_lt hx1
  rw [hv1] at HD1
  have gd1 : (0 : Int) ≤ ((PS.hexV h1 : Nat) : Int) := by omega
  have hv2 := hexV_idx h2 hx2
  have hl2 := PS.hexV_lt hx2
  rw [hv2] at HD2
  have gd2 : (0 : Int) ≤ ((PS.hexV h2 : Nat) : Int) := by omega
  clear hv1 hv2 hx1 hx2
  generalize PS.hexV h1 = x at *
  generalize PS.hexV h2 = y at *
  go_enter Tryz.func198, Tryz.ntmps198
  go_wp2_with fail
  go_quiet (fail)
  go_wp2_with fail
  go_quiet (fail)
  go_wp2_with fail
  go_quiet (fail)
  go_wp2_with fail
  refine (HD1.out _).mono ?_
  rintro e w' ⟨rfl, rfl⟩
  go_wp2_with fail
  refine (HD2.out _).mono ?_
  rintro e w' ⟨rfl, rfl⟩
  go_wp2_with fail
  go_quiet (first | (exact Calls.quiet_of_same (HD1.out _)) | (exact Calls.quiet_of_same (HD2.out _)))
  go_wp2_with fail
  go_ret
  exact ⟨congrArg (fun z => Ending.returned (.int .u8 z)) (hex_or x y hl1 hl2), (HA.out _ (by repeat (first | exact HP.out | refine PAt.drew ?_ _)) 4 HR2.out).drew _, (by repeat (first | exact Far.refl _ _ | refine Far.drew ?_ _ | refine Far.set ?_ _ _))⟩
set_option maxRecDepth 100000 in
set_option maxHeartbeats 4000000 in
theorem slash_hex1 (p : Nat) (s : List UInt8) (st : PS) (w : World) (h : PAt w p s st) (hs : s.length ≤ 65536) (h1 h2 : UInt8) (r : List UInt8) (hx1 : PS.isHex h1 = true) (hx2 : PS.isHex h2 = false) (hr : st.rest = 92 :: (120 :: h1 :: h2 :: r)) :
    Calls Tryz.prog 198 #[ptr p] w (OnePost p s w (st.fail 2, 0)) := by
  obtain ⟨c0, c1, c2, c3, c4, c5⟩ := h.cells
  have hsz : (⟨s.toArray⟩ : ByteArray).size = s.length := str_size s
  obtain ⟨hl, hg, hd, ht⟩ := one_at w p s st h 92 (120 :: h1 :: h2 :: r) hr
  have hidx := fun W => str_at s st.at_ hl W
  rw [hg] at hidx
  have hc1 : ((st.at_ : Nat) : Int) < (s.length : Nat) := by omega
  have hc2 : ¬ s.length ≤ st.at_ := by omega
  have hc3 : ((st.at_ : Nat) : Int) + 1 ≤ (s.length : Nat) := by omega
  have hf1 := fun W => strFrom s (st.at_ + 1) (by omega) W
  have hf2 := fun W => strFromAt s (st.at_ + 1) (by omega) W
  rw [hd, show ((st.at_ + 1 : Nat) : Int) = (st.at_ : Int) + 1 by omega] at hf1 hf2
  have hwr : IntKind.i64.wrap ((st.at_ : Int) + 1) = (st.at_ : Int) + 1 := by rw [IntKind.wrap_i64]; omega
  have HF := Lib.hid (fun W (hp : PAt W p s st) => psFail_any p s st W hp hs 2 (by omega))
  have HP := Lib.hid h
  have HR2 : Hid (st.rest.length = ((120 :: h1 :: h2 :: r) : List UInt8).length + 1) := by show _ = _; rw [hr]; simp
  have HA := Lib.hid (fun W (hp : PAt W p s st) k (hk : k ≤ st.rest.length) => hp.put_adv' k st.at_ rfl hk)
  have f1 := h.frz 1
  clear h hr hl hg hd c2 c3 c4 c5
  generalize hat : st.at_ = a at *
  clear hat
  have hz : (⟨(120 :: h1 :: h2 :: r).toArray⟩ : ByteArray).size = (h1 :: h2 :: r).length + 1 := str_size (120 :: h1 :: h2 :: r)
  have hi1 := fun W => str_at (120 :: h1 :: h2 :: r) 1 (by simp) W
  have hi2 := fun W => str_at (120 :: h1 :: h2 :: r) 2 (by simp) W
  have HD1 := Lib.hid (fun W => digit_any h1.toNat h1.toNat_lt W)
  have HD2 := Lib.hid (fun W => digit_any h2.toNat h2.toNat_lt W)
  have g3 : (3 : Int) ≤ (((h1 :: h2 :: r).length : Nat) : Int) + 1 := by simp; omega
  have hb1 : h1.toNat.toUInt8 = h1 := by simp
  have hb2 : h2.toNat.toUInt8 = h2 := by simp
  rw [hb1] at HD1
  rw [hb2] at HD2
  have hx4 : 4 ≤ st.rest.length := by rw [HR2.out]; simp
  have HR2 := Lib.hid hx4
  clear hb1 hb2 hx4
  have hv1 := hexV_idx h1 hx1
  have hl1 := PS.hexV_lt hx1
  rw [hv1] at HD1
  have gd1 : (0 : Int) ≤ ((PS.hexV h1 : Nat) : Int) := by omega
  have hv2 := hexV_neg h2 hx2
  clear hv1 hx1 hx2
  generalize PS.hexV h1 = x at *
  generalize Lib.indexByte PS.hexL h2 = y at *
  have gd2 : ¬ (0 : Int) ≤ y := by omega
  go_enter Tryz.func198, Tryz.ntmps198
  go_wp2_with fail
  go_quiet (fail)
  go_wp2_with fail
  go_quiet (fail)
  go_wp2_with fail
  go_quiet (fail)
  go_wp2_with fail
  refine (HD1.out _).mono ?_
  rintro e w' ⟨rfl, rfl⟩
  go_wp2_with fail
  refine (HD2.out _).mono ?_
  rintro e w' ⟨rfl, rfl⟩
  go_wp2_with fail
  refine (HF.out _ (by repeat (first | exact HP.out | refine PAt.drew ?_ _))).mono ?_
  rintro e w2 ⟨rfl, hp2, hf2⟩
  go_wp2_with fail
  go_ret
  exact ⟨rfl, hp2, (by repeat (first | exact Far.refl _ _ | refine Far.drew ?_ _) : Far p w _).trans hf2⟩
set_option maxRecDepth 100000 in
set_option maxHeartbeats 4000000 in
theorem slash_hex0 (p : Nat) (s : List UInt8) (st : PS) (w : World) (h : PAt w p s st) (hs : s.length ≤ 65536) (h1 h2 : UInt8) (r : List UInt8) (hx1 : PS.isHex h1 = false) (hr : st.rest = 92 :: (120 :: h1 :: h2 :: r)) :
    Calls Tryz.prog 198 #[ptr p] w (OnePost p s w (st.fail 2, 0)) := by
  obtain ⟨c0, c1, c2, c3, c4, c5⟩ := h.cells
  have hsz : (⟨s.toArray⟩ : ByteArray).size = s.length := str_size s
  obtain ⟨hl, hg, hd, ht⟩ := one_at w p s st h 92 (120 :: h1 :: h2 :: r) hr
  have hidx := fun W => str_at s st.at_ hl W
  rw [hg] at hidx
  have hc1 : ((st.at_ : Nat) : Int) < (s.length : Nat) := by omega
  have hc2 : ¬ s.length ≤ st.at_ := by omega
  have hc3 : ((st.at_ : Nat) : Int) + 1 ≤ (s.length : Nat) := by omega
  have hf1 := fun W => strFrom s (st.at_ + 1) (by omega) W
  have hf2 := fun W => strFromAt s (st.at_ + 1) (by omega) W
  rw [hd, show ((st.at_ + 1 : Nat) : Int) = (st.at_ : Int) + 1 by omega] at hf1 hf2
  have hwr : IntKind.i64.wrap ((st.at_ : Int) + 1) = (st.at_ : Int) + 1 := by rw [IntKind.wrap_i64]; omega
  have HF := Lib.hid (fun W (hp : PAt W p s st) => psFail_any p s st W hp hs 2 (by omega))
  have HP := Lib.hid h
  have HR2 : Hid (st.rest.length = ((120 :: h1 :: h2 :: r) : List UInt8).length + 1) := by show _ = _; rw [hr]; simp
  have HA := Lib.hid (fun W (hp : PAt W p s st) k (hk : k ≤ st.rest.length) => hp.put_adv' k st.at_ rfl hk)
  have f1 := h.frz 1
  clear h hr hl hg hd c2 c3 c4 c5
  generalize hat : st.at_ = a at *
  clear hat
  have hz : (⟨(120 :: h1 :: h2 :: r).toArray⟩ : ByteArray).size = (h1 :: h2 :: r).length + 1 := str_size (120 :: h1 :: h2 :: r)
  have hi1 := fun W => str_at (120 :: h1 :: h2 :: r) 1 (by simp) W
  have hi2 := fun W => str_at (120 :: h1 :: h2 :: r) 2 (by simp) W
  have HD1 := Lib.hid (fun W => digit_any h1.toNat h1.toNat_lt W)
  have HD2 := Lib.hid (fun W => digit_any h2.toNat h2.toNat_lt W)
  have g3 : (3 : Int) ≤ (((h1 :: h2 :: r).length : Nat) : Int) + 1 := by simp; omega
  have hb1 : h1.toNat.toUInt8 = h1 := by simp
  have hb2 : h2.toNat.toUInt8 = h2 := by simp
  rw [hb1] at HD1
  rw [hb2] at HD2
  have hx4 : 4 ≤ st.rest.length := by rw [HR2.out]; simp
  have HR2 := Lib.hid hx4
  clear hb1 hb2 hx4
  have hv1 := hexV_neg h1 hx1
  clear hx1
  generalize Lib.indexByte PS.hexL h1 = x at *
  have gd1 : ¬ (0 : Int) ≤ x := by omega
  go_enter Tryz.func198, Tryz.ntmps198
  go_wp2_with fail
  go_quiet (fail)
  go_wp2_with fail
  go_quiet (fail)
  go_wp2_with fail
  go_quiet (fail)
  go_wp2_with fail
  refine (HD1.out _).mono ?_
  rintro e w' ⟨rfl, rfl⟩
  go_wp2_with fail
  refine (HF.out _ (by repeat (first | exact HP.out | refine PAt.drew ?_ _))).mono ?_
  rintro e w2 ⟨rfl, hp2, hf2⟩
  go_wp2_with fail
  go_ret
  exact ⟨rfl, hp2, (by repeat (first | exact Far.refl _ _ | refine Far.drew ?_ _) : Far p w _).trans hf2⟩
end Go.Proofs.YticpjjmacmmpjaaGreatDoor
