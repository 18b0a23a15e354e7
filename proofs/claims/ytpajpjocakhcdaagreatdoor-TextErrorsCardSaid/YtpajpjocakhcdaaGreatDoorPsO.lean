/-
  A byte that stands for itself, or is written otherwise, read: walked through the program.
-/
import Derived.Test.YtpajpjocakhcdaaGreatDoorPsW
set_option linter.unusedSimpArgs false
set_option linter.unusedVariables false
set_option maxRecDepth 100000
set_option linter.unnecessarySimpa false
namespace Go.Proofs.YtpajpjocakhcdaaGreatDoor
open Go.RowKit
theorem strFrom (l : List UInt8) (k : Nat) (h : k ≤ l.length) (w : World) : (Instr.slice 9 (.string ⟨l.toArray⟩) (some (.int .i64 (k : Int))) none none).run Tryz.prog w = .ok (.string ⟨(l.drop k).toArray⟩) w := by
  have hs : (⟨l.toArray⟩ : ByteArray).size = l.length := str_size l
  have e : (⟨l.toArray⟩ : ByteArray).extract k l.length = ⟨(l.drop k).toArray⟩ := by
    refine ByteArray.ext ?_
    rw [ByteArray.data_extract]
    apply Array.toList_inj.1
    simp [List.take_of_length_le]
  simp [Instr.slice, run_underlying Tryz.underlying9, Instr.sliceBounds, hs, go_sem, h, e]
theorem strFromAt (l : List UInt8) (k : Nat) (h : k ≤ l.length) (w : World) : (Instr.sliceAt 9 (.string ⟨l.toArray⟩) (some (.int .i64 (k : Int))) none none).run Tryz.prog w = .ok (.string ⟨(l.drop k).toArray⟩) w := by
  rw [run_sliceAt_string _ _ _ _ _ _ Tryz.underlying9]; exact strFrom l k h w
theorem indexByte_idx (l : List UInt8) (c : UInt8) (h : l.contains c = true) : Lib.indexByte l c = (l.idxOf c : Nat) := by
  induction l with
  | nil => simp at h
  | cons a l ih =>
    rw [Lib.indexByte, List.idxOf_cons]
    by_cases e : a = c
    · simp [e]
    · have h' : l.contains c = true := by
        rw [List.contains_cons] at h
        have : (c == a) = false := by simp; exact fun e2 => e e2.symm
        simpa [this] using h
      have hi := ih h'
      have hb : (a == c) = false := by simpa using e
      have : (((l.idxOf c : Nat) : Int) == -1) = false := by rw [beq_eq_false_iff_ne]; omega
      rw [hi]
      simp [hb, this]
theorem digit_any (c : Nat) (hc : c < 256) (w : World) : Calls Tryz.prog 161 #[.int .u8 (c : Int)] w fun e w' => e = .returned (.int .i64 (Lib.indexByte PS.hexL c.toUInt8)) ∧ w' = w := by
  have HI := Lib.hid (IndexByte_any ⟨#[48, 49, 50, 51, 52, 53, 54, 55, 56, 57, 97, 98, 99, 100, 101, 102]⟩ (c : Int) w)
  have HE : Hid (Lib.indexByte PS.hexL c.toUInt8 = Lib.indexByte (⟨#[48, 49, 50, 51, 52, 53, 54, 55, 56, 57, 97, 98, 99, 100, 101, 102]⟩ : ByteArray).data.toList ((c : Int).toNat.toUInt8)) := by show _ = _; rw [Int.toNat_natCast]; rfl
  rw [HE.out]
  generalize Lib.indexByte (⟨#[48, 49, 50, 51, 52, 53, 54, 55, 56, 57, 97, 98, 99, 100, 101, 102]⟩ : ByteArray).data.toList ((c : Int).toNat.toUInt8) = r at *
  go_enter Tryz.func161, Tryz.ntmps161
  go_wp2_with fail
  refine HI.out.mono ?_
  rintro e w' ⟨rfl, rfl⟩
  go_wp2_with fail
  go_ret
  exact ⟨rfl, rfl⟩
/-- what reading one byte leaves -/
def OnePost (p : Nat) (s : List UInt8) (w : World) (r : PS × Nat) (e : Ending) (w' : World) : Prop := e = .returned (.int .u8 (r.2 : Nat)) ∧ PAt w' p s r.1 ∧ Far p w w'
set_option maxRecDepth 100000 in
theorem one_nil (p : Nat) (s : List UInt8) (st : PS) (w : World) (h : PAt w p s st) (hs : s.length ≤ 65536) (hr : st.rest = []) :
    Calls Tryz.prog 159 #[ptr p] w (OnePost p s w st.one) := by
  have HO : Hid (st.one = (st.fail 2, 0)) := by show _ = _; unfold PS.one; rw [hr]
  rw [HO.out]
  obtain ⟨c0, c1, c2, c3, c4, c5⟩ := h.cells
  have hsz : (⟨s.toArray⟩ : ByteArray).size = s.length := str_size s
  have ht := h.tot
  have hl : st.at_ = s.length := by rw [hr] at ht; simpa using ht
  have hc1 : ¬ ((st.at_ : Nat) : Int) < (s.length : Nat) := by omega
  have hc2 : ¬ st.at_ < s.length := by omega
  have hc3 : ((s.length : Nat) : Int) ≤ ((st.at_ : Nat) : Int) := by omega
  have hc4 : s.length ≤ st.at_ := by omega
  have HF := Lib.hid (fun n => psFail_any p s st (w.drewN n) (h.drew n) hs 2 (by omega))
  clear h ht hr hl c2 c3 c4 c5
  generalize st.at_ = a at *
  go_enter Tryz.func159, Tryz.ntmps159
  go_wp2_with fail
  go_quiet (fail)
  go_wp2_with fail
  refine (HF.out _).mono ?_
  rintro e w2 ⟨rfl, hp2, hf2⟩
  go_wp2_with fail
  go_ret
  exact ⟨rfl, hp2, ((Far.refl _ _).drew _).trans hf2⟩
/-- ahead of the last fail -/
theorem one_at (w : World) (p : Nat) (s : List UInt8) (st : PS) (h : PAt w p s st) (b : UInt8) (r : List UInt8) (hr : st.rest = b :: r) : st.at_ < s.length ∧ s.getD st.at_ 0 = b ∧ s.drop (st.at_ + 1) = r ∧ st.at_ + 1 + r.length = s.length := by
  have ht := h.tot
  have hd := h.rest
  rw [hr] at ht hd
  simp only [List.length_cons] at ht
  refine ⟨by omega, ?_, ?_, by omega⟩
  · have : (s.drop st.at_).getD 0 0 = b := by rw [← hd]; rfl
    rw [drop_getD] at this; simpa using this
  · have : (s.drop st.at_).drop 1 = r := by rw [← hd]; rfl
    rw [List.drop_drop] at this; exact this
set_option maxRecDepth 100000 in
set_option maxHeartbeats 2000000 in
theorem one_plain (p : Nat) (s : List UInt8) (st : PS) (w : World) (h : PAt w p s st) (hs : s.length ≤ 65536) (b : UInt8) (r : List UInt8) (hr : st.rest = b :: r) (hb : b ≠ 92) :
    Calls Tryz.prog 159 #[ptr p] w (OnePost p s w st.one) := by
  have HO : Hid (st.one = if PS.plainBad b then (st.fail 2, 0) else (st.adv 1, b.toNat)) := by show _ = _; unfold PS.one; rw [hr]; simp only; rw [if_pos hb]
  obtain ⟨c0, c1, c2, c3, c4, c5⟩ := h.cells
  have hsz : (⟨s.toArray⟩ : ByteArray).size = s.length := str_size s
  obtain ⟨hl, hg, hd, ht⟩ := one_at w p s st h b r hr
  have hidx := fun W => str_at s st.at_ hl W
  rw [hg] at hidx
  have hc1 : ((st.at_ : Nat) : Int) < (s.length : Nat) := by omega
  have hc2 : ¬ s.length ≤ st.at_ := by omega
  have HF := Lib.hid (fun n => psFail_any p s st (w.drewN n) (h.drew n) hs 2 (by omega))
  have HP := Lib.hid h
  have hk1 : 1 ≤ st.rest.length := by rw [hr]; simp
  have HA := Lib.hid (fun W (hp : PAt W p s st) => hp.put_adv' 1 st.at_ rfl hk1)
  have h92 : (((b.toNat : Nat) : Int) == 92) = false := by rw [beq_eq_false_iff_ne]; intro e; exact hb (UInt8.toNat_inj.1 (by show b.toNat = 92; omega))
  have hbl := b.toNat_lt
  have HIX : Hid (∀ W, Calls Tryz.prog 69 #[.string ⟨#[40, 41, 91, 93, 124, 38, 45, 42, 43, 63, 46, 92, 32, 9, 10, 13]⟩, .int .u8 (b.toNat : Nat)] W fun e w' => e = .returned (.int .i64 (Lib.indexByte specials b)) ∧ w' = W) := fun W => by
    have := IndexByte_any ⟨#[40, 41, 91, 93, 124, 38, 45, 42, 43, 63, 46, 92, 32, 9, 10, 13]⟩ ((b.toNat : Nat) : Int) W
    simpa [specials] using this
  have hge := index_ge specials b
  have f1 := h.frz 1
  have HB : Hid (PS.plainBad b = (decide (b.toNat < 32) || decide (127 ≤ b.toNat) || decide (0 ≤ Lib.indexByte specials b))) := by
    show _ = _
    rw [hge]; unfold PS.plainBad
    congr 1
  clear h hr hl hg hd hb hge c2 c3 c4 c5
  rw [HO.out, HB.out]
  generalize Lib.indexByte specials b = ix at *
  generalize b.toNat = n at *
  generalize hat : st.at_ = a at *
  clear hat
  by_cases h1 : n < 32
  · have h1' : decide ((n : Int) < 32) = true := decide_eq_true (by omega)
    have HX : Hid ((if (decide (n < 32) || decide (127 ≤ n) || decide (0 ≤ ix)) = true then (st.fail 2, 0) else (st.adv 1, n)) = (st.fail 2, 0)) := by show _ = _; simp [h1]
    rw [HX.out]
    go_enter Tryz.func159, Tryz.ntmps159
    go_wp2_with fail
    go_quiet (fail)
    go_wp2_with fail
    go_quiet (fail)
    go_wp2_with fail
    refine (HF.out _).mono ?_
    rintro e w2 ⟨rfl, hp2, hf2⟩
    go_wp2_with fail
    go_ret
    exact ⟨rfl, hp2, ((Far.refl _ _).drew _).trans hf2⟩
  · have h1' : decide ((n : Int) < 32) = false := decide_eq_false (by omega)
    by_cases h2 : 127 ≤ n
    · have h2' : decide ((127 : Int) ≤ (n : Int)) = true := decide_eq_true (by omega)
      have HX : Hid ((if (decide (n < 32) || decide (127 ≤ n) || decide (0 ≤ ix)) = true then (st.fail 2, 0) else (st.adv 1, n)) = (st.fail 2, 0)) := by show _ = _; simp [h2]
      rw [HX.out]
      go_enter Tryz.func159, Tryz.ntmps159
      go_wp2_with fail
      go_quiet (fail)
      go_wp2_with fail
      go_quiet (fail)
      go_wp2_with fail
      refine (HF.out _).mono ?_
      rintro e w2 ⟨rfl, hp2, hf2⟩
      go_wp2_with fail
      go_ret
      exact ⟨rfl, hp2, ((Far.refl _ _).drew _).trans hf2⟩
    · have h2' : decide ((127 : Int) ≤ (n : Int)) = false := decide_eq_false (by omega)
      by_cases h3 : 0 ≤ ix
      · have HX : Hid ((if (decide (n < 32) || decide (127 ≤ n) || decide (0 ≤ ix)) = true then (st.fail 2, 0) else (st.adv 1, n)) = (st.fail 2, 0)) := by show _ = _; simp [h3]
        rw [HX.out]
        go_enter Tryz.func159, Tryz.ntmps159
        go_wp2_with fail
        go_quiet (fail)
        go_wp2_with fail
        go_quiet (fail)
        go_wp2_with fail
        refine (HIX.out _).mono ?_
        rintro e w2 ⟨rfl, rfl⟩
        go_wp2_with fail
        refine (HF.out _).mono ?_
        rintro e w2 ⟨rfl, hp2, hf2⟩
        go_wp2_with fail
        go_ret
        exact ⟨rfl, hp2, ((Far.refl _ _).drew _).trans hf2⟩
      · have HX : Hid ((if (decide (n < 32) || decide (127 ≤ n) || decide (0 ≤ ix)) = true then (st.fail 2, 0) else (st.adv 1, n)) = (st.adv 1, n)) := by show _ = _; simp [h1, h2, h3]
        rw [HX.out]
        go_enter Tryz.func159, Tryz.ntmps159
        go_wp2_with fail
        go_quiet (fail)
        go_wp2_with fail
        go_quiet (fail)
        go_wp2_with fail
        refine (HIX.out _).mono ?_
        rintro e w2 ⟨rfl, rfl⟩
        go_wp2_with fail
        go_ret
        exact ⟨rfl, HA.out _ (HP.out.drew _), (Far.drew (Far.refl _ _) _).set _ _⟩
/-- behind a backslash, c -/
def escW (st : PS) (c : UInt8) (r : List UInt8) : PS × Nat :=
  if c = 110 then (st.adv 2, 10)
  else if c = 116 then (st.adv 2, 9)
  else if c = 120 then
    match r with
    | h :: l :: _ => if PS.isHex h && PS.isHex l then (st.adv 4, PS.hexV h * 16 + PS.hexV l) else (st.fail 2, 0)
    | _ => (st.fail 2, 0)
  else if PS.escOk c then (st.adv 2, c.toNat) else (st.fail 2, 0)
theorem one_esc_eq (st : PS) (c : UInt8) (r : List UInt8) (h : st.rest = 92 :: c :: r) : st.one = escW st c r := by
  unfold PS.one
  rw [h]
  simp only [ne_eq, not_true_eq_false, if_false]
  rfl
theorem one_end_eq (st : PS) (h : st.rest = [92]) : st.one = (st.fail 2, 0) := by
  unfold PS.one
  rw [h]
  simp
theorem hexV_idx (c : UInt8) (h : PS.isHex c = true) : Lib.indexByte PS.hexL c = (PS.hexV c : Nat) := indexByte_idx _ _ h
theorem hexV_neg (c : UInt8) (h : PS.isHex c = false) : Lib.indexByte PS.hexL c < 0 := by
  have := index_ge PS.hexL c
  rw [show PS.hexL.contains c = false from h] at this
  exact Int.not_le.1 (of_decide_eq_false this)
end Go.Proofs.YtpajpjocakhcdaaGreatDoor
