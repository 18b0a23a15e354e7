/-
  A set of bytes read: walked through the program.
-/
import Derived.Test.YticpjjmacmmpjaaGreatDoorPsO2
import Derived.Test.YticpjjmacmmpjaaGreatDoorPsO3
import Derived.Test.YticpjjmacmmpjaaGreatDoorSetX
import Derived.Test.YticpjjmacmmpjaaGreatDoorReJ
import Derived.Deep.DeepCutAuto
set_option linter.unusedSimpArgs false
set_option linter.unusedVariables false
set_option maxRecDepth 100000
set_option linter.unnecessarySimpa false
namespace Go.Proofs.YticpjjmacmmpjaaGreatDoor
open Go.RowKit
theorem escOk_nat (c : UInt8) : PS.escOk c = (decide (32 < c.toNat) && decide (c.toNat < 127) && (decide (c.toNat < 97) || decide (122 < c.toNat)) && (decide (c.toNat < 65) || decide (90 < c.toNat)) && (decide (c.toNat < 48) || decide (57 < c.toNat)) || decide (c.toNat = 32)) := by
  unfold PS.escOk
  have e : (c == 32) = decide (c.toNat = 32) := by
    rw [Bool.eq_iff_iff]; simp only [beq_iff_eq, decide_eq_true_eq]
    constructor
    · rintro rfl; rfl
    · intro h; exact UInt8.toNat_inj.1 h
  rw [e]
  rfl
theorem one_any (p : Nat) (s : List UInt8) (st : PS) (w : World) (h : PAt w p s st) (hs : s.length ≤ 65536) :
    Calls Tryz.prog 198 #[ptr p] w (OnePost p s w st.one) := by
  match hr : st.rest with
  | [] => exact one_nil p s st w h hs hr
  | b :: r =>
    by_cases hb : b = 92
    · subst hb
      match r, hr with
      | [], hr => rw [one_end_eq st hr]; exact slash_nil p s st w h hs hr
      | c :: r, hr =>
        rw [one_esc_eq st c r hr]
        by_cases h110 : c = 110
        · subst h110; exact slash_n p s st w h hs r hr
        by_cases h116 : c = 116
        · subst h116; exact slash_t p s st w h hs r hr
        by_cases h120 : c = 120
        · subst h120
          match r, hr with
          | [], hr => exact slash_x_short p s st w h hs [] (by simp) hr
          | [a], hr => exact slash_x_short p s st w h hs [a] (by simp) hr
          | h1 :: h2 :: r, hr =>
            have e : escW st 120 (h1 :: h2 :: r) = if PS.isHex h1 && PS.isHex h2 then (st.adv 4, PS.hexV h1 * 16 + PS.hexV h2) else (st.fail 2, 0) := rfl
            rw [e]
            cases hx1 : PS.isHex h1 with
            | false => exact slash_hex0 p s st w h hs h1 h2 r hx1 hr
            | true =>
              cases hx2 : PS.isHex h2 with
              | false => exact slash_hex1 p s st w h hs h1 h2 r hx1 hx2 hr
              | true => exact slash_hex p s st w h hs h1 h2 r hx1 hx2 hr
        have hno : c.toNat ≠ 110 ∧ c.toNat ≠ 116 ∧ c.toNat ≠ 120 := ⟨fun e => h110 (UInt8.toNat_inj.1 e), fun e => h116 (UInt8.toNat_inj.1 e), fun e => h120 (UInt8.toNat_inj.1 e)⟩
        have e : escW st c r = if PS.escOk c then (st.adv 2, c.toNat) else (st.fail 2, 0) := by unfold escW; rw [if_neg h110, if_neg h116, if_neg h120]
        have hO := escOk_nat c
        have hcl := c.toNat_lt
        have T : PS.escOk c = true → escW st c r = (st.adv 2, c.toNat) := fun h => by rw [e, h]; rfl
        have N : PS.escOk c = false → escW st c r = (st.fail 2, 0) := fun h => by rw [e, h]; rfl
        have hcl2 : c.toNat = 32 ∨ c.toNat < 32 ∨ 127 ≤ c.toNat ∨ (97 ≤ c.toNat ∧ c.toNat ≤ 122) ∨ (65 ≤ c.toNat ∧ c.toNat ≤ 90) ∨ (48 ≤ c.toNat ∧ c.toNat ≤ 57) ∨ (33 ≤ c.toNat ∧ c.toNat ≤ 47) ∨ (58 ≤ c.toNat ∧ c.toNat ≤ 64) ∨ (91 ≤ c.toNat ∧ c.toNat ≤ 96) ∨ (123 ≤ c.toNat ∧ c.toNat ≤ 126) := by omega
        rcases hcl2 with hk | hk | hk | hk | hk | hk | hk | hk | hk | hk
        · rw [T (by rw [hO]; simp only [Bool.or_eq_true, Bool.and_eq_true, decide_eq_true_eq]; omega)]; exact sl_space p s st w h hs c r hno hk hr
        · rw [N (by rw [hO, Bool.eq_false_iff, ne_eq]; simp only [Bool.or_eq_true, Bool.and_eq_true, decide_eq_true_eq]; omega)]; exact sl_low p s st w h hs c r hno hk hr
        · rw [N (by rw [hO, Bool.eq_false_iff, ne_eq]; simp only [Bool.or_eq_true, Bool.and_eq_true, decide_eq_true_eq]; omega)]; exact sl_high p s st w h hs c r hno hk hr
        · rw [N (by rw [hO, Bool.eq_false_iff, ne_eq]; simp only [Bool.or_eq_true, Bool.and_eq_true, decide_eq_true_eq]; omega)]; exact sl_lc p s st w h hs c r hno hk hr
        · rw [N (by rw [hO, Bool.eq_false_iff, ne_eq]; simp only [Bool.or_eq_true, Bool.and_eq_true, decide_eq_true_eq]; omega)]; exact sl_uc p s st w h hs c r hno hk hr
        · rw [N (by rw [hO, Bool.eq_false_iff, ne_eq]; simp only [Bool.or_eq_true, Bool.and_eq_true, decide_eq_true_eq]; omega)]; exact sl_dg p s st w h hs c r hno hk hr
        · rw [T (by rw [hO]; simp only [Bool.or_eq_true, Bool.and_eq_true, decide_eq_true_eq]; omega)]; exact sl_ok1 p s st w h hs c r hno hk hr
        · rw [T (by rw [hO]; simp only [Bool.or_eq_true, Bool.and_eq_true, decide_eq_true_eq]; omega)]; exact sl_ok2 p s st w h hs c r hno hk hr
        · rw [T (by rw [hO]; simp only [Bool.or_eq_true, Bool.and_eq_true, decide_eq_true_eq]; omega)]; exact sl_ok3 p s st w h hs c r hno hk hr
        · rw [T (by rw [hO]; simp only [Bool.or_eq_true, Bool.and_eq_true, decide_eq_true_eq]; omega)]; exact sl_ok4 p s st w h hs c r hno hk hr
    · exact one_plain p s st w h hs b r hr hb
/-- the row of a set of one's own -/
def setRow (s : BS) : Obj := .cells #[.int .u64 (wN s.a), .int .u64 (wN s.b), .int .u64 (wN s.c), .int .u64 (wN s.d)] 112
/-- the reader and the set of one's own -/
structure SI (w : World) (p : Nat) (s : List UInt8) (st : PS) (S : BS) (W : World) : Prop where
  pa : PAt W p s st
  row : W.heap[w.heap.size]? = some (setRow S)
  far : Far p w W
theorem SI.drew {w : World} {p : Nat} {s : List UInt8} {st : PS} {S : BS} {W : World} (h : SI w p s st S W) (n : Nat) : SI w p s st S (W.drewN n) := ⟨h.pa.drew n, h.row, h.far.drew n⟩
theorem SI.call {w : World} {p : Nat} {s : List UInt8} {st st' : PS} {S : BS} {W W' : World} (h : SI w p s st S W) (hpw : p < w.heap.size) (hp : PAt W' p s st') (hf : Far p W W') : SI w p s st' S W' :=
  ⟨hp, (hf.block w.heap.size (Array.getElem?_eq_some_iff.1 h.row).1 (fun e => by have := Option.some.inj e; omega)).trans h.row, h.far.trans hf⟩
theorem SI.later {w : World} {p : Nat} {s : List UInt8} {st : PS} {S : BS} {W W' : World} (h : SI w p s st S W) (hb : Below W.heap.size W W') : SI w p s st S W' :=
  ⟨h.pa.later hb, (hb.block _ (Array.getElem?_eq_some_iff.1 h.row).1).trans h.row, h.far.trans (Far.below hb)⟩
theorem SI.cells {w : World} {p : Nat} {s : List UInt8} {st : PS} {S : BS} {W : World} (h : SI w p s st S W) : W.cell? ⟨w.heap.size, 0, none⟩ = some (.int .u64 (wN S.a)) ∧ W.cell? ⟨w.heap.size, 1, none⟩ = some (.int .u64 (wN S.b)) ∧ W.cell? ⟨w.heap.size, 2, none⟩ = some (.int .u64 (wN S.c)) ∧ W.cell? ⟨w.heap.size, 3, none⟩ = some (.int .u64 (wN S.d)) :=
  ⟨by rw [cell_of_row _ _ _ _ _ _ h.row]; rfl, by rw [cell_of_row _ _ _ _ _ _ h.row]; rfl, by rw [cell_of_row _ _ _ _ _ _ h.row]; rfl, by rw [cell_of_row _ _ _ _ _ _ h.row]; rfl⟩
theorem SI.store {w : World} {p : Nat} {s : List UInt8} {st : PS} {S : BS} {W : World} (h : SI w p s st S W) (hpl : p < w.heap.size) (t0 t1 t2 t3 : BitVec 64) : SI w p s st ⟨t0, t1, t2, t3⟩ ((((W.setCell ⟨w.heap.size, 0, none⟩ (.int .u64 (wN t0))).setCell ⟨w.heap.size, 1, none⟩ (.int .u64 (wN t1))).setCell ⟨w.heap.size, 2, none⟩ (.int .u64 (wN t2))).setCell ⟨w.heap.size, 3, none⟩ (.int .u64 (wN t3))) := by
  have hk : ∀ (X : World) (k j : Nat) (v : Value), k ≠ w.heap.size → (X.setCell ⟨w.heap.size, j, none⟩ v).heap[k]? = X.heap[k]? := fun X k j v hne => Below.heap_setCell _ _ _ _ hne
  refine ⟨⟨?_, h.pa.rest, h.pa.tot⟩, ?_, ?_⟩
  · rw [hk _ p _ _ (by omega), hk _ p _ _ (by omega), hk _ p _ _ (by omega), hk _ p _ _ (by omega)]; exact h.pa.row
  · have r0 := heap_setCell_same _ _ 0 _ _ (.int .u64 (wN t0)) h.row
    have r1 := heap_setCell_same _ _ 1 _ _ (.int .u64 (wN t1)) r0
    have r2 := heap_setCell_same _ _ 2 _ _ (.int .u64 (wN t2)) r1
    exact heap_setCell_same _ _ 3 _ _ (.int .u64 (wN t3)) r2
  · refine ⟨h.far.os, h.far.tape, h.far.output, by simp; exact h.far.size, fun k hlt hne => ?_⟩
    rw [hk _ k _ _ (by omega), hk _ k _ _ (by omega), hk _ k _ _ (by omega), hk _ k _ _ (by omega)]; exact h.far.block k hlt hne
/-- what is left of the text, as long as nothing has failed -/
def psMeas (p : Nat) (s : List UInt8) (W : World) : Nat := if intOf ((W.cell? ⟨p, 4, none⟩).getD undef) = 0 then s.length + 1 - (intOf ((W.cell? ⟨p, 1, none⟩).getD undef)).toNat else 0
theorem psMeas_eq {W : World} {p : Nat} {s : List UInt8} {st : PS} (h : PAt W p s st) : psMeas p s W = if st.e = 0 then s.length + 1 - st.at_ else 0 := by
  obtain ⟨c0, c1, c2, c3, c4, c5⟩ := h.cells
  unfold psMeas
  rw [c1, c4]
  simp [intOf]
theorem psMeas_lt {W W' : World} {p : Nat} {s : List UInt8} {st st' : PS} (h : PAt W p s st) (h' : PAt W' p s st') (he : st.e = 0) (hlt : st'.e = 0 → st.at_ < st'.at_) : psMeas p s W' < psMeas p s W := by
  rw [psMeas_eq h, psMeas_eq h', if_pos he]
  have := h.at_le
  split
  · rename_i e; have := hlt e; omega
  · omega
structure SetAt (w : World) (p : Nat) (s : List UInt8) (F : PS × BS) (wr : World) : Prop where
  ex : ∃ (f : Nat) (st : PS) (S : BS), SI w p s st S wr ∧ PS.setGo f st S = F ∧ (st.e = 0 → st.rest.length < f)
set_option maxRecDepth 100000 in
set_option maxHeartbeats 8000000 in
theorem psSet_any (p : Nat) (s : List UInt8) (st : PS) (w : World) (h : PAt w p s st) (hs : s.length ≤ 65536) (he : st.e = 0) :
    Calls Tryz.prog 197 #[ptr p] w fun e w' => ∃ b, e = .returned (ptr b) ∧ IsReX (· < w.heap.size) w' b (RE.one st.set.2) ∧ PAt w' p s st.set.1 ∧ Far p w w' := by
  have hsz : (⟨s.toArray⟩ : ByteArray).size = s.length := str_size s
  obtain ⟨nt, hnt⟩ : ∃ nt, nt = decide (st.rest.head? = some 94) := ⟨_, rfl⟩
  obtain ⟨F, hF⟩ : ∃ F, F = PS.setGo ((if nt then st.adv 1 else st).rest.length + 1) (if nt then st.adv 1 else st) BS.none := ⟨_, rfl⟩
  have hset : st.set = (F.1.clip, if nt then PS.set.notS' F.2 else F.2) := by rw [hF, hnt]; rfl
  rw [hset]
  have hx := re_alloc w (.cells #[.int .u64 0, .int .u64 0, .int .u64 0, .int .u64 0] 112)
  have hp1 := h.later hx
  have hB1 : (w.alloc (.cells #[.int .u64 0, .int .u64 0, .int .u64 0, .int .u64 0] 112)).heap[w.heap.size]? = some (setRow BS.none) := heap_alloc_last _ _
  have hpl : p < w.heap.size := h.lt
  have hf1 : Far p w (w.alloc (.cells #[.int .u64 0, .int .u64 0, .int .u64 0, .int .u64 0] 112)) := Far.below hx
  -- where the loop begins
  have HT : Hid (∀ W, PAt W p s (if nt then st.adv 1 else st) → W.heap[w.heap.size]? = some (setRow BS.none) → Far p w W → SetAt w p s F W) := fun W h1 h2 h3 =>
    ⟨_, _, BS.none, ⟨h1, h2, h3⟩, hF.symm, fun _ => Nat.lt_succ_self _⟩
  have hat := h.at_le
  have hrest := h.rest
  have htot := h.tot
  clear hset hF h
  generalize hW0 : w.alloc (.cells #[.int .u64 0, .int .u64 0, .int .u64 0, .int .u64 0] 112) = W0 at *
  obtain ⟨c0, c1, c2, c3, c4, c5⟩ := hp1.cells
  have f1 := hp1.frz 1
  have HP1 := Lib.hid hp1
  have HB1 := Lib.hid hB1
  have HF1 := Lib.hid hf1
  have HW0 := Lib.hid hW0
  clear hp1 hB1 hf1 hx hW0 c2 c3 c4 c5
  have f1' : ∀ n, (W0.drewN n).frozen? ⟨p, 1, none⟩ = false := fun _ => f1
  go_enter Tryz.func197, Tryz.ntmps197
  go_upto_region 2 with fail
  rw [HW0.out]
  go_cut [4] from 7 to 28 (fun s4 wx => s4 = .bool nt ∧ ∃ n, wx = W0.drewN n)
  case first =>
    match hr : st.rest with
    | [] =>
      have hnf : nt = false := by rw [hnt, hr]; rfl
      rw [hr] at htot
      have hc1 : ¬ ((st.at_ : Nat) : Int) < (s.length : Nat) := by simp at htot; omega
      have hc2 : ¬ st.at_ < s.length := by omega
      subst hnf
      clear hnt hrest htot hr
      generalize st.at_ = a at *
      go_quiet (fail)
      go_wp2_with fail
      go_meet
      exact ⟨rfl, _, rfl⟩
    | c :: r =>
      rw [hr] at hrest htot
      have hlt : st.at_ < s.length := by simp at htot; omega
      have hg : s.getD st.at_ 0 = c := by
        have : (s.drop st.at_).getD 0 0 = c := by rw [← hrest]; rfl
        rw [drop_getD] at this; simpa using this
      have hidx := fun W => str_at s st.at_ hlt W
      rw [hg] at hidx
      have hlt' : ((st.at_ : Nat) : Int) < (s.length : Nat) := by omega
      have h94 := byteIs c 94 (by omega)
      have hnf : decide (c = 94) = nt := by rw [hnt, hr]; simp
      have h94' : (((c.toNat : Nat) : Int) == 94) = nt := h94.trans hnf
      clear hnt hrest htot hr hg h94 hnf
      generalize st.at_ = a at *
      generalize c.toNat = n at *
      cases nt
      all_goals
        go_quiet (fail)
        go_wp2_with fail
        go_meet
        exact ⟨rfl, _, rfl⟩
  case rest =>
    obtain ⟨rfl, n, rfl⟩ := hcut
    go_upto_if 29 with fail
    go_cut [4] from 29 to 36 (fun s4 wx => s4 = .bool nt ∧ SetAt w p s F wx)
    case first =>
      cases hn : nt with
      | false =>
        rw [hn] at HT
        go_wp2_with fail
        go_meet
        exact ⟨by rw [hn], HT.out _ (HP1.out.drew _) (HB1.out) (HF1.out.drew _)⟩
      | true =>
        have hl1 : 1 ≤ st.rest.length := by
          cases hq : st.rest with
          | nil => rw [hn, hq] at hnt; cases hnt
          | cons _ _ => simp
        have hp2 := (HP1.out.drew n).put_adv' 1 st.at_ rfl hl1
        have hb2 : ((W0.drewN n).setCell ⟨p, 1, none⟩ (.int .i64 ((st.at_ : Int) + ((1 : Nat) : Int)))).heap[w.heap.size]? = some (setRow BS.none) := (Below.heap_setCell _ _ _ _ (by show w.heap.size ≠ p; omega)).trans HB1.out
        have hf2 := (HF1.out.drew n).set 1 (.int .i64 ((st.at_ : Int) + ((1 : Nat) : Int)))
        rw [hn] at HT
        have HR := Lib.hid (HT.out _ hp2 hb2 hf2)
        clear hp2 hb2 hf2 hnt hrest htot HT hl1
        generalize st.at_ = a at *
        go_wp2_with fail
        go_meet
        exact ⟨by rw [hn], HR.out⟩
    case rest =>
      obtain ⟨rfl, hst⟩ := hcut
      clear HT HP1 HB1 HF1 HW0 f1 f1' c0 c1 hnt hrest htot hat
      go_wp2_with fail
      go_loopw [] (fun wr => SetAt w p s F wr) (fun wr => psMeas p s wr)
      case atStart => exact hst
      case round =>
        clear hst
        obtain ⟨f, st', S, hsi, hgo, hfu⟩ := hrel
        have HSI := Lib.hid hsi
        have HGO := Lib.hid hgo
        have HFU := Lib.hid hfu
        obtain ⟨c0, c1, c2, c3, c4, c5⟩ := hsi.pa.cells
        have hat := hsi.pa.at_le
        have hrest := hsi.pa.rest
        have htot := hsi.pa.tot
        obtain ⟨go, hgo2⟩ : ∃ go, decide (st'.e = 0 ∧ st'.rest.head? ≠ some 93) = go := ⟨_, rfl⟩
        clear hgo hfu hsi c2 c3 c5
        go_upto_region 5 with fail
        go_cut [65] from 37 to 109 (fun s65 wx => s65 = .bool go ∧ ∃ n, wx = wr.drewN n)
        case first =>
          by_cases he0 : st'.e = 0
          · have ge : (((st'.e : Nat) : Int) == 0) = true := by rw [he0]; rfl
            match hr : st'.rest with
            | [] =>
              have hnf : go = true := by rw [← hgo2, hr, he0]; rfl
              rw [hr] at htot
              have hc1 : ((s.length : Nat) : Int) ≤ ((st'.at_ : Nat) : Int) := by simp at htot; omega
              have hc2 : s.length ≤ st'.at_ := by omega
              subst hnf
              clear hgo2 hrest htot hr he0
              generalize st'.at_ = a at *
              generalize st'.e = e at *
              go_quiet (fail)
              go_wp2_with fail
              go_meet
              exact ⟨rfl, _, rfl⟩
            | c :: r =>
              rw [hr] at hrest htot
              have hlt : st'.at_ < s.length := by simp at htot; omega
              have hg : s.getD st'.at_ 0 = c := by
                have : (s.drop st'.at_).getD 0 0 = c := by rw [← hrest]; rfl
                rw [drop_getD] at this; simpa using this
              have hidx := fun W => str_at s st'.at_ hlt W
              rw [hg] at hidx
              have hc1 : ¬ ((s.length : Nat) : Int) ≤ ((st'.at_ : Nat) : Int) := by omega
              have hc2 : ¬ s.length ≤ st'.at_ := by omega
              have h93 := byteIs c 93 (by omega)
              have hnf : (!decide (c = 93)) = go := by rw [← hgo2, hr, he0]; simp
              have h93' : (((c.toNat : Nat) : Int) != 93) = go := by
                rw [← hnf, bne]; congr 1
              clear hgo2 hrest htot hr hg h93 hnf he0
              generalize st'.at_ = a at *
              generalize st'.e = e at *
              generalize c.toNat = n at *
              cases go
              all_goals
                go_quiet (fail)
                go_wp2_with fail
                go_meet
                exact ⟨rfl, _, rfl⟩
          · have ge : (((st'.e : Nat) : Int) == 0) = false := by rw [beq_eq_false_iff_ne]; omega
            have hnf : go = false := by rw [← hgo2]; simp [he0]
            subst hnf
            clear hgo2 hrest htot he0
            generalize st'.e = e at *
            go_quiet (fail)
            go_wp2_with fail
            go_meet
            exact ⟨rfl, _, rfl⟩
        case rest =>
          obtain ⟨rfl, n, rfl⟩ := hcut
          clear c0 c1 c4 hat hrest htot
          have HS1 := Lib.hid (HSI.out.drew n)
          generalize wr.drewN n = W at *
          cases go with
          | true =>
            have hcond : st'.e = 0 ∧ st'.rest.head? ≠ some 93 := of_decide_eq_true hgo2
            have HCOND := Lib.hid hcond
            clear hcond hgo2
            go_wp2_with fail
            refine (one_any p s st' _ HS1.out.pa hs).mono ?_
            rintro e w2 ⟨rfl, hp2, hf2⟩
            have HS2 := Lib.hid (HS1.out.call hpl hp2 hf2)
            obtain ⟨st1, hst1⟩ : ∃ x, st'.one = x := ⟨_, rfl⟩
            have HST1 := Lib.hid hst1
            rw [hst1] at HS2 ⊢
            clear hp2 hf2 hst1 HS1
            have hone := (PS.one_run HCOND.out.1)
            rw [HST1.out] at hone
            have HONE := Lib.hid hone
            have hb1 : st1.2 < 256 := hone.2.2
            obtain ⟨c0, c1, c2, c3, c4, c5⟩ := HS2.out.pa.cells
            have f1 := HS2.out.pa.frz 1
            have hrest := HS2.out.pa.rest
            have htot := HS2.out.pa.tot
            obtain ⟨go, hgo2⟩ : ∃ go, decide (st1.1.rest.head? = some 45) = go := ⟨_, rfl⟩
            clear hone c2 c3 c4 c5
            go_upto_region 8 with fail
            go_cut [90] from 37 to 109 (fun s90 wx => s90 = .bool go ∧ ∃ n, wx = w2.drewN n)
            case first =>
              match hr : st1.1.rest with
              | [] =>
                have hnf : go = false := by rw [← hgo2, hr]; rfl
                rw [hr] at htot
                have hc1 : ¬ ((st1.1.at_ : Nat) : Int) < (s.length : Nat) := by simp at htot; omega
                have hc2 : ¬ st1.1.at_ < s.length := by omega
                subst hnf
                clear hgo2 hrest htot hr
                generalize st1.1.at_ = a at *
                go_quiet (fail)
                go_wp2_with fail
                go_meet
                exact ⟨rfl, _, rfl⟩
              | c :: r =>
                rw [hr] at hrest htot
                have hlt : st1.1.at_ < s.length := by simp at htot; omega
                have hg : s.getD st1.1.at_ 0 = c := by
                  have : (s.drop st1.1.at_).getD 0 0 = c := by rw [← hrest]; rfl
                  rw [drop_getD] at this; simpa using this
                have hidx := fun W => str_at s st1.1.at_ hlt W
                rw [hg] at hidx
                have hlt' : ((st1.1.at_ : Nat) : Int) < (s.length : Nat) := by omega
                have h45 := byteIs c 45 (by omega)
                have hnf : decide (c = 45) = go := by rw [← hgo2, hr]; simp
                have h45' : (((c.toNat : Nat) : Int) == 45) = go := h45.trans hnf
                clear hgo2 hrest htot hr hg h45 hnf
                generalize st1.1.at_ = a at *
                generalize c.toNat = n at *
                cases go
                all_goals
                  go_quiet (fail)
                  go_wp2_with fail
                  go_meet
                  exact ⟨rfl, _, rfl⟩
            case rest =>
              obtain ⟨rfl, n, rfl⟩ := hcut
              have HS3 := Lib.hid (HS2.out.drew n)
              obtain ⟨st2, hst2⟩ : ∃ x, (if st1.1.rest.head? = some 45 then (st1.1.adv 1).one else st1) = x := ⟨_, rfl⟩
              have HST2 := Lib.hid hst2
              go_upto_if 90 with fail
              go_cut [6] from 37 to 109 (fun s6 wx => s6 = .int .u8 (st2.2 : Nat) ∧ st2.2 < 256 ∧ SI w p s st2.1 S wx)
              case first =>
                cases go with
                | false =>
                  have e : st1 = st2 := by rw [← hst2, if_neg (of_decide_eq_false hgo2)]
                  subst e
                  clear hst2 hgo2 hrest htot c0 c1
                  go_wp2_with fail
                  go_meet
                  exact ⟨rfl, hb1, HS3.out⟩
                | true =>
                  have hd := of_decide_eq_true hgo2
                  have e : (st1.1.adv 1).one = st2 := by rw [← hst2, if_pos hd]
                  have he1 : st1.1.e = 0 := by
                    rcases HONE.out.1.err with e | ⟨_, _, _, hr⟩
                    · exact e
                    · rw [hr] at hd; cases hd
                  have hl1 : 1 ≤ st1.1.rest.length := by
                    cases hq : st1.1.rest with
                    | nil => rw [hq] at hd; cases hd
                    | cons _ _ => simp
                  have hb2 : st2.2 < 256 := by rw [← e]; exact (PS.one_run (a := st1.1.adv 1) he1).2.2
                  have hp4 := HS3.out.pa.put_adv' 1 st1.1.at_ rfl hl1
                  have hs4 : SI w p s (st1.1.adv 1) S ((w2.drewN n).setCell ⟨p, 1, none⟩ (.int .i64 ((st1.1.at_ : Int) + ((1 : Nat) : Int)))) := HS3.out.call hpl hp4 ((Far.refl _ _).set _ _)
                  have HS4 := Lib.hid hs4
                  have HE := Lib.hid e
                  have hat4 : st1.1.at_ < s.length := by omega
                  clear hst2 hgo2 hrest htot hd e hp4 hs4 hl1 he1
                  obtain ⟨a, HAT⟩ : ∃ a, Hid (st1.1.at_ = a) := ⟨_, rfl⟩
                  rw [HAT.out] at HS4 c1 hat4
                  go_wp2_with fail
                  refine (one_any p s (st1.1.adv 1) _ HS4.out.pa hs).mono ?_
                  rintro e w5 ⟨rfl, hp5, hf5⟩
                  have HS5 := Lib.hid (HS4.out.call hpl hp5 hf5)
                  rw [HE.out] at HS5 ⊢
                  clear hp5 hf5
                  go_wp2_with fail
                  go_meet
                  exact ⟨rfl, hb2, HS5.out⟩
              case rest =>
                obtain ⟨rfl, hb2, hs6⟩ := hcut
                clear HS2 HS3 c0 c1 f1 hrest htot hgo2 hst2
                have HS6 := Lib.hid hs6
                clear hs6
                obtain ⟨st3, hst3⟩ : ∃ x, (if st2.2 < st1.2 then st2.1.fail 2 else st2.1) = x := ⟨_, rfl⟩
                have HST3 := Lib.hid hst3
                go_upto_if 102 with fail
                go_cut [6] from 37 to 109 (fun s6 wx => s6 = .int .u8 (st2.2 : Nat) ∧ SI w p s st3 S wx)
                case first =>
                  by_cases hgt : st2.2 < st1.2
                  · have e : st2.1.fail 2 = st3 := by rw [← hst3, if_pos hgt]
                    have HE := Lib.hid e
                    clear hst3 e
                    go_wp2_with fail
                    refine (psFail_any p s st2.1 _ HS6.out.pa hs 2 (by omega)).mono ?_
                    rintro e w7 ⟨rfl, hp7, hf7⟩
                    have HS7 := Lib.hid (HS6.out.call hpl hp7 hf7)
                    rw [HE.out] at HS7
                    clear hp7 hf7
                    go_wp2_with fail
                    go_meet
                    exact ⟨rfl, HS7.out⟩
                  · have e : st2.1 = st3 := by rw [← hst3, if_neg hgt]
                    have HE := Lib.hid e
                    clear hst3 e
                    go_wp2_with fail
                    go_meet
                    exact ⟨rfl, HE.out ▸ HS6.out⟩
                case rest =>
                  obtain ⟨rfl, hs7⟩ := hcut
                  have HS7 := Lib.hid hs7
                  have hcells := hs7.cells
                  clear hs7 HS6 hst3
                  obtain ⟨s0, s1, s2, s3⟩ := S
                  obtain ⟨SS, hSS⟩ : ∃ SS : World → Prop, ∀ W', SS W' ↔ (W'.cell? ⟨w.heap.size, 0, none⟩ = some (.int .u64 (wN s0)) ∧ W'.cell? ⟨w.heap.size, 1, none⟩ = some (.int .u64 (wN s1)) ∧ W'.cell? ⟨w.heap.size, 2, none⟩ = some (.int .u64 (wN s2)) ∧ W'.cell? ⟨w.heap.size, 3, none⟩ = some (.int .u64 (wN s3))) := ⟨_, fun _ => Iff.rfl⟩
                  have cs : ∀ q : InC SS, q.w.cell? ⟨w.heap.size, 0, none⟩ = some (.int .u64 (wN s0)) ∧ q.w.cell? ⟨w.heap.size, 1, none⟩ = some (.int .u64 (wN s1)) ∧ q.w.cell? ⟨w.heap.size, 2, none⟩ = some (.int .u64 (wN s2)) ∧ q.w.cell? ⟨w.heap.size, 3, none⟩ = some (.int .u64 (wN s3)) := fun q => (hSS q.w).1 q.h
                  have hS0 : SS wc.drew := (hSS _).2 hcells
                  have hne : Nonempty (InC SS) := ⟨⟨_, hS0⟩⟩
                  have HFR := Lib.hid (fun W => From_any st1.2 st2.2 hb1 hb2 W)
                  generalize hR : BS.run st1.2 (st2.2 + 1 - st1.2) = R at *
                  have HR := Lib.hid hR
                  have HSS := Lib.hid hSS
                  clear hR hSS hcells
                  obtain ⟨r0, r1, r2, r3⟩ := R
                  have HS8 := Lib.hid ((show SI w p s st3 ⟨s0, s1, s2, s3⟩ wc.drew from HS7.out.drew 1))
                  clear HS7
                  go_wp2_with fail
                  refine wp_region_mix SS [0, 1, 2] [0, 1, 2, 3, 4, 5] (by kernel_rfl) (by kernel_rfl) hS0 ?_
                  (repeat ((with_reducible refine wpMix_read (o := ?_) ?_ ?_ ?_); rotate_left; (· rfl); (· rfl); go_big_quiet_step (fail); (with_reducible refine wpQuiet_nil ?_)))
                  clear cs hne hS0
                  generalize wc.drew = W7 at *
                  refine wpMix_eff (k := true) rfl rfl (by kernel_rfl) ?_
                  go_wp2_with fail
                  refine (HFR.out _).mono ?_
                  rintro e w8 ⟨rfl, hb8⟩
                  have HS9 := Lib.hid (HS8.out.later hb8)
                  have hS9 := (HSS.out _).2 HS9.out.cells
                  clear hb8
                  go_wp2_with fail
                  refine mixPost_keep hS9 ?_
                  refine wpMix_eff (k := false) rfl rfl (by kernel_rfl) ?_
                  go_wp2_with fail
                  refine (Or_any s0 s1 s2 s3 r0 r1 r2 r3 _).mono ?_
                  rintro e w9 ⟨rfl, hb9⟩
                  have HS10 := Lib.hid (HS9.out.later hb9)
                  have hfz : ∀ j, w9.frozen? ⟨w.heap.size, j, none⟩ = false := fun j => frozen_of_row _ _ j _ _ HS10.out.row
                  obtain ⟨q0, q1, q2, q3⟩ := HS10.out.cells
                  clear hb9
                  go_wp2_with fail
                  refine mixPost_last ?_
                  refine wpMix_eff (k := false) rfl rfl (by kernel_rfl) ?_
                  go_wp2_with fail
                  have HS11 := Lib.hid (HS10.out.store hpl (s0 ||| r0) (s1 ||| r1) (s2 ||| r2) (s3 ||| r3))
                  clear q0 q1 q2 q3 hfz
                  have hstep : PS.setStep st' ⟨s0, s1, s2, s3⟩ = (st3, ⟨s0 ||| r0, s1 ||| r1, s2 ||| r2, s3 ||| r3⟩) := by
                    unfold PS.setStep
                    simp only [HST1.out, HST2.out, HST3.out]
                    rw [show PS.fromS st1.2 st2.2 = ⟨r0, r1, r2, r3⟩ from HR.out]; rfl
                  have hrun := PS.setStep_run HCOND.out.1 (⟨s0, s1, s2, s3⟩ : BS)
                  rw [hstep] at hrun
                  have HSTEP := Lib.hid hstep
                  have HRUN := Lib.hid hrun
                  clear hstep hrun
                  refine mixPost_last (wpMix_nil ?_)
                  go_wp2_with fail
                  go_roundw
                  case rel =>
                    have hfu := HFU.out HCOND.out.1
                    obtain ⟨f', rfl⟩ : ∃ f', f = f' + 1 := ⟨f - 1, by omega⟩
                    refine ⟨f', st3, _, HS11.out, ?_, fun e => ?_⟩
                    · have hg := HGO.out
                      rw [PS.setGo, if_pos HCOND.out, HSTEP.out] at hg
                      exact hg
                    · have := PS.rest_lt' HRUN.out.1 (HRUN.out.2.1 e)
                      simp only at this
                      omega
                  case measure => exact psMeas_lt HSI.out.pa HS11.out.pa HCOND.out.1 HRUN.out.2.1
          | false =>
            have hF2 : F = (st', S) := by
              rw [← HGO.out]
              have hc := of_decide_eq_false hgo2
              cases f with
              | zero => rfl
              | succ f => rw [PS.setGo, if_neg hc]
            subst hF2
            clear hgo2 HGO HFU HSI
            obtain ⟨c0, c1, c2, c3, c4, c5⟩ := HS1.out.pa.cells
            have f1 := HS1.out.pa.frz 1
            have hat := HS1.out.pa.at_le
            have htot := HS1.out.pa.tot
            have hclr : st'.clip.rest = s.drop st'.clip.at_ ∧ st'.clip.at_ + st'.clip.rest.length = s.length := by
              have hr := HS1.out.pa.rest
              unfold PS.clip
              simp only
              rw [List.length_drop]
              refine ⟨?_, by omega⟩
              by_cases hl : st'.rest = []
              · rw [hl, List.drop_nil]; symm; apply List.drop_eq_nil_of_le; rw [hl] at htot; simp at htot; omega
              · have : 1 ≤ st'.rest.length := List.length_pos_iff.2 hl
                rw [show min 1 st'.rest.length = 1 by omega, ← List.drop_drop, ← hr]
            have hcat : st'.clip.at_ = st'.at_ + min 1 st'.rest.length := rfl
            have hmin : min ((st'.at_ : Int) + 1) ((s.length : Nat) : Int) = ((st'.clip.at_ : Nat) : Int) := by rw [hcat]; omega
            have hw5 : SI w p s st'.clip S (W.drew.setCell ⟨p, 1, none⟩ (.int .i64 (st'.clip.at_ : Nat))) :=
              (HS1.out.drew 1).call hpl ((HS1.out.pa.drew 1).put 1 _ rfl hclr.1 hclr.2) ((Far.refl _ _).set _ _)
            have HW5 := Lib.hid hw5
            obtain ⟨SS, hSS⟩ : ∃ SS : World → Prop, ∀ W', SS W' ↔ (W'.cell? ⟨p, 0, none⟩ = some (.string ⟨s.toArray⟩) ∧ W'.cell? ⟨p, 1, none⟩ = some (.int .i64 (st'.at_ : Nat))) := ⟨_, fun _ => Iff.rfl⟩
            have cs : ∀ q : InC SS, q.w.cell? ⟨p, 0, none⟩ = some (.string ⟨s.toArray⟩) ∧ q.w.cell? ⟨p, 1, none⟩ = some (.int .i64 (st'.at_ : Nat)) := fun q => (hSS q.w).1 q.h
            have hS0 : SS W.drew := (hSS _).2 ⟨c0, c1⟩
            have hne : Nonempty (InC SS) := ⟨⟨_, hS0⟩⟩
            have f1' : W.drew.frozen? ⟨p, 1, none⟩ = false := f1
            have d1 : W.drew.cell? ⟨p, 1, none⟩ = some (.int .i64 (st'.at_ : Nat)) := c1
            clear c0 c1 c2 c3 c4 c5 f1 hclr hcat hw5 hSS htot
            obtain ⟨ca, hca⟩ : ∃ ca : Nat, st'.clip.at_ = ca := ⟨_, rfl⟩
            rw [hca] at hmin HW5
            generalize st'.at_ = a at *
            go_wp2_with fail
            refine wp_region_mix SS [0, 1, 2, 3, 4, 5, 6, 7, 8, 9, 10, 12, 13] [0, 1, 2, 3, 4, 5, 6, 7, 8, 9, 10, 11, 12, 13, 14] (by kernel_rfl) (by kernel_rfl) hS0 ?_
            (repeat ((with_reducible refine wpMix_read (o := ?_) ?_ ?_ ?_); rotate_left; (· rfl); (· rfl); go_big_quiet_step (fail); (with_reducible refine wpQuiet_nil ?_)))
            generalize W.drew = W7 at *
            refine wpMix_eff (k := true) rfl rfl (by kernel_rfl) ?_
            go_wp2_with fail
            refine mixPost_keep hS0 ?_
            (repeat ((with_reducible refine wpMix_read (o := ?_) ?_ ?_ ?_); rotate_left; (· rfl); (· rfl); go_big_quiet_step (fail); (with_reducible refine wpQuiet_nil ?_)))
            clear cs hne hS0
            refine wpMix_eff (k := false) rfl rfl (by kernel_rfl) ?_
            go_wp2_with fail
            refine mixPost_last (wpMix_nil ?_)
            obtain ⟨s0, s1, s2, s3⟩ := S
            generalize W7.setCell ⟨p, 1, none⟩ (.int .i64 (ca : Nat)) = W8 at *
            obtain ⟨q0, q1, q2, q3⟩ := HW5.out.cells
            have hfz : ∀ j, W8.frozen? ⟨w.heap.size, j, none⟩ = false := fun j => frozen_of_row _ _ j _ _ HW5.out.row
            cases nt with
            | false =>
              go_wp2_with fail
              refine (One_any s0 s1 s2 s3 _).mono ?_
              rintro e w9 ⟨b, rfl, hone, hb9⟩
              have HS9 := Lib.hid (HW5.out.later hb9)
              have HON : Hid (IsReX (· < w.heap.size) w9 b (RE.one ⟨s0, s1, s2, s3⟩)) := hone.mono fun k hk hlt => Nat.lt_of_lt_of_le hlt HW5.out.far.size
              clear hone hb9
              go_wp2_with fail
              go_ret
              exact ⟨b, rfl, HON.out, HS9.out.pa, HS9.out.far⟩
            | true =>
              go_wp2_with fail
              refine (Not_any s0 s1 s2 s3 _).mono ?_
              rintro e w9 ⟨rfl, hb9⟩
              have HS9 := Lib.hid (HW5.out.later hb9)
              have hfz9 : ∀ j, w9.frozen? ⟨w.heap.size, j, none⟩ = false := fun j => frozen_of_row _ _ j _ _ HS9.out.row
              have HS10 := Lib.hid (HS9.out.store hpl (~~~s0) (~~~s1) (~~~s2) (~~~s3))
              obtain ⟨v0, v1, v2, v3⟩ := HS9.out.cells
              clear hb9 q0 q1 q2 q3 hfz
              go_wp2_with fail
              refine (One_any _ _ _ _ _).mono ?_
              rintro e w11 ⟨b, rfl, hone, hb11⟩
              have HS11 := Lib.hid (HS10.out.later hb11)
              have HON : Hid (IsReX (· < w.heap.size) w11 b (RE.one ⟨~~~s0, ~~~s1, ~~~s2, ~~~s3⟩)) := hone.mono fun k hk hlt => Nat.lt_of_lt_of_le hlt HS10.out.far.size
              clear hone hb11
              go_wp2_with fail
              go_ret
              exact ⟨b, rfl, HON.out, HS11.out.pa, HS11.out.far⟩
end Go.Proofs.YticpjjmacmmpjaaGreatDoor
