/-
  The expression that a text is, or the error: walked through the program.
-/
import Derived.Deep.DeepCutAuto
import Derived.Deep.CutBlock
import Derived.Laws.AppendOwn
import Derived.Laws.OwnMore
import Derived.Test.YtgamknphlmcgnaaGreatDoorZlA
import Derived.Test.YtgamknphlmcgnaaGreatDoorZlB
import Derived.Test.YtgamknphlmcgnaaGreatDoorZlC
import Derived.Test.YtgamknphlmcgnaaGreatDoorZlD
import Derived.Test.YtgamknphlmcgnaaGreatDoorZlE
set_option linter.unusedSimpArgs false
set_option linter.unusedVariables false
set_option maxRecDepth 100000
set_option linter.unnecessarySimpa false
namespace Go.Proofs.YtgamknphlmcgnaaGreatDoor
open Go.RowKit
theorem escOk_nat (c : UInt8) : PS.escOk c = (decide (32 < c.toNat) && decide (c.toNat < 127) && (decide (c.toNat < 97) || decide (122 < c.toNat)) && (decide (c.toNat < 65) || decide (90 < c.toNat)) && (decide (c.toNat < 48) || decide (57 < c.toNat)) || decide (c.toNat = 32)) := by
  unfold PS.escOk
  have e : (c == 32) = decide (c.toNat = 32) := by
    rw [Bool.eq_iff_iff]; simp only [beq_iff_eq, decide_eq_true_eq]
    constructor
    · rintro rfl; rfl
    · intro h; exact UInt8.toNat_inj.1 h
  rw [e]
  rfl
theorem one_any (p : Nat) (s : List UInt8) (st : PS) (w : World) (h : PAt w p s st) (hs : s.length ≤ 65536) :
    Calls Tryz.prog 215 #[ptr p] w (OnePost p s w st.one) := by
  match hr : st.rest with
  | [] => exact one_nil p s st w h hs hr
  | b :: r =>
    by_cases hb : b = 92
    · subst hb
      match r, hr with
      | [], hr => rw [one_end_eq st hr]; exact slash_nil p s st w h hs hr
      | c :: r, hr =>
        rw [one_esc_eq st c r hr]
        by_cases h110 : c = 110
        · subst h110; exact slash_n p s st w h hs r hr
        by_cases h116 : c = 116
        · subst h116; exact slash_t p s st w h hs r hr
        by_cases h120 : c = 120
        · subst h120
          match r, hr with
          | [], hr => exact slash_x_short p s st w h hs [] (by simp) hr
          | [a], hr => exact slash_x_short p s st w h hs [a] (by simp) hr
          | h1 :: h2 :: r, hr =>
            have e : escW st 120 (h1 :: h2 :: r) = if PS.isHex h1 && PS.isHex h2 then (st.adv 4, PS.hexV h1 * 16 + PS.hexV h2) else (st.fail 2, 0) := rfl
            rw [e]
            cases hx1 : PS.isHex h1 with
            | false => exact slash_hex0 p s st w h hs h1 h2 r hx1 hr
            | true =>
              cases hx2 : PS.isHex h2 with
              | false => exact slash_hex1 p s st w h hs h1 h2 r hx1 hx2 hr
              | true => exact slash_hex p s st w h hs h1 h2 r hx1 hx2 hr
        have hno : c.toNat ≠ 110 ∧ c.toNat ≠ 116 ∧ c.toNat ≠ 120 := ⟨fun e => h110 (UInt8.toNat_inj.1 e), fun e => h116 (UInt8.toNat_inj.1 e), fun e => h120 (UInt8.toNat_inj.1 e)⟩
        have e : escW st c r = if PS.escOk c then (st.adv 2, c.toNat) else (st.fail 2, 0) := by unfold escW; rw [if_neg h110, if_neg h116, if_neg h120]
        have hO := escOk_nat c
        have hcl := c.toNat_lt
        have T : PS.escOk c = true → escW st c r = (st.adv 2, c.toNat) := fun h => by rw [e, h]; rfl
        have N : PS.escOk c = false → escW st c r = (st.fail 2, 0) := fun h => by rw [e, h]; rfl
        have hcl2 : c.toNat = 32 ∨ c.toNat < 32 ∨ 127 ≤ c.toNat ∨ (97 ≤ c.toNat ∧ c.toNat ≤ 122) ∨ (65 ≤ c.toNat ∧ c.toNat ≤ 90) ∨ (48 ≤ c.toNat ∧ c.toNat ≤ 57) ∨ (33 ≤ c.toNat ∧ c.toNat ≤ 47) ∨ (58 ≤ c.toNat ∧ c.toNat ≤ 64) ∨ (91 ≤ c.toNat ∧ c.toNat ≤ 96) ∨ (123 ≤ c.toNat ∧ c.toNat ≤ 126) := by omega
        rcases hcl2 with hk | hk | hk | hk | hk | hk | hk | hk | hk | hk
        · rw [T (by rw [hO]; simp only [Bool.or_eq_true, Bool.and_eq_true, decide_eq_true_eq]; omega)]; exact sl_space p s st w h hs c r hno hk hr
        · rw [N (by rw [hO, Bool.eq_false_iff, ne_eq]; simp only [Bool.or_eq_true, Bool.and_eq_true, decide_eq_true_eq]; omega)]; exact sl_low p s st w h hs c r hno hk hr
        · rw [N (by rw [hO, Bool.eq_false_iff, ne_eq]; simp only [Bool.or_eq_true, Bool.and_eq_true, decide_eq_true_eq]; omega)]; exact sl_high p s st w h hs c r hno hk hr
        · rw [N (by rw [hO, Bool.eq_false_iff, ne_eq]; simp only [Bool.or_eq_true, Bool.and_eq_true, decide_eq_true_eq]; omega)]; exact sl_lc p s st w h hs c r hno hk hr
        · rw [N (by rw [hO, Bool.eq_false_iff, ne_eq]; simp only [Bool.or_eq_true, Bool.and_eq_true, decide_eq_true_eq]; omega)]; exact sl_uc p s st w h hs c r hno hk hr
        · rw [N (by rw [hO, Bool.eq_false_iff, ne_eq]; simp only [Bool.or_eq_true, Bool.and_eq_true, decide_eq_true_eq]; omega)]; exact sl_dg p s st w h hs c r hno hk hr
        · rw [T (by rw [hO]; simp only [Bool.or_eq_true, Bool.and_eq_true, decide_eq_true_eq]; omega)]; exact sl_ok1 p s st w h hs c r hno hk hr
        · rw [T (by rw [hO]; simp only [Bool.or_eq_true, Bool.and_eq_true, decide_eq_true_eq]; omega)]; exact sl_ok2 p s st w h hs c r hno hk hr
        · rw [T (by rw [hO]; simp only [Bool.or_eq_true, Bool.and_eq_true, decide_eq_true_eq]; omega)]; exact sl_ok3 p s st w h hs c r hno hk hr
        · rw [T (by rw [hO]; simp only [Bool.or_eq_true, Bool.and_eq_true, decide_eq_true_eq]; omega)]; exact sl_ok4 p s st w h hs c r hno hk hr
    · exact one_plain p s st w h hs b r hr hb
/-- the row of a set of one's own -/
def setRow (s : BS) : Obj := .cells #[.int .u64 (wN s.a), .int .u64 (wN s.b), .int .u64 (wN s.c), .int .u64 (wN s.d)] 109
/-- the reader and the set of one's own -/
structure SI (w : World) (p : Nat) (s : List UInt8) (st : PS) (S : BS) (W : World) : Prop where
  pa : PAt W p s st
  row : W.heap[w.heap.size]? = some (setRow S)
  far : Far p w W
theorem SI.drew {w : World} {p : Nat} {s : List UInt8} {st : PS} {S : BS} {W : World} (h : SI w p s st S W) (n : Nat) : SI w p s st S (W.drewN n) := ⟨h.pa.drew n, h.row, h.far.drew n⟩
theorem SI.call {w : World} {p : Nat} {s : List UInt8} {st st' : PS} {S : BS} {W W' : World} (h : SI w p s st S W) (hpw : p < w.heap.size) (hp : PAt W' p s st') (hf : Far p W W') : SI w p s st' S W' :=
  ⟨hp, (hf.block w.heap.size (Array.getElem?_eq_some_iff.1 h.row).1 (fun e => by have := Option.some.inj e; omega)).trans h.row, h.far.trans hf⟩
theorem SI.later {w : World} {p : Nat} {s : List UInt8} {st : PS} {S : BS} {W W' : World} (h : SI w p s st S W) (hb : Below W.heap.size W W') : SI w p s st S W' :=
  ⟨h.pa.later hb, (hb.block _ (Array.getElem?_eq_some_iff.1 h.row).1).trans h.row, h.far.trans (Far.below hb)⟩
theorem SI.cells {w : World} {p : Nat} {s : List UInt8} {st : PS} {S : BS} {W : World} (h : SI w p s st S W) : W.cell? ⟨w.heap.size, 0, none⟩ = some (.int .u64 (wN S.a)) ∧ W.cell? ⟨w.heap.size, 1, none⟩ = some (.int .u64 (wN S.b)) ∧ W.cell? ⟨w.heap.size, 2, none⟩ = some (.int .u64 (wN S.c)) ∧ W.cell? ⟨w.heap.size, 3, none⟩ = some (.int .u64 (wN S.d)) :=
  ⟨by rw [cell_of_row _ _ _ _ _ _ h.row]; rfl, by rw [cell_of_row _ _ _ _ _ _ h.row]; rfl, by rw [cell_of_row _ _ _ _ _ _ h.row]; rfl, by rw [cell_of_row _ _ _ _ _ _ h.row]; rfl⟩
theorem SI.store {w : World} {p : Nat} {s : List UInt8} {st : PS} {S : BS} {W : World} (h : SI w p s st S W) (hpl : p < w.heap.size) (t0 t1 t2 t3 : BitVec 64) : SI w p s st ⟨t0, t1, t2, t3⟩ ((((W.setCell ⟨w.heap.size, 0, none⟩ (.int .u64 (wN t0))).setCell ⟨w.heap.size, 1, none⟩ (.int .u64 (wN t1))).setCell ⟨w.heap.size, 2, none⟩ (.int .u64 (wN t2))).setCell ⟨w.heap.size, 3, none⟩ (.int .u64 (wN t3))) := by
  have hk : ∀ (X : World) (k j : Nat) (v : Value), k ≠ w.heap.size → (X.setCell ⟨w.heap.size, j, none⟩ v).heap[k]? = X.heap[k]? := fun X k j v hne => Below.heap_setCell _ _ _ _ hne
  refine ⟨⟨?_, h.pa.rest, h.pa.tot⟩, ?_, ?_⟩
  · rw [hk _ p _ _ (by omega), hk _ p _ _ (by omega), hk _ p _ _ (by omega), hk _ p _ _ (by omega)]; exact h.pa.row
  · have r0 := heap_setCell_same _ _ 0 _ _ (.int .u64 (wN t0)) h.row
    have r1 := heap_setCell_same _ _ 1 _ _ (.int .u64 (wN t1)) r0
    have r2 := heap_setCell_same _ _ 2 _ _ (.int .u64 (wN t2)) r1
    exact heap_setCell_same _ _ 3 _ _ (.int .u64 (wN t3)) r2
  · refine ⟨h.far.os, h.far.tape, h.far.output, by simp; exact h.far.size, fun k hlt hne => ?_⟩
    rw [hk _ k _ _ (by omega), hk _ k _ _ (by omega), hk _ k _ _ (by omega), hk _ k _ _ (by omega)]; exact h.far.block k hlt hne
/-- what is left of the text, as long as nothing has failed -/
def psMeas (p : Nat) (s : List UInt8) (W : World) : Nat := if intOf ((W.cell? ⟨p, 4, none⟩).getD undef) = 0 then s.length + 1 - (intOf ((W.cell? ⟨p, 1, none⟩).getD undef)).toNat else 0
theorem psMeas_eq {W : World} {p : Nat} {s : List UInt8} {st : PS} (h : PAt W p s st) : psMeas p s W = if st.e = 0 then s.length + 1 - st.at_ else 0 := by
  obtain ⟨c0, c1, c2, c3, c4, c5⟩ := h.cells
  unfold psMeas
  rw [c1, c4]
  simp [intOf]
theorem psMeas_lt {W W' : World} {p : Nat} {s : List UInt8} {st st' : PS} (h : PAt W p s st) (h' : PAt W' p s st') (he : st.e = 0) (hlt : st'.e = 0 → st.at_ < st'.at_) : psMeas p s W' < psMeas p s W := by
  rw [psMeas_eq h, psMeas_eq h', if_pos he]
  have := h.at_le
  split
  · rename_i e; have := hlt e; omega
  · omega
structure SetAt (w : World) (p : Nat) (s : List UInt8) (F : PS × BS) (wr : World) : Prop where
  ex : ∃ (f : Nat) (st : PS) (S : BS), SI w p s st S wr ∧ PS.setGo f st S = F ∧ (st.e = 0 → st.rest.length < f)
set_option maxRecDepth 100000 in
set_option maxHeartbeats 8000000 in
theorem psSet_any (p : Nat) (s : List UInt8) (st : PS) (w : World) (h : PAt w p s st) (hs : s.length ≤ 65536) (he : st.e = 0) :
    Calls Tryz.prog 214 #[ptr p] w fun e w' => ∃ b, e = .returned (ptr b) ∧ IsReX (· < w.heap.size) w' b (RE.one st.set.2) ∧ PAt w' p s st.set.1 ∧ Far p w w' := by
  have hsz : (⟨s.toArray⟩ : ByteArray).size = s.length := str_size s
  obtain ⟨nt, hnt⟩ : ∃ nt, nt = decide (st.rest.head? = some 94) := ⟨_, rfl⟩
  obtain ⟨F, hF⟩ : ∃ F, F = PS.setGo ((if nt then st.adv 1 else st).rest.length + 1) (if nt then st.adv 1 else st) BS.none := ⟨_, rfl⟩
  have hset : st.set = (F.1.clip, if nt then PS.set.notS' F.2 else F.2) := by rw [hF, hnt]; rfl
  rw [hset]
  have hx := re_alloc w (.cells #[.int .u64 0, .int .u64 0, .int .u64 0, .int .u64 0] 109)
  have hp1 := h.later hx
  have hB1 : (w.alloc (.cells #[.int .u64 0, .int .u64 0, .int .u64 0, .int .u64 0] 109)).heap[w.heap.size]? = some (setRow BS.none) := heap_alloc_last _ _
  have hpl : p < w.heap.size := h.lt
  have hf1 : Far p w (w.alloc (.cells #[.int .u64 0, .int .u64 0, .int .u64 0, .int .u64 0] 109)) := Far.below hx
  -- where the loop begins
  have HT : Hid (∀ W, PAt W p s (if nt then st.adv 1 else st) → W.heap[w.heap.size]? = some (setRow BS.none) → Far p w W → SetAt w p s F W) := fun W h1 h2 h3 =>
    ⟨_, _, BS.none, ⟨h1, h2, h3⟩, hF.symm, fun _ => Nat.lt_succ_self _⟩
  have hat := h.at_le
  have hrest := h.rest
  have htot := h.tot
  clear hset hF h
  generalize hW0 : w.alloc (.cells #[.int .u64 0, .int .u64 0, .int .u64 0, .int .u64 0] 109) = W0 at *
  obtain ⟨c0, c1, c2, c3, c4, c5⟩ := hp1.cells
  have f1 := hp1.frz 1
  have HP1 := Lib.hid hp1
  have HB1 := Lib.hid hB1
  have HF1 := Lib.hid hf1
  have HW0 := Lib.hid hW0
  clear hp1 hB1 hf1 hx hW0 c2 c3 c4 c5
  have f1' : ∀ n, (W0.drewN n).frozen? ⟨p, 1, none⟩ = false := fun _ => f1
  go_enter Tryz.func214, Tryz.ntmps214
  go_upto_region 2 with fail
  rw [HW0.out]
  go_cut [4] from 7 to 28 (fun s4 wx => s4 = .bool nt ∧ ∃ n, wx = W0.drewN n)
  case first =>
    match hr : st.rest with
    | [] =>
      have hnf : nt = false := by rw [hnt, hr]; rfl
      rw [hr] at htot
      have hc1 : ¬ ((st.at_ : Nat) : Int) < (s.length : Nat) := by simp at htot; omega
      have hc2 : ¬ st.at_ < s.length := by omega
      subst hnf
      clear hnt hrest htot hr
      generalize st.at_ = a at *
      go_quiet (fail)
      go_wp2_with fail
      go_meet
      exact ⟨rfl, _, rfl⟩
    | c :: r =>
      rw [hr] at hrest htot
      have hlt : st.at_ < s.length := by simp at htot; omega
      have hg : s.getD st.at_ 0 = c := by
        have : (s.drop st.at_).getD 0 0 = c := by rw [← hrest]; rfl
        rw [drop_getD] at this; simpa using this
      have hidx := fun W => str_at s st.at_ hlt W
      rw [hg] at hidx
      have hlt' : ((st.at_ : Nat) : Int) < (s.length : Nat) := by omega
      have h94 := byteIs c 94 (by omega)
      have hnf : decide (c = 94) = nt := by rw [hnt, hr]; simp
      have h94' : (((c.toNat : Nat) : Int) == 94) = nt := h94.trans hnf
      clear hnt hrest htot hr hg h94 hnf
      generalize st.at_ = a at *
      generalize c.toNat = n at *
      cases nt
      all_goals
        go_quiet (fail)
        go_wp2_with fail
        go_meet
        exact ⟨rfl, _, rfl⟩
  case rest =>
    obtain ⟨rfl, n, rfl⟩ := hcut
    go_upto_if 29 with fail
    go_cut [4] from 29 to 36 (fun s4 wx => s4 = .bool nt ∧ SetAt w p s F wx)
    case first =>
      cases hn : nt with
      | false =>
        rw [hn] at HT
        go_wp2_with fail
        go_meet
        exact ⟨by rw [hn], HT.out _ (HP1.out.drew _) (HB1.out) (HF1.out.drew _)⟩
      | true =>
        have hl1 : 1 ≤ st.rest.length := by
          cases hq : st.rest with
          | nil => rw [hn, hq] at hnt; cases hnt
          | cons _ _ => simp
        have hp2 := (HP1.out.drew n).put_adv' 1 st.at_ rfl hl1
        have hb2 : ((W0.drewN n).setCell ⟨p, 1, none⟩ (.int .i64 ((st.at_ : Int) + ((1 : Nat) : Int)))).heap[w.heap.size]? = some (setRow BS.none) := (Below.heap_setCell _ _ _ _ (by show w.heap.size ≠ p; omega)).trans HB1.out
        have hf2 := (HF1.out.drew n).set 1 (.int .i64 ((st.at_ : Int) + ((1 : Nat) : Int)))
        rw [hn] at HT
        have HR := Lib.hid (HT.out _ hp2 hb2 hf2)
        clear hp2 hb2 hf2 hnt hrest htot HT hl1
        generalize st.at_ = a at *
        go_wp2_with fail
        go_meet
        exact ⟨by rw [hn], HR.out⟩
    case rest =>
      obtain ⟨rfl, hst⟩ := hcut
      clear HT HP1 HB1 HF1 HW0 f1 f1' c0 c1 hnt hrest htot hat
      go_wp2_with fail
      go_loopw [] (fun wr => SetAt w p s F wr) (fun wr => psMeas p s wr)
      case atStart => exact hst
      case round =>
        clear hst
        obtain ⟨f, st', S, hsi, hgo, hfu⟩ := hrel
        have HSI := Lib.hid hsi
        have HGO := Lib.hid hgo
        have HFU := Lib.hid hfu
        obtain ⟨c0, c1, c2, c3, c4, c5⟩ := hsi.pa.cells
        have hat := hsi.pa.at_le
        have hrest := hsi.pa.rest
        have htot := hsi.pa.tot
        obtain ⟨go, hgo2⟩ : ∃ go, decide (st'.e = 0 ∧ st'.rest.head? ≠ some 93) = go := ⟨_, rfl⟩
        clear hgo hfu hsi c2 c3 c5
        go_upto_region 5 with fail
        go_cut [65] from 37 to 109 (fun s65 wx => s65 = .bool go ∧ ∃ n, wx = wr.drewN n)
        case first =>
          by_cases he0 : st'.e = 0
          · have ge : (((st'.e : Nat) : Int) == 0) = true := by rw [he0]; rfl
            match hr : st'.rest with
            | [] =>
              have hnf : go = true := by rw [← hgo2, hr, he0]; rfl
              rw [hr] at htot
              have hc1 : ((s.length : Nat) : Int) ≤ ((st'.at_ : Nat) : Int) := by simp at htot; omega
              have hc2 : s.length ≤ st'.at_ := by omega
              subst hnf
              clear hgo2 hrest htot hr he0
              generalize st'.at_ = a at *
              generalize st'.e = e at *
              go_quiet (fail)
              go_wp2_with fail
              go_meet
              exact ⟨rfl, _, rfl⟩
            | c :: r =>
              rw [hr] at hrest htot
              have hlt : st'.at_ < s.length := by simp at htot; omega
              have hg : s.getD st'.at_ 0 = c := by
                have : (s.drop st'.at_).getD 0 0 = c := by rw [← hrest]; rfl
                rw [drop_getD] at this; simpa using this
              have hidx := fun W => str_at s st'.at_ hlt W
              rw [hg] at hidx
              have hc1 : ¬ ((s.length : Nat) : Int) ≤ ((st'.at_ : Nat) : Int) := by omega
              have hc2 : ¬ s.length ≤ st'.at_ := by omega
              have h93 := byteIs c 93 (by omega)
              have hnf : (!decide (c = 93)) = go := by rw [← hgo2, hr, he0]; simp
              have h93' : (((c.toNat : Nat) : Int) != 93) = go := by
                rw [← hnf, bne]; congr 1
              clear hgo2 hrest htot hr hg h93 hnf he0
              generalize st'.at_ = a at *
              generalize st'.e = e at *
              generalize c.toNat = n at *
              cases go
              all_goals
                go_quiet (fail)
                go_wp2_with fail
                go_meet
                exact ⟨rfl, _, rfl⟩
          · have ge : (((st'.e : Nat) : Int) == 0) = false := by rw [beq_eq_false_iff_ne]; omega
            have hnf : go = false := by rw [← hgo2]; simp [he0]
            subst hnf
            clear hgo2 hrest htot he0
            generalize st'.e = e at *
            go_quiet (fail)
            go_wp2_with fail
            go_meet
            exact ⟨rfl, _, rfl⟩
        case rest =>
          obtain ⟨rfl, n, rfl⟩ := hcut
          clear c0 c1 c4 hat hrest htot
          have HS1 := Lib.hid (HSI.out.drew n)
          generalize wr.drewN n = W at *
          cases go with
          | true =>
            have hcond : st'.e = 0 ∧ st'.rest.head? ≠ some 93 := of_decide_eq_true hgo2
            have HCOND := Lib.hid hcond
            clear hcond hgo2
            go_wp2_with fail
            refine (one_any p s st' _ HS1.out.pa hs).mono ?_
            rintro e w2 ⟨rfl, hp2, hf2⟩
            have HS2 := Lib.hid (HS1.out.call hpl hp2 hf2)
            obtain ⟨st1, hst1⟩ : ∃ x, st'.one = x := ⟨_, rfl⟩
            have HST1 := Lib.hid hst1
            rw [hst1] at HS2 ⊢
            clear hp2 hf2 hst1 HS1
            have hone := (PS.one_run HCOND.out.1)
            rw [HST1.out] at hone
            have HONE := Lib.hid hone
            have hb1 : st1.2 < 256 := hone.2.2
            obtain ⟨c0, c1, c2, c3, c4, c5⟩ := HS2.out.pa.cells
            have f1 := HS2.out.pa.frz 1
            have hrest := HS2.out.pa.rest
            have htot := HS2.out.pa.tot
            obtain ⟨go, hgo2⟩ : ∃ go, decide (st1.1.rest.head? = some 45) = go := ⟨_, rfl⟩
            clear hone c2 c3 c4 c5
            go_upto_region 8 with fail
            go_cut [90] from 37 to 109 (fun s90 wx => s90 = .bool go ∧ ∃ n, wx = w2.drewN n)
            case first =>
              match hr : st1.1.rest with
              | [] =>
                have hnf : go = false := by rw [← hgo2, hr]; rfl
                rw [hr] at htot
                have hc1 : ¬ ((st1.1.at_ : Nat) : Int) < (s.length : Nat) := by simp at htot; omega
                have hc2 : ¬ st1.1.at_ < s.length := by omega
                subst hnf
                clear hgo2 hrest htot hr
                generalize st1.1.at_ = a at *
                go_quiet (fail)
                go_wp2_with fail
                go_meet
                exact ⟨rfl, _, rfl⟩
              | c :: r =>
                rw [hr] at hrest htot
                have hlt : st1.1.at_ < s.length := by simp at htot; omega
                have hg : s.getD st1.1.at_ 0 = c := by
                  have : (s.drop st1.1.at_).getD 0 0 = c := by rw [← hrest]; rfl
                  rw [drop_getD] at this; simpa using this
                have hidx := fun W => str_at s st1.1.at_ hlt W
                rw [hg] at hidx
                have hlt' : ((st1.1.at_ : Nat) : Int) < (s.length : Nat) := by omega
                have h45 := byteIs c 45 (by omega)
                have hnf : decide (c = 45) = go := by rw [← hgo2, hr]; simp
                have h45' : (((c.toNat : Nat) : Int) == 45) = go := h45.trans hnf
                clear hgo2 hrest htot hr hg h45 hnf
                generalize st1.1.at_ = a at *
                generalize c.toNat = n at *
                cases go
                all_goals
                  go_quiet (fail)
                  go_wp2_with fail
                  go_meet
                  exact ⟨rfl, _, rfl⟩
            case rest =>
              obtain ⟨rfl, n, rfl⟩ := hcut
              have HS3 := Lib.hid (HS2.out.drew n)
              obtain ⟨st2, hst2⟩ : ∃ x, (if st1.1.rest.head? = some 45 then (st1.1.adv 1).one else st1) = x := ⟨_, rfl⟩
              have HST2 := Lib.hid hst2
              go_upto_if 90 with fail
              go_cut [6] from 37 to 109 (fun s6 wx => s6 = .int .u8 (st2.2 : Nat) ∧ st2.2 < 256 ∧ SI w p s st2.1 S wx)
              case first =>
                cases go with
                | false =>
                  have e : st1 = st2 := by rw [← hst2, if_neg (of_decide_eq_false hgo2)]
                  subst e
                  clear hst2 hgo2 hrest htot c0 c1
                  go_wp2_with fail
                  go_meet
                  exact ⟨rfl, hb1, HS3.out⟩
                | true =>
                  have hd := of_decide_eq_true hgo2
                  have e : (st1.1.adv 1).one = st2 := by rw [← hst2, if_pos hd]
                  have he1 : st1.1.e = 0 := by
                    rcases HONE.out.1.err with e | ⟨_, _, _, hr⟩
                    · exact e
                    · rw [hr] at hd; cases hd
                  have hl1 : 1 ≤ st1.1.rest.length := by
                    cases hq : st1.1.rest with
                    | nil => rw [hq] at hd; cases hd
                    | cons _ _ => simp
                  have hb2 : st2.2 < 256 := by rw [← e]; exact (PS.one_run (a := st1.1.adv 1) he1).2.2
                  have hp4 := HS3.out.pa.put_adv' 1 st1.1.at_ rfl hl1
                  have hs4 : SI w p s (st1.1.adv 1) S ((w2.drewN n).setCell ⟨p, 1, none⟩ (.int .i64 ((st1.1.at_ : Int) + ((1 : Nat) : Int)))) := HS3.out.call hpl hp4 ((Far.refl _ _).set _ _)
                  have HS4 := Lib.hid hs4
                  have HE := Lib.hid e
                  have hat4 : st1.1.at_ < s.length := by omega
                  clear hst2 hgo2 hrest htot hd e hp4 hs4 hl1 he1
                  obtain ⟨a, HAT⟩ : ∃ a, Hid (st1.1.at_ = a) := ⟨_, rfl⟩
                  rw [HAT.out] at HS4 c1 hat4
                  go_wp2_with fail
                  refine (one_any p s (st1.1.adv 1) _ HS4.out.pa hs).mono ?_
                  rintro e w5 ⟨rfl, hp5, hf5⟩
                  have HS5 := Lib.hid (HS4.out.call hpl hp5 hf5)
                  rw [HE.out] at HS5 ⊢
                  clear hp5 hf5
                  go_wp2_with fail
                  go_meet
                  exact ⟨rfl, hb2, HS5.out⟩
              case rest =>
                obtain ⟨rfl, hb2, hs6⟩ := hcut
                clear HS2 HS3 c0 c1 f1 hrest htot hgo2 hst2
                have HS6 := Lib.hid hs6
                clear hs6
                obtain ⟨st3, hst3⟩ : ∃ x, (if st2.2 < st1.2 then st2.1.fail 2 else st2.1) = x := ⟨_, rfl⟩
                have HST3 := Lib.hid hst3
                go_upto_if 102 with fail
                go_cut [6] from 37 to 109 (fun s6 wx => s6 = .int .u8 (st2.2 : Nat) ∧ SI w p s st3 S wx)
                case first =>
                  by_cases hgt : st2.2 < st1.2
                  · have e : st2.1.fail 2 = st3 := by rw [← hst3, if_pos hgt]
                    have HE := Lib.hid e
                    clear hst3 e
                    go_wp2_with fail
                    refine (psFail_any p s st2.1 _ HS6.out.pa hs 2 (by omega)).mono ?_
                    rintro e w7 ⟨rfl, hp7, hf7⟩
                    have HS7 := Lib.hid (HS6.out.call hpl hp7 hf7)
                    rw [HE.out] at HS7
                    clear hp7 hf7
                    go_wp2_with fail
                    go_meet
                    exact ⟨rfl, HS7.out⟩
                  · have e : st2.1 = st3 := by rw [← hst3, if_neg hgt]
                    have HE := Lib.hid e
                    clear hst3 e
                    go_wp2_with fail
                    go_meet
                    exact ⟨rfl, HE.out ▸ HS6.out⟩
                case rest =>
                  obtain ⟨rfl, hs7⟩ := hcut
                  have HS7 := Lib.hid hs7
                  have hcells := hs7.cells
                  clear hs7 HS6 hst3
                  obtain ⟨s0, s1, s2, s3⟩ := S
                  obtain ⟨SS, hSS⟩ : ∃ SS : World → Prop, ∀ W', SS W' ↔ (W'.cell? ⟨w.heap.size, 0, none⟩ = some (.int .u64 (wN s0)) ∧ W'.cell? ⟨w.heap.size, 1, none⟩ = some (.int .u64 (wN s1)) ∧ W'.cell? ⟨w.heap.size, 2, none⟩ = some (.int .u64 (wN s2)) ∧ W'.cell? ⟨w.heap.size, 3, none⟩ = some (.int .u64 (wN s3))) := ⟨_, fun _ => Iff.rfl⟩
                  have cs : ∀ q : InC SS, q.w.cell? ⟨w.heap.size, 0, none⟩ = some (.int .u64 (wN s0)) ∧ q.w.cell? ⟨w.heap.size, 1, none⟩ = some (.int .u64 (wN s1)) ∧ q.w.cell? ⟨w.heap.size, 2, none⟩ = some (.int .u64 (wN s2)) ∧ q.w.cell? ⟨w.heap.size, 3, none⟩ = some (.int .u64 (wN s3)) := fun q => (hSS q.w).1 q.h
                  have hS0 : SS wc.drew := (hSS _).2 hcells
                  have hne : Nonempty (InC SS) := ⟨⟨_, hS0⟩⟩
                  have HFR := Lib.hid (fun W => From_any st1.2 st2.2 hb1 hb2 W)
                  generalize hR : BS.run st1.2 (st2.2 + 1 - st1.2) = R at *
                  have HR := Lib.hid hR
                  have HSS := Lib.hid hSS
                  clear hR hSS hcells
                  obtain ⟨r0, r1, r2, r3⟩ := R
                  have HS8 := Lib.hid ((show SI w p s st3 ⟨s0, s1, s2, s3⟩ wc.drew from HS7.out.drew 1))
                  clear HS7
                  go_wp2_with fail
                  refine wp_region_mix SS [0, 1, 2] [0, 1, 2, 3, 4, 5] (by kernel_rfl) (by kernel_rfl) hS0 ?_
                  (repeat ((with_reducible refine wpMix_read (o := ?_) ?_ ?_ ?_); rotate_left; (· rfl); (· rfl); go_big_quiet_step (fail); (with_reducible refine wpQuiet_nil ?_)))
                  clear cs hne hS0
                  generalize wc.drew = W7 at *
                  refine wpMix_eff (k := true) rfl rfl (by kernel_rfl) ?_
                  go_wp2_with fail
                  refine (HFR.out _).mono ?_
                  rintro e w8 ⟨rfl, hb8⟩
                  have HS9 := Lib.hid (HS8.out.later hb8)
                  have hS9 := (HSS.out _).2 HS9.out.cells
                  clear hb8
                  go_wp2_with fail
                  refine mixPost_keep hS9 ?_
                  refine wpMix_eff (k := false) rfl rfl (by kernel_rfl) ?_
                  go_wp2_with fail
                  refine (Or_any s0 s1 s2 s3 r0 r1 r2 r3 _).mono ?_
                  rintro e w9 ⟨rfl, hb9⟩
                  have HS10 := Lib.hid (HS9.out.later hb9)
                  have hfz : ∀ j, w9.frozen? ⟨w.heap.size, j, none⟩ = false := fun j => frozen_of_row _ _ j _ _ HS10.out.row
                  obtain ⟨q0, q1, q2, q3⟩ := HS10.out.cells
                  clear hb9
                  go_wp2_with fail
                  refine mixPost_last ?_
                  refine wpMix_eff (k := false) rfl rfl (by kernel_rfl) ?_
                  go_wp2_with fail
                  have HS11 := Lib.hid (HS10.out.store hpl (s0 ||| r0) (s1 ||| r1) (s2 ||| r2) (s3 ||| r3))
                  clear q0 q1 q2 q3 hfz
                  have hstep : PS.setStep st' ⟨s0, s1, s2, s3⟩ = (st3, ⟨s0 ||| r0, s1 ||| r1, s2 ||| r2, s3 ||| r3⟩) := by
                    unfold PS.setStep
                    simp only [HST1.out, HST2.out, HST3.out]
                    rw [show PS.fromS st1.2 st2.2 = ⟨r0, r1, r2, r3⟩ from HR.out]; rfl
                  have hrun := PS.setStep_run HCOND.out.1 (⟨s0, s1, s2, s3⟩ : BS)
                  rw [hstep] at hrun
                  have HSTEP := Lib.hid hstep
                  have HRUN := Lib.hid hrun
                  clear hstep hrun
                  refine mixPost_last (wpMix_nil ?_)
                  go_wp2_with fail
                  go_roundw
                  case rel =>
                    have hfu := HFU.out HCOND.out.1
                    obtain ⟨f', rfl⟩ : ∃ f', f = f' + 1 := ⟨f - 1, by omega⟩
                    refine ⟨f', st3, _, HS11.out, ?_, fun e => ?_⟩
                    · have hg := HGO.out
                      rw [PS.setGo, if_pos HCOND.out, HSTEP.out] at hg
                      exact hg
                    · have := PS.rest_lt' HRUN.out.1 (HRUN.out.2.1 e)
                      simp only at this
                      omega
                  case measure => exact psMeas_lt HSI.out.pa HS11.out.pa HCOND.out.1 HRUN.out.2.1
          | false =>
            have hF2 : F = (st', S) := by
              rw [← HGO.out]
              have hc := of_decide_eq_false hgo2
              cases f with
              | zero => rfl
              | succ f => rw [PS.setGo, if_neg hc]
            subst hF2
            clear hgo2 HGO HFU HSI
            obtain ⟨c0, c1, c2, c3, c4, c5⟩ := HS1.out.pa.cells
            have f1 := HS1.out.pa.frz 1
            have hat := HS1.out.pa.at_le
            have htot := HS1.out.pa.tot
            have hclr : st'.clip.rest = s.drop st'.clip.at_ ∧ st'.clip.at_ + st'.clip.rest.length = s.length := by
              have hr := HS1.out.pa.rest
              unfold PS.clip
              simp only
              rw [List.length_drop]
              refine ⟨?_, by omega⟩
              by_cases hl : st'.rest = []
              · rw [hl, List.drop_nil]; symm; apply List.drop_eq_nil_of_le; rw [hl] at htot; simp at htot; omega
              · have : 1 ≤ st'.rest.length := List.length_pos_iff.2 hl
                rw [show min 1 st'.rest.length = 1 by omega, ← List.drop_drop, ← hr]
            have hcat : st'.clip.at_ = st'.at_ + min 1 st'.rest.length := rfl
            have hmin : min ((st'.at_ : Int) + 1) ((s.length : Nat) : Int) = ((st'.clip.at_ : Nat) : Int) := by rw [hcat]; omega
            have hw5 : SI w p s st'.clip S (W.drew.setCell ⟨p, 1, none⟩ (.int .i64 (st'.clip.at_ : Nat))) :=
              (HS1.out.drew 1).call hpl ((HS1.out.pa.drew 1).put 1 _ rfl hclr.1 hclr.2) ((Far.refl _ _).set _ _)
            have HW5 := Lib.hid hw5
            obtain ⟨SS, hSS⟩ : ∃ SS : World → Prop, ∀ W', SS W' ↔ (W'.cell? ⟨p, 0, none⟩ = some (.string ⟨s.toArray⟩) ∧ W'.cell? ⟨p, 1, none⟩ = some (.int .i64 (st'.at_ : Nat))) := ⟨_, fun _ => Iff.rfl⟩
            have cs : ∀ q : InC SS, q.w.cell? ⟨p, 0, none⟩ = some (.string ⟨s.toArray⟩) ∧ q.w.cell? ⟨p, 1, none⟩ = some (.int .i64 (st'.at_ : Nat)) := fun q => (hSS q.w).1 q.h
            have hS0 : SS W.drew := (hSS _).2 ⟨c0, c1⟩
            have hne : Nonempty (InC SS) := ⟨⟨_, hS0⟩⟩
            have f1' : W.drew.frozen? ⟨p, 1, none⟩ = false := f1
            have d1 : W.drew.cell? ⟨p, 1, none⟩ = some (.int .i64 (st'.at_ : Nat)) := c1
            clear c0 c1 c2 c3 c4 c5 f1 hclr hcat hw5 hSS htot
            obtain ⟨ca, hca⟩ : ∃ ca : Nat, st'.clip.at_ = ca := ⟨_, rfl⟩
            rw [hca] at hmin HW5
            generalize st'.at_ = a at *
            go_wp2_with fail
            refine wp_region_mix SS [0, 1, 2, 3, 4, 5, 6, 7, 8, 9, 10, 12, 13] [0, 1, 2, 3, 4, 5, 6, 7, 8, 9, 10, 11, 12, 13, 14] (by kernel_rfl) (by kernel_rfl) hS0 ?_
            (repeat ((with_reducible refine wpMix_read (o := ?_) ?_ ?_ ?_); rotate_left; (· rfl); (· rfl); go_big_quiet_step (fail); (with_reducible refine wpQuiet_nil ?_)))
            generalize W.drew = W7 at *
            refine wpMix_eff (k := true) rfl rfl (by kernel_rfl) ?_
            go_wp2_with fail
            refine mixPost_keep hS0 ?_
            (repeat ((with_reducible refine wpMix_read (o := ?_) ?_ ?_ ?_); rotate_left; (· rfl); (· rfl); go_big_quiet_step (fail); (with_reducible refine wpQuiet_nil ?_)))
            clear cs hne hS0
            refine wpMix_eff (k := false) rfl rfl (by kernel_rfl) ?_
            go_wp2_with fail
            refine mixPost_last (wpMix_nil ?_)
            obtain ⟨s0, s1, s2, s3⟩ := S
            generalize W7.setCell ⟨p, 1, none⟩ (.int .i64 (ca : Nat)) = W8 at *
            obtain ⟨q0, q1, q2, q3⟩ := HW5.out.cells
            have hfz : ∀ j, W8.frozen? ⟨w.heap.size, j, none⟩ = false := fun j => frozen_of_row _ _ j _ _ HW5.out.row
            cases nt with
            | false =>
              go_wp2_with fail
              refine (One_any s0 s1 s2 s3 _).mono ?_
              rintro e w9 ⟨b, rfl, hone, hb9⟩
              have HS9 := Lib.hid (HW5.out.later hb9)
              have HON : Hid (IsReX (· < w.heap.size) w9 b (RE.one ⟨s0, s1, s2, s3⟩)) := hone.mono fun k hk hlt => Nat.lt_of_lt_of_le hlt HW5.out.far.size
              clear hone hb9
              go_wp2_with fail
              go_ret
              exact ⟨b, rfl, HON.out, HS9.out.pa, HS9.out.far⟩
            | true =>
              go_wp2_with fail
              refine (Not_any s0 s1 s2 s3 _).mono ?_
              rintro e w9 ⟨rfl, hb9⟩
              have HS9 := Lib.hid (HW5.out.later hb9)
              have hfz9 : ∀ j, w9.frozen? ⟨w.heap.size, j, none⟩ = false := fun j => frozen_of_row _ _ j _ _ HS9.out.row
              have HS10 := Lib.hid (HS9.out.store hpl (~~~s0) (~~~s1) (~~~s2) (~~~s3))
              obtain ⟨v0, v1, v2, v3⟩ := HS9.out.cells
              clear hb9 q0 q1 q2 q3 hfz
              go_wp2_with fail
              refine (One_any _ _ _ _ _).mono ?_
              rintro e w11 ⟨b, rfl, hone, hb11⟩
              have HS11 := Lib.hid (HS10.out.later hb11)
              have HON : Hid (IsReX (· < w.heap.size) w11 b (RE.one ⟨~~~s0, ~~~s1, ~~~s2, ~~~s3⟩)) := hone.mono fun k hk hlt => Nat.lt_of_lt_of_le hlt HS10.out.far.size
              clear hone hb11
              go_wp2_with fail
              go_ret
              exact ⟨b, rfl, HON.out, HS11.out.pa, HS11.out.far⟩
end Go.Proofs.YtgamknphlmcgnaaGreatDoor
namespace Go.Proofs.YtgamknphlmcgnaaGreatDoor
open Go.RowKit
/-- an expression lies as it lay, whatever the reader did -/
theorem IsRe.far {p b : Nat} {s : List UInt8} {st : PS} {r : RE} {W W' : World} (h : IsRe W b r) (hp : PAt W p s st) (hf : Far p W W') : IsRe W' b r :=
  h.put hp.row (by decide) (by decide) fun k hk hne => hf.block k hk fun e => hne (Option.some.inj e)
theorem IsReO.far {p : Nat} {s : List UInt8} {st : PS} {v : Value} {o : Option RE} {W W' : World} (h : IsReO W v o) (hp : PAt W p s st) (hf : Far p W W') : IsReO W' v o := by
  cases o with
  | none => exact h
  | some r => obtain ⟨b, h1, h2⟩ := h; exact ⟨b, h1, h2.far hp hf⟩
/-- what reading a part leaves -/
def PrPost (p : Nat) (s : List UInt8) (w : World) (r : PS × Option RE) (e : Ending) (w' : World) : Prop := ∃ v, e = .returned v ∧ IsReO w' v r.2 ∧ PAt w' p s r.1 ∧ Far p w w'
/-- how what stands in parentheses is read, in the program -/
def Orr (d : Nat) (p : Nat) (s : List UInt8) (f : PS → PS × Option RE) : Prop := ∀ (st : PS) (w : World), PAt w p s st → PS.At d st → Calls Tryz.prog 72 #[ptr p] w (PrPost p s w (f st))
namespace PS
def paren (f : PS → PS × Option RE) (st : PS) : PS × Option RE :=
  let r := f st
  let u := r.1.take 41
  let st3 := if u.2 then u.1 else u.1.fail 2
  ({ st3 with deep := st3.deep - 1 }, r.2)
def open_ (f : PS → PS × Option RE) (st : PS) : PS × Option RE :=
  let st2 := { st with deep := st.deep + 1 }
  if 60 < st2.deep then (st2.fail 4, none)
  else
    let t := (st2.adv 1).take 41
    if t.2 then ({ t.1 with deep := t.1.deep - 1 }, some RE.empty) else paren f t.1
def atom1 (f : PS → PS × Option RE) (st : PS) : PS × Option RE :=
  if st.rest.head? = some 40 then open_ f st
  else if st.rest.head? = some 91 then ((st.adv 1).set.1, some (RE.one (st.adv 1).set.2))
  else if st.rest.head? = some 46 then (st.adv 1, some (RE.one BS.all))
  else (st.one.1, some (RE.one (BS.none.add st.one.2)))
theorem atom_eq (f : PS → PS × Option RE) (st : PS) (h : ¬ 1000 < st.nodes + 1) : atom f st = atom1 f ({ st with nodes := st.nodes + 1 } : PS).skip := by
  unfold atom; simp only; rw [if_neg h]; rfl
theorem atom_many (f : PS → PS × Option RE) (st : PS) (h : 1000 < st.nodes + 1) : atom f st = (({ st with nodes := st.nodes + 1 } : PS).fail 3, none) := by
  unfold atom; simp only; rw [if_pos h]
theorem head_is {st : PS} {c : UInt8} (hc : c ≠ 0) : st.rest.head? = some c ↔ st.head = c := by
  unfold head
  cases hq : st.rest with
  | nil => simp; exact fun e => hc e.symm
  | cons a l => simp
end PS
set_option maxRecDepth 100000 in
set_option maxHeartbeats 8000000 in
theorem atom_any (d p : Nat) (s : List UInt8) (hs : s.length ≤ 65536) (f : PS → PS × Option RE) (hf : ∀ d', d' + 1 = d → PS.Gd d' f ∧ Orr d' p s f ∧ ∀ a, PS.At d' a → PS.Dk a (f a).1) (st : PS) (w : World) (h : PAt w p s st) (ha : PS.At d st) :
    Calls Tryz.prog 202 #[ptr p] w (PrPost p s w (PS.atom f st)) := by
  obtain ⟨he, hn, hd⟩ := ha
  obtain ⟨c0, c1, c2, c3, c4, c5⟩ := h.cells
  have f3 := h.frz 3
  have hp1 : PAt (w.setCell ⟨p, 3, none⟩ (.int .i64 ((st.nodes : Int) + 1))) p s { st with nodes := st.nodes + 1 } :=
    h.put 3 _ (by rfl) h.rest h.tot
  have HP1 := Lib.hid hp1
  have HF1 := Lib.hid ((Far.refl p w).set 3 (.int .i64 ((st.nodes : Int) + 1)))
  by_cases hbig : 1000 < st.nodes + 1
  · have HA := Lib.hid (PS.atom_many f st hbig)
    rw [HA.out]
    have hb1 : (1000 : Int) < (st.nodes : Int) + 1 := by omega
    clear hp1 h hf he c0 c1 c2 c4 c5
    obtain ⟨n, HN⟩ : ∃ n, Hid (st.nodes = n) := ⟨_, rfl⟩
    rw [HN.out] at c3 HP1 HF1 hb1 hn hbig ⊢
    go_enter Tryz.func202, Tryz.ntmps202
    go_wp2_with fail
    refine (psFail_any p s _ _ HP1.out hs 3 (by omega)).mono ?_
    rintro e w2 ⟨rfl, hp2, hf2⟩
    go_wp2_with fail
    go_ret
    exact ⟨_, rfl, rfl, hp2, HF1.out.trans hf2⟩
  · have HA := Lib.hid (PS.atom_eq f st hbig)
    rw [HA.out]
    have hb1 : ¬ (1000 : Int) < (st.nodes : Int) + 1 := by omega
    have hn1 : st.nodes + 1 ≤ 1000 := by omega
    have hskn : ({ st with nodes := st.nodes + 1 } : PS).skip.nodes = st.nodes + 1 := rfl
    have hskd : ({ st with nodes := st.nodes + 1 } : PS).skip.deep = st.deep := rfl
    have hske : ({ st with nodes := st.nodes + 1 } : PS).skip.e = 0 := he
    have HPK := Lib.hid (psPeek_any p s _ _ hp1 hs)
    clear hp1 h c0 c1 c2 c4 c5
    generalize ({ st with nodes := st.nodes + 1 } : PS).skip = sk at *
    have HSN := Lib.hid hskn
    have HSD := Lib.hid hskd
    have HSE := Lib.hid hske
    clear hskn hskd hske he
    generalize st.nodes = n at *
    generalize st.deep = dp at *
    go_enter Tryz.func202, Tryz.ntmps202
    go_wp2_with fail
    refine HPK.out.mono ?_
    rintro e w2 ⟨rfl, hp2, hf2⟩
    have HP2 := Lib.hid hp2
    have HF2 := Lib.hid (HF1.out.trans hf2)
    obtain ⟨d0, d1, d2, d3, d4, d5⟩ := hp2.cells
    have g1 := hp2.frz 1
    have g2 := hp2.frz 2
    rw [HSD.out] at d2
    have hat := hp2.at_le
    have H40 := Lib.hid (PS.head_is (st := sk) (c := 40) (by decide))
    have H91 := Lib.hid (PS.head_is (st := sk) (c := 91) (by decide))
    have H46 := Lib.hid (PS.head_is (st := sk) (c := 46) (by decide))
    have b40 := byteIs sk.head 40 (by omega)
    have b91 := byteIs sk.head 91 (by omega)
    have b46 := byteIs sk.head 46 (by omega)
    have hhl : ∀ c, sk.rest.head? = some c → 1 ≤ sk.rest.length := fun c hc => by
      cases hq : sk.rest with
      | nil => rw [hq] at hc; cases hc
      | cons _ _ => simp
    have HHL := Lib.hid hhl
    clear hp2 hf2 HP1 HF1 HPK c3 f3 hbig hb1 hhl
    by_cases h40 : sk.head = 40
    · have e40 : (((sk.head.toNat : Nat) : Int) == 40) = true := b40.trans (decide_eq_true h40)
      have hh := H40.out.2 h40
      have HA1 : Hid (PS.atom1 f sk = PS.open_ f sk) := by show _ = _; unfold PS.atom1; rw [if_pos hh]
      have hp3 : PAt (w2.setCell ⟨p, 2, none⟩ (.int .i64 ((dp : Int) + 1))) p s { sk with deep := sk.deep + 1 } := HP2.out.put 2 _ (by rw [← HSD.out]; rfl) HP2.out.rest HP2.out.tot
      have HF3 := Lib.hid (HF2.out.set 2 (.int .i64 ((dp : Int) + 1)))
      by_cases h60 : 60 < sk.deep + 1
      · have HA2 : Hid (PS.open_ f sk = (({ sk with deep := sk.deep + 1 } : PS).fail 4, none)) := by show _ = _; unfold PS.open_; simp only; rw [if_pos h60]
        have b60 : (60 : Int) < (dp : Int) + 1 := by have := HSD.out; omega
        have HP3 := Lib.hid hp3
        clear b40 b91 b46 h40 hh hp3 h60 d0 d1 d3 d4 d5
        generalize sk.head.toNat = hn at *
        go_wp2_with fail
        refine (psFail_any p s _ _ HP3.out hs 4 (by omega)).mono ?_
        rintro e w4 ⟨rfl, hp4, hf4⟩
        go_wp2_with fail
        go_ret
        rw [HA1.out, HA2.out]
        exact ⟨_, rfl, rfl, hp4, HF3.out.trans hf4⟩
      · have b60 : ¬ (60 : Int) < (dp : Int) + 1 := by have := HSD.out; omega
        have hl1 := HHL.out _ hh
        have hp4 := hp3.put_adv' 1 sk.at_ rfl hl1
        have HP4 := Lib.hid hp4
        have HF4 := Lib.hid (HF3.out.set 1 (.int .i64 ((sk.at_ : Int) + ((1 : Nat) : Int))))
        have HT := Lib.hid (fun W (h : PAt W p s (({ sk with deep := sk.deep + 1 } : PS).adv 1)) => psTake_any p s _ W h hs 41 (by decide))
        have hts := PS.take_same (({ sk with deep := sk.deep + 1 } : PS).adv 1) 41
        have HA2 : Hid (PS.open_ f sk = if ((({ sk with deep := sk.deep + 1 } : PS).adv 1).take 41).2 then ({ ((({ sk with deep := sk.deep + 1 } : PS).adv 1).take 41).1 with deep := ((({ sk with deep := sk.deep + 1 } : PS).adv 1).take 41).1.deep - 1 }, some RE.empty) else PS.paren f ((({ sk with deep := sk.deep + 1 } : PS).adv 1).take 41).1) := by show _ = _; unfold PS.open_; simp only; rw [if_neg h60]
        clear b40 b91 b46 h40 hh hp3 hp4 hl1 d0 d3 d4 d5
        generalize ((({ sk with deep := sk.deep + 1 } : PS).adv 1).take 41) = t at *
        have htd : t.1.deep = sk.deep + 1 := hts.2.2.1
        have hte : t.1.e = 0 := hts.1.trans HSE.out
        have htn : t.1.nodes = n + 1 := hts.2.1.trans HSN.out
        have HTD := Lib.hid htd; have HTE := Lib.hid hte; have HTN := Lib.hid htn
        clear hts htd hte htn
        obtain ⟨a, HAT⟩ : ∃ a, Hid (sk.at_ = a) := ⟨_, rfl⟩
        rw [HAT.out] at d1 hat
        rw [show ((sk.at_ : Nat) : Int) = (a : Int) by rw [HAT.out]] at HP4 HF4
        generalize sk.head.toNat = hn at *
        obtain ⟨t1, t2⟩ := t
        have H60 := Lib.hid h60
        clear h60
        cases t2 with
        | true =>
          go_wp2_with fail
          refine (HT.out _ HP4.out).mono ?_
          rintro e w5 ⟨rfl, hp5, hf5⟩
          have HP5 := Lib.hid hp5
          have HF5 := Lib.hid (HF4.out.trans hf5)
          obtain ⟨k0, k1, k2, k3, k4, k5⟩ := hp5.cells
          have g2' := hp5.frz 2
          rw [show t1.deep = dp + 1 from HTD.out.trans (by rw [HSD.out])] at k2
          have hp6 : PAt (w5.setCell ⟨p, 2, none⟩ (.int .i64 (dp : Int))) p s { t1 with deep := t1.deep - 1 } := HP5.out.put 2 _ (by rw [show t1.deep = dp + 1 from HTD.out.trans (by rw [HSD.out])]; rfl) HP5.out.rest HP5.out.tot
          have HP6 := Lib.hid hp6
          have HF6 := Lib.hid (HF5.out.set 2 (.int .i64 (dp : Int)))
          clear hp5 hf5 hp6 k0 k1 k3 k4 k5
          go_wp2_with fail
          refine (EmptyRe_any _).mono ?_
          rintro e w7 ⟨b, rfl, hem, hb7⟩
          have HEM := Lib.hid hem.is
          have HP7 := Lib.hid (HP6.out.later hb7)
          have HF7 := Lib.hid (HF6.out.trans (Far.below hb7))
          clear hem hb7
          go_wp2_with fail
          go_ret
          rw [HA1.out, HA2.out]
          exact ⟨_, rfl, ⟨b, rfl, HEM.out⟩, HP7.out, HF7.out⟩
        | false =>
          have hdd : d - 1 + 1 = d := by have := H60.out; have := HSD.out; omega
          obtain ⟨hG, hO, hD⟩ := hf (d - 1) hdd
          have htn : t1.nodes = n + 1 := HTN.out
          have htd : t1.deep = dp + 1 := HTD.out.trans (by rw [HSD.out])
          have hat1 : PS.At (d - 1) t1 := ⟨HTE.out, by omega, by have := HSD.out; omega⟩
          have hdk := hD t1 hat1
          have HORR := Lib.hid (fun W (h : PAt W p s t1) => hO t1 W h hat1)
          obtain ⟨⟨r1, r2⟩, hfr⟩ : ∃ r, f t1 = r := ⟨_, rfl⟩
          rw [hfr] at hdk HORR
          have HTK := Lib.hid (fun W (h : PAt W p s r1) => psTake_any p s _ W h hs 41 (by decide))
          have hdp : 1 ≤ r1.deep ∧ r1.deep ≤ 61 := ⟨by have := hdk.1; simp only at this; omega, hdk.2⟩
          have hud := PS.take_deep r1 41
          have HPAR : Hid (PS.paren f t1 = ({ (if (r1.take 41).2 then (r1.take 41).1 else (r1.take 41).1.fail 2) with deep := (if (r1.take 41).2 then (r1.take 41).1 else (r1.take 41).1.fail 2).deep - 1 }, r2)) := by show _ = _; unfold PS.paren; rw [hfr]
          clear hf hG hO hD hdk hat1 hfr hdd
          generalize r1.take 41 = u at *
          obtain ⟨u1, u2⟩ := u
          simp only at hud
          go_wp2_with fail
          refine (HT.out _ HP4.out).mono ?_
          rintro e w5 ⟨rfl, hp5, hf5⟩
          have HP5 := Lib.hid hp5
          have HF5 := Lib.hid (HF4.out.trans hf5)
          clear hp5 hf5
          go_wp2_with fail
          refine (HORR.out _ HP5.out).mono ?_
          rintro e w6 ⟨v, rfl, hre, hp6, hf6⟩
          have HP6 := Lib.hid hp6
          have HF6 := Lib.hid (HF5.out.trans hf6)
          have HRE := Lib.hid hre
          clear hp6 hf6 hre
          go_wp2_with fail
          refine (HTK.out _ HP6.out).mono ?_
          rintro e w7 ⟨rfl, hp7, hf7⟩
          have HRE7 := Lib.hid (HRE.out.far HP6.out hf7)
          have HP7 := Lib.hid hp7
          have HF7 := Lib.hid (HF6.out.trans hf7)
          have k2 := hp7.cells.2.2.1
          have g2' := hp7.frz 2
          cases u2 with
          | true =>
            have hp8 : PAt (w7.setCell ⟨p, 2, none⟩ (.int .i64 ((u1.deep : Int) - 1))) p s { u1 with deep := u1.deep - 1 } := HP7.out.put 2 _ (by rw [show ((u1.deep : Int) - 1) = ((u1.deep - 1 : Nat) : Int) by omega]; rfl) HP7.out.rest HP7.out.tot
            have HP8 := Lib.hid hp8
            have HF8 := Lib.hid (HF7.out.set 2 (.int .i64 ((u1.deep : Int) - 1)))
            have HRE8 := Lib.hid (HRE7.out.far HP7.out ((Far.refl p w7).set 2 (.int .i64 ((u1.deep : Int) - 1))))
            clear hp7 hf7 hp8
            have hdl : 1 ≤ u1.deep := by omega
            have hdu : u1.deep ≤ 61 := by omega
            have HA2' := Lib.hid (HA2.out.trans (if_neg (by simp)))
            clear hud hdp
            obtain ⟨ud, HUD⟩ : ∃ x, Hid (u1.deep = x) := ⟨_, rfl⟩
            rw [HUD.out] at k2 hdl hdu HP8 HF8 HRE8
            go_wp2_with fail
            go_ret
            rw [HA1.out, HA2'.out, HPAR.out]
            (try simp only [if_true, if_false, Bool.false_eq_true])
            simp only [HUD.out]
            exact ⟨_, rfl, HRE8.out, HP8.out, HF8.out⟩
          | false =>
            have HA2' := Lib.hid (HA2.out.trans (if_neg (by simp)))
            go_wp2_with fail
            refine (psFail_any p s _ _ HP7.out hs 2 (by omega)).mono ?_
            rintro e w8 ⟨rfl, hp8, hf8⟩
            have k2' := hp8.cells.2.2.1
            have g2'' := hp8.frz 2
            have HRE8 := Lib.hid (HRE7.out.far HP7.out hf8)
            have HP8 := Lib.hid hp8
            have HF8 := Lib.hid (HF7.out.trans hf8)
            have hfd : (u1.fail 2).deep = u1.deep := rfl
            rw [hfd] at k2'
            have hp9 : PAt (w8.setCell ⟨p, 2, none⟩ (.int .i64 ((u1.deep : Int) - 1))) p s { u1.fail 2 with deep := (u1.fail 2).deep - 1 } := HP8.out.put 2 _ (by rw [show ((u1.deep : Int) - 1) = ((u1.deep - 1 : Nat) : Int) by omega]; rfl) HP8.out.rest HP8.out.tot
            have HP9 := Lib.hid hp9
            have HF9 := Lib.hid (HF8.out.set 2 (.int .i64 ((u1.deep : Int) - 1)))
            have HRE9 := Lib.hid (HRE8.out.far HP8.out ((Far.refl p w8).set 2 (.int .i64 ((u1.deep : Int) - 1))))
            clear hp7 hf7 hp8 hf8 hp9
            have hdl : 1 ≤ u1.deep := by omega
            have hdu : u1.deep ≤ 61 := by omega
            clear hud hdp k2 hfd
            obtain ⟨ud, HUD⟩ : ∃ x, Hid (u1.deep = x) := ⟨_, rfl⟩
            have HPX : Hid (PAt (w8.setCell ⟨p, 2, none⟩ (.int .i64 ((u1.deep : Int) - 1))) p s { u1.fail 2 with deep := u1.deep - 1 }) := HP9.out
            clear HP9
            rw [HUD.out] at k2' hdl hdu HPX HF9 HRE9
            go_wp2_with fail
            go_ret
            rw [HA1.out, HA2'.out, HPAR.out]
            (try simp only [if_true, if_false, Bool.false_eq_true])
            simp only [PS.fail_deep, HUD.out]
            exact ⟨_, rfl, HRE9.out, HPX.out, HF9.out⟩
    · have e40 : (((sk.head.toNat : Nat) : Int) == 40) = false := b40.trans (decide_eq_false h40)
      have n40 : ¬ sk.rest.head? = some 40 := fun e => h40 (H40.out.1 e)
      by_cases h91 : sk.head = 91
      · have e91 : (((sk.head.toNat : Nat) : Int) == 91) = true := b91.trans (decide_eq_true h91)
        have hh := H91.out.2 h91
        have HA1 : Hid (PS.atom1 f sk = ((sk.adv 1).set.1, some (RE.one (sk.adv 1).set.2))) := by show _ = _; unfold PS.atom1; rw [if_neg n40, if_pos hh]
        rw [HA1.out]
        have hp3 := HP2.out.put_adv' 1 sk.at_ rfl (HHL.out _ hh)
        have HP3 := Lib.hid hp3
        have HF3 := Lib.hid (HF2.out.set 1 (.int .i64 ((sk.at_ : Int) + ((1 : Nat) : Int))))
        clear b40 b91 b46 h40 n40 h91 hh hp3 d0 d2 d3 d4 d5
        obtain ⟨a, HAT⟩ : ∃ a, Hid (sk.at_ = a) := ⟨_, rfl⟩
        rw [HAT.out] at d1 hat HP3 HF3
        generalize sk.head.toNat = hn at *
        go_wp2_with fail
        refine (psSet_any p s _ _ HP3.out hs HSE.out).mono ?_
        rintro e w4 ⟨b, rfl, hone, hp4, hf4⟩
        have HON := Lib.hid hone.is
        have HP4 := Lib.hid hp4
        have HF4 := Lib.hid (HF3.out.trans hf4)
        clear hone hp4 hf4
        go_wp2_with fail
        go_ret
        (try rw [HA1.out])
        exact ⟨_, rfl, ⟨b, rfl, HON.out⟩, HP4.out, HF4.out⟩
      · have e91 : (((sk.head.toNat : Nat) : Int) == 91) = false := b91.trans (decide_eq_false h91)
        have n91 : ¬ sk.rest.head? = some 91 := fun e => h91 (H91.out.1 e)
        by_cases h46 : sk.head = 46
        · have e46 : (((sk.head.toNat : Nat) : Int) == 46) = true := b46.trans (decide_eq_true h46)
          have hh := H46.out.2 h46
          have HA1 : Hid (PS.atom1 f sk = (sk.adv 1, some (RE.one BS.all))) := by show _ = _; unfold PS.atom1; rw [if_neg n40, if_neg n91, if_pos hh]
          rw [HA1.out]
          have hp3 := HP2.out.put_adv' 1 sk.at_ rfl (HHL.out _ hh)
          have HP3 := Lib.hid hp3
          have HF3 := Lib.hid (HF2.out.set 1 (.int .i64 ((sk.at_ : Int) + ((1 : Nat) : Int))))
          clear b40 b91 b46 h40 n40 h91 n91 h46 hh hp3 d0 d2 d3 d4 d5
          obtain ⟨a, HAT⟩ : ∃ a, Hid (sk.at_ = a) := ⟨_, rfl⟩
          rw [HAT.out] at d1 hat HP3 HF3
          generalize sk.head.toNat = hn at *
          go_wp2_with fail
          refine (All_any _).mono ?_
          rintro e w4 ⟨rfl, hb4⟩
          have HP4 := Lib.hid (HP3.out.later hb4)
          have HF4 := Lib.hid (HF3.out.trans (Far.below hb4))
          clear hb4
          go_wp2_with fail
          refine (One_any _ _ _ _ _).mono ?_
          rintro e w5 ⟨b, rfl, hone, hb5⟩
          have HON := Lib.hid hone.is
          have HP5 := Lib.hid (HP4.out.later hb5)
          have HF5 := Lib.hid (HF4.out.trans (Far.below hb5))
          clear hone hb5
          go_wp2_with fail
          go_ret
          (try rw [HA1.out])
          exact ⟨_, rfl, ⟨b, rfl, HON.out⟩, HP5.out, HF5.out⟩
        · have e46 : (((sk.head.toNat : Nat) : Int) == 46) = false := b46.trans (decide_eq_false h46)
          have n46 : ¬ sk.rest.head? = some 46 := fun e => h46 (H46.out.1 e)
          have HA1 : Hid (PS.atom1 f sk = (sk.one.1, some (RE.one (BS.none.add sk.one.2)))) := by show _ = _; unfold PS.atom1; rw [if_neg n40, if_neg n91, if_neg n46]
          rw [HA1.out]
          have hone := PS.one_run HSE.out
          have HB := Lib.hid hone.2.2
          clear b40 b91 b46 h40 n40 h91 n91 h46 n46 d0 d1 d2 d3 d4 d5 hone
          generalize sk.head.toNat = hn at *
          go_wp2_with fail
          refine (one_any p s sk _ HP2.out hs).mono ?_
          rintro e w3 ⟨rfl, hp3, hf3⟩
          have HP3 := Lib.hid hp3
          have HF3 := Lib.hid (HF2.out.trans hf3)
          clear hp3 hf3
          generalize sk.one = r at *
          have hof := fun W (hc' : W.cell? ⟨w3.heap.size, 0, none⟩ = some (.int .u8 ((r.2 : Nat) : Int))) => Of_any w3.heap.size 0 1 [((r.2 : Nat) : Int)] (fun i hi => by
            obtain rfl : i = 0 := by simpa using hi
            have := HB.out
            simp; omega) (by simp) W (fun i hi => by
              obtain rfl : i = 0 := by simpa using hi
              simpa using hc')
          have HOF := Lib.hid hof
          clear hof
          go_wp2_with fail
          refine (HOF.out _ (by rw [cell_of_row _ _ _ _ _ _ (heap_alloc_last w3 _)]; rfl)).mono ?_
          rintro e w4 ⟨rfl, hb4⟩
          have hx := (re_alloc w3 (.cells #[.int .u8 ((r.2 : Nat) : Int)] 5)).trans (hb4.mono (by simp))
          have HP4 := Lib.hid (HP3.out.later hx)
          have HF4 := Lib.hid (HF3.out.trans (Far.below hx))
          clear hb4 hx
          go_wp2_with fail
          refine (One_any _ _ _ _ _).mono ?_
          rintro e w5 ⟨b, rfl, hone, hb5⟩
          have HON : Hid (IsRe w5 b (RE.one (BS.none.add r.2))) := by
            show IsRe w5 b _
            have := hone.is
            simpa [BS.ofL] using this
          have HP5 := Lib.hid (HP4.out.later hb5)
          have HF5 := Lib.hid (HF4.out.trans (Far.below hb5))
          clear hone hb5
          go_wp2_with fail
          go_ret
          (try rw [HA1.out])
          exact ⟨_, rfl, ⟨b, rfl, HON.out⟩, HP5.out, HF5.out⟩
end Go.Proofs.YtgamknphlmcgnaaGreatDoor
namespace Go.Proofs.YtgamknphlmcgnaaGreatDoor
open Go.RowKit
theorem listO_pair {w : World} {v v' : Value} {o o' : Option RE} (h : IsReO w v o) (h' : IsReO w v' o') : ListO (w.alloc (.cells #[v, v'] 28)) (some ⟨w.heap.size, 0, none⟩) [o, o'] := .inr ⟨w.heap.size, 0, rfl, fun i hi => by
  have : i = 0 ∨ i = 1 := by simp at hi; omega
  rcases this with rfl | rfl
  · exact ⟨v, by rw [cell_of_row _ _ _ _ _ _ (heap_alloc_last w _)]; rfl, h.later (re_alloc w _)⟩
  · exact ⟨v', by rw [cell_of_row _ _ _ _ _ _ (heap_alloc_last w _)]; rfl, h'.later (re_alloc w _)⟩⟩
namespace PS
theorem bump_rest (t : PS) (r : RE) : (t.bump r).rest.length ≤ t.rest.length := by
  unfold bump; simp only
  split
  · simp [fail]
  · exact Nat.le_refl _
theorem bump_at (t : PS) (r : RE) : t.at_ ≤ (t.bump r).at_ := by
  unfold bump; simp only
  split
  · exact Nat.le_add_right _ _
  · exact Nat.le_refl _
theorem bump_res {a st t : PS} {x r' : RE} (h : Res 100 a (st, some x)) (he : st.e = 0) (ht : Run st t) (hlt : st.at_ < t.at_) (te : t.e = 0) (tn : t.nodes = st.nodes) (td : t.deep = st.deep) (hr' : RE.nf r') (hb : (t.bump r').e = 0) : Res 100 a (t.bump r', some r') := by
  obtain ⟨k1, k2, k3, _⟩ := h.go he
  obtain ⟨hn1, hn2⟩ := h.nodes
  have hsz := h.size
  simp only at k1 k2 k3 hsz hn1 hn2
  by_cases hbig : 1000 < t.nodes + 1 ∨ 1000 < r'.size
  · have e : t.bump r' = ({ t with nodes := t.nodes + 1 } : PS).fail 3 := by unfold bump; simp only; rw [if_pos hbig]
    rw [e] at hb
    exact absurd hb (fail_e (a := { t with nodes := t.nodes + 1 }) te (by omega))
  · have e : t.bump r' = ({ t with nodes := t.nodes + 1 } : PS) := by unfold bump; simp only; rw [if_neg hbig]
    rw [e]
    refine ⟨⟨by have := h.run.le; show a.at_ ≤ t.at_; simp only at this; omega, (h.run.trans ht).rest, (h.run.trans ht).tot, .inl te⟩, fun _ => ⟨by show a.at_ < t.at_; omega, by show t.nodes + 1 ≤ 1000; omega, td.trans k3, r', rfl⟩, ⟨by show a.nodes < t.nodes + 1; omega, by show t.nodes + 1 ≤ 1001; omega⟩, fun x hx => by cases hx; exact hr', by show r'.size + 100 + 4000 * a.nodes ≤ 4000 * (t.nodes + 1); omega⟩
end PS
/-- between the sign and what is reckoned behind it -/
structure PMid (w : World) (p : Nat) (s : List UInt8) (st : PS) (f' : Nat) (F : PS × Option RE) (t : PS) (r' : RE) (v : Value) (wx : World) : Prop where
  re : IsReO wx v (some r')
  pa : PAt wx p s t
  far : Far p w wx
  run : PS.Run st t
  lt : st.at_ < t.at_
  e : t.e = 0
  nodes : t.nodes = st.nodes
  deep : t.deep = st.deep
  nf : RE.nf r'
  go : PS.postGo f' (t.bump r') (some r') = F
def PostAt (w : World) (p : Nat) (s : List UInt8) (a : PS) (F : PS × Option RE) (v : Value) (wr : World) : Prop :=
  ∃ (f : Nat) (st : PS) (r : Option RE), PAt wr p s st ∧ IsReO wr v r ∧ Far p w wr ∧ PS.postGo f st r = F ∧ (st.e = 0 → st.rest.length < f) ∧ (st.e = 0 → PS.Res 100 a (st, r))
set_option maxRecDepth 100000 in
set_option maxHeartbeats 8000000 in
theorem post_any (d p : Nat) (s : List UInt8) (hs : s.length ≤ 65536) (f : PS → PS × Option RE) (hf : ∀ d', d' + 1 = d → PS.Gd d' f ∧ Orr d' p s f ∧ ∀ a, PS.At d' a → PS.Dk a (f a).1) (st : PS) (w : World) (h : PAt w p s st) (ha : PS.At d st) :
    Calls Tryz.prog 194 #[ptr p] w (PrPost p s w (PS.post f st)) := by
  have HATOM := Lib.hid (atom_any d p s hs f hf st w h ha)
  have HRES := Lib.hid (PS.atom_res f (fun d' e => (hf d' e).1) st ha)
  have HPOST : Hid (PS.post f st = PS.postGo ((PS.atom f st).1.rest.length + 1) (PS.atom f st).1 (PS.atom f st).2) := rfl
  rw [HPOST.out]
  generalize PS.atom f st = A at *
  obtain ⟨F, hF⟩ : ∃ F, PS.postGo (A.1.rest.length + 1) A.1 A.2 = F := ⟨_, rfl⟩
  have HF := Lib.hid hF
  rw [hF]
  clear hF HPOST h hf
  go_enter Tryz.func194, Tryz.ntmps194
  go_wp2_with fail
  refine HATOM.out.mono ?_
  rintro e w1 ⟨v1, rfl, hre1, hp1, hf1⟩
  have hst : PostAt w p s st F v1 w1 := ⟨_, _, _, hp1, hre1, hf1, HF.out, fun _ => Nat.lt_succ_self _, fun _ => HRES.out⟩
  have HST := Lib.hid hst
  clear hp1 hre1 hf1 hst HATOM HRES HF
  go_wp2_with fail
  go_loopw [3] (fun v wr => PostAt w p s st F v wr) (fun _ wr => psMeas p s wr)
  case atStart => exact HST.out
  case round =>
    clear HST
    obtain ⟨f', st', r, hp, hre, hfar, hgo, hfu, hres⟩ := hrel
    have HP := Lib.hid hp
    have HRE := Lib.hid hre
    have HFAR := Lib.hid hfar
    have HGO := Lib.hid hgo
    have c4 := hp.cells.2.2.2.2.1
    by_cases he : st'.e = 0
    · have ge : (((st'.e : Nat) : Int) == 0) = true := by rw [he]; rfl
      have HE := Lib.hid he
      have hr2 := hres he
      obtain ⟨k1, k2, k3, x, rfl⟩ := hr2.go he
      obtain ⟨xb, hxb, _⟩ := id hre
      subst hxb
      have HR2 := Lib.hid hr2
      have hnf := hr2.nf x rfl
      have hsz : x.size ≤ 5000000 := by have z1 := hr2.size; have z2 := hr2.nodes.2; simp only [RE.sizeO] at z1 z2; omega
      have hlen := hfu he
      obtain ⟨f'', rfl⟩ : ∃ g, f' = g + 1 := ⟨f' - 1, by omega⟩
      have HNF := Lib.hid hnf
      have HSZ := Lib.hid hsz
      have HLEN := Lib.hid hlen
      have hnd : st'.nodes ≤ 1000 := k2
      clear hp hre hfar hgo hfu hres he hr2 k1 k2 k3 hnf hsz hlen
      generalize st'.e = en at c4 ge
      go_upto_block 2 with fail
      go_cut [3] from 6 to 50 (fun s3 wx => ∃ t r', PMid w p s st' f'' F t r' s3 wx)
      case first =>
        go_wp2_with fail
        refine (psTake_any p s (st') _ HP.out hs 42 (by decide)).mono ?_
        rintro e w2 ⟨rfl, hp2, hf2⟩
        have HP2 := Lib.hid hp2
        have HF2 := Lib.hid (HFAR.out.trans hf2)
        have HRE2 := Lib.hid (HRE.out.far HP.out hf2)
        have HT2 := Lib.hid (PS.take_same (st') 42)
        have HRUN2 := Lib.hid ((PS.take_run HE.out 42))
        have HE2 : Hid (((st').take 42).1.e = 0) := HT2.out.1.trans HE.out
        have HLT2 := Lib.hid (fun (h : ((st').take 42).2 = true) => PS.take_go h)
        have HN2 : Hid ((st'.take 42).1.nodes = st'.nodes ∧ (st'.take 42).1.deep = st'.deep) := ⟨HT2.out.2.1, HT2.out.2.2.1⟩
        have HG2 : Hid ((st'.take 42).2 = true → PS.postGo f'' ((st'.take 42).1.bump (RE.many (some x))) (some (RE.many (some x))) = F) := fun h => by
          have e := HGO.out; rw [PS.postGo, if_neg (by have := HE.out; omega)] at e; simp only at e; rw [if_pos h] at e; exact e
        have HG2' : Hid ((st'.take 42).2 = false → (if ((st'.take 42).1.take 43).2 then PS.postGo f'' (((st'.take 42).1.take 43).1.bump (RE.thenL [some x, some (RE.many (some x))])) (some (RE.thenL [some x, some (RE.many (some x))])) else if (((st'.take 42).1.take 43).1.take 63).2 then PS.postGo f'' ((((st'.take 42).1.take 43).1.take 63).1.bump (RE.anyL [some x, some RE.empty])) (some (RE.anyL [some x, some RE.empty])) else ((((st'.take 42).1.take 43).1.take 63).1, some x)) = F) := fun h => by
          have e := HGO.out; rw [PS.postGo, if_neg (by have := HE.out; omega)] at e; simp only at e; rw [if_neg (by rw [h]; simp)] at e; exact e
        clear hp2 hf2
        generalize st'.take 42 = T2 at *
        obtain ⟨t2, b2⟩ := T2
        cases b2 with
        | true =>
          go_wp2_with fail
          refine (Many_any (ptr xb) (some x) _ HRE2.out (by have := HSZ.out; simp only [RE.sizeO]; omega)).mono ?_
          rintro e w3 ⟨rb, rfl, hm, hb3⟩
          have hmid : PMid w p s st' f'' F t2 (RE.many (some x)) (ptr rb) w3 :=
            ⟨⟨rb, rfl, hm⟩, HP2.out.later hb3, HF2.out.trans (Far.below hb3), HRUN2.out, HLT2.out (by first | rfl | trivial), HE2.out, HN2.out.1, HN2.out.2, RE.nf_many fun r hr => by cases hr; exact HNF.out, HG2.out (by first | rfl | trivial)⟩
          have HMID := Lib.hid hmid
          clear hm hb3 hmid
          go_wp2_with fail
          go_meet
          exact ⟨_, _, HMID.out⟩
        | false =>
          go_wp2_with fail
          refine (psTake_any p s (t2) _ HP2.out hs 43 (by decide)).mono ?_
          rintro e w3 ⟨rfl, hp3, hf3⟩
          have HP3 := Lib.hid hp3
          have HF3 := Lib.hid (HF2.out.trans hf3)
          have HRE3 := Lib.hid (HRE2.out.far HP2.out hf3)
          have HT3 := Lib.hid (PS.take_same (t2) 43)
          have HRUN3 := Lib.hid (HRUN2.out.trans (PS.take_run HE2.out 43))
          have HE3 : Hid (((t2).take 43).1.e = 0) := HT3.out.1.trans HE2.out
          have HLT3 := Lib.hid (fun (h : ((t2).take 43).2 = true) => PS.take_go h)
          have HN3 : Hid ((t2.take 43).1.nodes = st'.nodes ∧ (t2.take 43).1.deep = st'.deep) := ⟨HT3.out.2.1.trans HN2.out.1, HT3.out.2.2.1.trans HN2.out.2⟩
          have HLE2 : Hid (st'.at_ ≤ t2.at_) := HRUN2.out.le
          have HG3 := Lib.hid (HG2'.out (by first | rfl | trivial))
          clear hp3 hf3 HG2 HG2'
          generalize t2.take 43 = T3 at *
          obtain ⟨t3, b3⟩ := T3
          cases b3 with
          | true =>
            have HGG : Hid (PS.postGo f'' (t3.bump (RE.thenL [some x, some (RE.many (some x))])) (some (RE.thenL [some x, some (RE.many (some x))])) = F) := by have := HG3.out; show _ = _; simpa using this
            go_wp2_with fail
            refine (Many_any (ptr xb) (some x) _ HRE3.out (by have := HSZ.out; simp only [RE.sizeO]; omega)).mono ?_
            rintro e w4 ⟨rb, rfl, hm, hb4⟩
            have hms := RE.size_many (some x)
            have hl4 := listO_pair (HRE3.out.later hb4) (show IsReO w4 (ptr rb) (some (RE.many (some x))) from ⟨rb, rfl, hm⟩)
            have hxa := re_alloc w4 (.cells #[ptr xb, ptr rb] 28)
            have HL4 := Lib.hid hl4
            have HB4 := Lib.hid (hb4.trans (hxa.mono hb4.size))
            have HTH := Lib.hid (fun W (hl : ListO W (some ⟨w4.heap.size, 0, none⟩) [some x, some (RE.many (some x))]) => Then_any (some ⟨w4.heap.size, 0, none⟩) 2 [some x, some (RE.many (some x))] W hl (PS.nf_two HNF.out (RE.nf_many fun r hr => by cases hr; exact HNF.out)) (by
              have h1 := RE.sizes_flat 3 [some x, some (RE.many (some x))]
              have h2 := HSZ.out
              simp only [RE.sizeOs, List.map_cons, List.map_nil, List.sum_cons, List.sum_nil, RE.sizeO] at h1 hms
              omega) (by simp))
            clear hm hb4 hl4 hxa hms
            go_wp2_with fail
            refine (HTH.out _ HL4.out).mono ?_
            rintro e w5 ⟨rb2, rfl, hm5, hb5⟩
            have hB := HB4.out.trans (hb5.mono HB4.out.size)
            have hmid : PMid w p s st' f'' F t3 (RE.thenL [some x, some (RE.many (some x))]) (ptr rb2) w5 :=
              ⟨⟨rb2, rfl, hm5⟩, HP3.out.later hB, HF3.out.trans (Far.below hB), HRUN3.out, Nat.lt_of_le_of_lt HLE2.out (HLT3.out (by first | rfl | trivial)), HE3.out, HN3.out.1, HN3.out.2, RE.nf_thenL (PS.nf_two HNF.out (RE.nf_many fun r hr => by cases hr; exact HNF.out)), HGG.out⟩
            have HMID := Lib.hid hmid
            clear hm5 hb5 hmid hB
            go_wp2_with fail
            go_meet
            exact ⟨_, _, HMID.out⟩
          | false =>
            go_wp2_with fail
            refine (psTake_any p s (t3) _ HP3.out hs 63 (by decide)).mono ?_
            rintro e w4 ⟨rfl, hp4, hf4⟩
            have HP4 := Lib.hid hp4
            have HF4 := Lib.hid (HF3.out.trans hf4)
            have HRE4 := Lib.hid (HRE3.out.far HP3.out hf4)
            have HT4 := Lib.hid (PS.take_same (t3) 63)
            have HRUN4 := Lib.hid (HRUN3.out.trans (PS.take_run HE3.out 63))
            have HE4 : Hid (((t3).take 63).1.e = 0) := HT4.out.1.trans HE3.out
            have HLT4 := Lib.hid (fun (h : ((t3).take 63).2 = true) => PS.take_go h)
            have HN4 : Hid ((t3.take 63).1.nodes = st'.nodes ∧ (t3.take 63).1.deep = st'.deep) := ⟨HT4.out.2.1.trans HN3.out.1, HT4.out.2.2.1.trans HN3.out.2⟩
            have HLE3 : Hid (st'.at_ ≤ t3.at_) := HRUN3.out.le
            have HG4 : Hid ((if (t3.take 63).2 then PS.postGo f'' ((t3.take 63).1.bump (RE.anyL [some x, some RE.empty])) (some (RE.anyL [some x, some RE.empty])) else ((t3.take 63).1, some x)) = F) := by have := HG3.out; show _ = _; simpa using this
            clear hp4 hf4 HG3
            generalize t3.take 63 = T4 at *
            obtain ⟨t4, b4⟩ := T4
            cases b4 with
            | true =>
              have HGG : Hid (PS.postGo f'' (t4.bump (RE.anyL [some x, some RE.empty])) (some (RE.anyL [some x, some RE.empty])) = F) := by have := HG4.out; show _ = _; simpa using this
              go_wp2_with fail
              refine (EmptyRe_any _).mono ?_
              rintro e w5 ⟨rb, rfl, hm, hb5⟩
              have hl5 := listO_pair (HRE4.out.later hb5) (show IsReO w5 (ptr rb) (some RE.empty) from ⟨rb, rfl, hm.is⟩)
              have hxa := re_alloc w5 (.cells #[ptr xb, ptr rb] 28)
              have HL5 := Lib.hid hl5
              have HB5 := Lib.hid (hb5.trans (hxa.mono hb5.size))
              have HAN := Lib.hid (fun W (hl : ListO W (some ⟨w5.heap.size, 0, none⟩) [some x, some RE.empty]) => Any_any (some ⟨w5.heap.size, 0, none⟩) 2 [some x, some RE.empty] W hl (PS.nf_two HNF.out RE.nf_empty) (by
                have h1 := RE.sizes_flat 4 [some x, some RE.empty]
                have h2 := HSZ.out
                have h3 : RE.empty.size = 1 := rfl
                simp only [RE.sizeOs, List.map_cons, List.map_nil, List.sum_cons, List.sum_nil, RE.sizeO] at h1
                omega) (by simp))
              clear hm hb5 hl5 hxa
              go_wp2_with fail
              refine (HAN.out _ HL5.out).mono ?_
              rintro e w6 ⟨rb2, rfl, hm6, hb6⟩
              have hB := HB5.out.trans (hb6.mono HB5.out.size)
              have hmid : PMid w p s st' f'' F t4 (RE.anyL [some x, some RE.empty]) (ptr rb2) w6 :=
                ⟨⟨rb2, rfl, hm6⟩, HP4.out.later hB, HF4.out.trans (Far.below hB), HRUN4.out, Nat.lt_of_le_of_lt HLE3.out (HLT4.out (by first | rfl | trivial)), HE4.out, HN4.out.1, HN4.out.2, RE.nf_anyL (PS.nf_two HNF.out RE.nf_empty), HGG.out⟩
              have HMID := Lib.hid hmid
              clear hm6 hb6 hmid hB
              go_wp2_with fail
              go_meet
              exact ⟨_, _, HMID.out⟩
            | false =>
              have hF4 : F = (t4, some x) := by rw [← HG4.out]; simp
              subst hF4
              go_wp2_with fail
              go_ret
              exact ⟨_, rfl, HRE4.out, HP4.out, HF4.out⟩
      case rest =>
        obtain ⟨t, r', hmid⟩ := hcut
        obtain ⟨hsre, hspa, hsfar, hsrun, hslt, hse, hsn, hsd, hsnf, hsgo⟩ := hmid
        obtain ⟨rb, rfl, hsr⟩ := hsre
        have hsre : IsReO wc (ptr rb) (some r') := ⟨rb, rfl, hsr⟩
        have HSZR := Lib.hid (fun W (h : IsReO W (ptr rb) (some r')) => Size_any (ptr rb) (some r') W h)
        have HBR := Lib.hid (PS.bump_res HR2.out HE.out hsrun hslt hse hsn hsd hsnf)
        have HBL : Hid ((t.bump r').rest.length < f'') := by
          show _ < _
          have h1 := PS.rest_lt' hsrun hslt
          have h2 := PS.bump_rest t r'
          have := HLEN.out
          omega
        have HBA : Hid (st'.at_ < (t.bump r').at_) := Nat.lt_of_lt_of_le hslt (PS.bump_at t r')
        have c3 := hspa.cells.2.2.2.1
        have f3 := hspa.frz 3
        have htn : t.nodes ≤ 1000 := by omega
        have hp5 : PAt (wc.setCell ⟨p, 3, none⟩ (.int .i64 ((t.nodes : Int) + 1))) p s { t with nodes := t.nodes + 1 } := hspa.put 3 _ (by rfl) hspa.rest hspa.tot
        have HP5 := Lib.hid hp5
        have HF5 := Lib.hid (hsfar.set 3 (.int .i64 ((t.nodes : Int) + 1)))
        have HR5 := Lib.hid (hsre.far hspa ((Far.refl p wc).set 3 (.int .i64 ((t.nodes : Int) + 1))))
        have HSG := Lib.hid hsgo
        have d3 := hp5.cells.2.2.2.1
        obtain ⟨z, hz⟩ : ∃ z, r'.size = z := ⟨_, rfl⟩
        have HZ := Lib.hid hz
        have hszr : RE.sizeO (some r') = z := hz
        rw [hszr] at HSZR
        have hbump : t.bump r' = if 1000 < t.nodes + 1 ∨ 1000 < z then ({ t with nodes := t.nodes + 1 } : PS).fail 3 else { t with nodes := t.nodes + 1 } := by rw [← hz]; rfl
        have HBU := Lib.hid hbump
        clear hsre hspa hsfar hsrun hslt hse hsn hsd hsnf hsgo hp5 hz hszr hbump hsr c4 ge
        obtain ⟨tn, HTN⟩ : ∃ x, Hid (t.nodes = x) := ⟨_, rfl⟩
        have e3 : (({ t with nodes := t.nodes + 1 } : PS).nodes : Int) = (tn : Int) + 1 := by rw [← HTN.out]; rfl
        rw [HTN.out] at c3 htn
        rw [show ((t.nodes : Nat) : Int) = (tn : Int) by rw [HTN.out]] at HP5 HF5 HR5 d3
        rw [e3] at d3
        clear e3
        by_cases hm : 1000 < tn + 1
        · have hm' : (1000 : Int) < (tn : Int) + 1 := by omega
          have HBB : Hid (t.bump r' = ({ t with nodes := t.nodes + 1 } : PS).fail 3) := by show _ = _; rw [HBU.out, HTN.out, if_pos (.inl hm)]
          clear hm
          go_wp2_with fail
          refine (psFail_any p s _ _ HP5.out hs 3 (by omega)).mono ?_
          rintro e w9 ⟨rfl, hp9, hf9⟩
          have HR9 := Lib.hid (HR5.out.far HP5.out hf9)
          rw [← HBB.out] at hp9
          have HP9 := Lib.hid hp9
          have HF9 := Lib.hid (HF5.out.trans hf9)
          clear hp9 hf9
          go_wp2_with fail
          go_roundw
          case rel => exact ⟨f'', t.bump r', some r', HP9.out, HR9.out, HF9.out, HSG.out, fun _ => HBL.out, fun e => HBR.out e⟩
          case measure => exact psMeas_lt HP.out HP9.out HE.out fun _ => HBA.out
        · have hm' : ¬ (1000 : Int) < (tn : Int) + 1 := by omega
          by_cases hz : 1000 < z
          · have hz' : (1000 : Int) < (z : Int) := by omega
            have HBB : Hid (t.bump r' = ({ t with nodes := t.nodes + 1 } : PS).fail 3) := by show _ = _; rw [HBU.out, HTN.out, if_pos (.inr hz)]
            clear hm hz
            go_wp2_with fail
            refine (HSZR.out _ HR5.out).mono ?_
            rintro e w8 ⟨rfl, rfl⟩
            go_wp2_with fail
            refine (psFail_any p s _ _ HP5.out hs 3 (by omega)).mono ?_
            rintro e w9 ⟨rfl, hp9, hf9⟩
            have HR9 := Lib.hid (HR5.out.far HP5.out hf9)
            rw [← HBB.out] at hp9
            have HP9 := Lib.hid hp9
            have HF9 := Lib.hid (HF5.out.trans hf9)
            clear hp9 hf9
            go_wp2_with fail
            go_roundw
            case rel => exact ⟨f'', t.bump r', some r', HP9.out, HR9.out, HF9.out, HSG.out, fun _ => HBL.out, fun e => HBR.out e⟩
            case measure => exact psMeas_lt HP.out HP9.out HE.out fun _ => HBA.out
          · have hz' : ¬ (1000 : Int) < (z : Int) := by omega
            have HBB : Hid (t.bump r' = { t with nodes := t.nodes + 1 }) := by show _ = _; rw [HBU.out, HTN.out, if_neg (by omega)]
            have HP9 : Hid (PAt (wc.setCell ⟨p, 3, none⟩ (.int .i64 ((tn : Int) + 1))) p s (t.bump r')) := by rw [HBB.out]; exact HP5.out
            clear hm hz
            go_wp2_with fail
            refine (HSZR.out _ HR5.out).mono ?_
            rintro e w8 ⟨rfl, rfl⟩
            go_wp2_with fail
            go_roundw
            case rel => exact ⟨f'', t.bump r', some r', HP9.out, HR5.out, HF5.out, HSG.out, fun _ => HBL.out, fun e => HBR.out e⟩
            case measure => exact psMeas_lt HP.out HP9.out HE.out fun _ => HBA.out
    · have ge : (((st'.e : Nat) : Int) == 0) = false := by rw [beq_eq_false_iff_ne]; omega
      have hF2 : F = (st', none) := by rw [← HGO.out]; exact PS.postGo_bad _ _ _ he
      subst hF2
      clear hp hre hfar hgo hfu hres he
      generalize hee : st'.e = en at c4 ge
      go_wp2_with fail
      go_ret
      exact ⟨_, rfl, rfl, HP.out, HFAR.out⟩
end Go.Proofs.YtgamknphlmcgnaaGreatDoor
namespace Go.Proofs.YtgamknphlmcgnaaGreatDoor
open Go.RowKit
/-- the row of a list of one's own: behind its end there is nil -/
structure RowN (W : World) (g n cap : Nat) (xs : List Value) : Prop where
  row : W.heap[g]? = some (.cells (xs ++ List.replicate (cap - n) (Value.pointer none)).toArray 28 (0, 0))
  len : xs.length = n
  le : n ≤ cap
  mx : cap ≤ maxLen
theorem RowN.cell {W : World} {g n cap : Nat} {xs : List Value} (h : RowN W g n cap xs) (j : Nat) (u : Value) (hj : xs[j]? = some u) : W.cell? ⟨g, j, none⟩ = some u := by
  rw [cell_of_row _ _ _ _ _ _ h.row]
  have hlt : j < xs.length := (List.getElem?_eq_some_iff.1 hj).1
  simp [List.getElem?_append_left hlt, hj]
theorem RowN.kept {W W' : World} {g n cap : Nat} {xs : List Value} (h : RowN W g n cap xs) (hb : W'.heap[g]? = W.heap[g]?) : RowN W' g n cap xs := ⟨hb.trans h.row, h.len, h.le, h.mx⟩
/-- what is written where nil stood leaves an expression as it is -/
theorem IsRe.spare {W W' : World} {b g : Nat} {r : RE} {cur cur' : Array Value} {fr fr' : Nat × Nat} (h : IsRe W b r) (hg : W.heap[g]? = some (.cells cur 28 fr)) (hg' : W'.heap[g]? = some (.cells cur' 28 fr'))
    (hs : ∀ (k c : Nat), cur[k]? = some (ptr c) → cur'[k]? = some (ptr c)) (ho : ∀ k, k < W.heap.size → k ≠ g → W'.heap[k]? = W.heap[k]?) : IsRe W' b r := by
  induction h with
  | mk b r kp cap bs hb hl hr hy hk ih =>
    have hbg : b ≠ g := fun e => by
      subst e
      rw [hg] at hb
      have := Option.some.inj hb
      injection this with _ e2 _
      exact absurd e2 (by decide)
    refine .mk b r kp cap bs ((ho b (Array.getElem?_eq_some_iff.1 hb).1 hbg).trans hb) hl ?_ (fun hne a ha => ?_) ih
    · rcases hr with h0 | ⟨kb, ko, hk', hc⟩
      · exact .inl h0
      · refine .inr ⟨kb, ko, hk', fun i hi => ?_⟩
        have h1 := hc i hi
        by_cases e : kb = g
        · subst e
          rw [cell_of_row _ _ _ _ _ _ hg] at h1
          rw [cell_of_row _ _ _ _ _ _ hg']
          exact hs _ _ h1
        · rw [World.cell?_of_block (w := W) (w' := W') (a := ⟨kb, ko + i, none⟩) (ho kb (World.block_lt_of_cell? W _ h1) e)]; exact h1
    · obtain ⟨c2, f2, h2⟩ := hy hne a ha
      by_cases e : a.block = g
      · rw [e]; exact ⟨_, _, hg'⟩
      · exact ⟨c2, f2, (ho _ (Array.getElem?_eq_some_iff.1 h2).1 e).trans h2⟩
theorem IsReO.spare {W W' : World} {g : Nat} {v : Value} {o : Option RE} {cur cur' : Array Value} {fr fr' : Nat × Nat} (h : IsReO W v o) (hg : W.heap[g]? = some (.cells cur 28 fr)) (hg' : W'.heap[g]? = some (.cells cur' 28 fr'))
    (hs : ∀ (k c : Nat), cur[k]? = some (ptr c) → cur'[k]? = some (ptr c)) (ho : ∀ k, k < W.heap.size → k ≠ g → W'.heap[k]? = W.heap[k]?) : IsReO W' v o := by
  cases o with
  | none => exact h
  | some r => obtain ⟨b, h1, h2⟩ := h; exact ⟨b, h1, h2.spare hg hg' hs ho⟩
theorem zeroPtrs (n : Nat) : (Builtin.zeroCells (Value.pointer none).cells n).toList = List.replicate n (Value.pointer none) := by
  simp [Builtin.zeroCells, Value.cells, Nat.mod_one, List.map_const']
/-- one is appended -/
theorem run_append_ptr (W : World) (g n cap B c : Nat) (xs : List Value) (v : Value) (h : RowN W g n cap xs) (hs : W.cell? ⟨B, 0, none⟩ = some v) (hv : v.oneCell' = true) (hn : n + 1 ≤ 1099511627776) (ty : TypeId) :
    ∃ g' cap' W', (Builtin.append_ #[113, 113] ty #[.slice (some ⟨g, 0, none⟩) n cap, .slice (some ⟨B, 0, none⟩) 1 c]).run Tryz.prog W = .ok (.slice (some ⟨g', 0, none⟩) (n + 1) cap') W' ∧
      RowN W' g' (n + 1) cap' (xs ++ [v]) ∧ W.grownBy W' (some g) ∧ (g' = g ∨ g' = W.heap.size) ∧ ∀ u o, IsReO W u o → IsReO W' u o := by
  obtain ⟨i, hi, hz, hsz, hby⟩ := info_parts infoPtr
  have hnews : ∀ j u, [v][j]? = some u → W.cell? ((⟨B, 0, none⟩ : Addr).add j) = some u := fun j u hj => by
    match j, hj with
    | 0, hj => simp at hj; subst hj; simpa [addr_at] using hs
    | j + 1, hj => simp at hj
  have h1 : ∀ u ∈ [v], u.oneCell' = true := fun u hu => by simp at hu; rw [hu]; exact hv
  have hmx : maxLen = 9223372036854775807 := rfl
  by_cases hroom : n + 1 ≤ cap
  · have hcs : (xs ++ List.replicate (cap - n) (Value.pointer none)).toArray.size = cap := by simp [h.len]; have := h.le; omega
    have hr := run_append_room (P := Tryz.prog) W 113 ty 28 i Tryz.underlying113 hi g n cap _ h.row ⟨B, 0, none⟩ 1 c [v] (by rw [hsz]; rfl) hnews h1 hroom (by rw [hsz, hcs]; simpa using hroom)
    have ecur : ((xs ++ List.replicate (cap - n) (Value.pointer none)).toArray.toList.take (n * i.size) ++ [v] ++ (xs ++ List.replicate (cap - n) (Value.pointer none)).toArray.toList.drop (n * i.size + [v].length)) = (xs ++ [v]) ++ List.replicate (cap - (n + 1)) (Value.pointer none) := by
      rw [hsz, Nat.mul_one]
      have e1 : (xs ++ List.replicate (cap - n) (Value.pointer none)).take n = xs := by rw [← h.len]; exact List.take_left
      have e2 : (xs ++ List.replicate (cap - n) (Value.pointer none)).drop (n + 1) = List.replicate (cap - (n + 1)) (Value.pointer none) := by
        rw [List.drop_append, List.drop_eq_nil_of_le (by rw [h.len]; omega), List.nil_append, h.len, List.drop_replicate]
        congr 1; omega
      simp only [List.length_singleton]
      rw [e1, e2]
    rw [ecur] at hr
    have hrow' := setRow_heap W g _ ((xs ++ [v]) ++ List.replicate (cap - (n + 1)) (Value.pointer none)).toArray _ (0, 0) h.row
    refine ⟨g, cap, _, hr, ⟨hrow', by simp [h.len], hroom, h.mx⟩, ⟨rfl, rfl, rfl, by simp, fun k _ hk => setRow_other W g k _ (fun e => hk (by rw [e]))⟩, .inl rfl, fun u o hu => ?_⟩
    refine hu.spare h.row hrow' (fun k b hk => ?_) fun k _ hk => setRow_other W g k _ (fun e => hk e)
    have hk' : (xs ++ List.replicate (cap - n) (Value.pointer none))[k]? = some (ptr b) := by simpa using hk
    have hlt : k < xs.length := by
      apply Classical.byContradiction
      intro hge
      rw [List.getElem?_append_right (by omega), List.getElem?_replicate] at hk'
      split at hk' <;> simp at hk'
    rw [List.getElem?_append_left hlt] at hk'
    have : ((xs ++ [v]) ++ List.replicate (cap - (n + 1)) (Value.pointer none))[k]? = some (ptr b) := by
      rw [List.getElem?_append_left (by simp; omega), List.getElem?_append_left hlt]; exact hk'
    simpa using this
  · have holds : ∀ j u, xs[j]? = some u → W.cell? ((⟨g, 0, none⟩ : Addr).add j) = some u := fun j u hj => by rw [addr_at, Nat.zero_add]; exact h.cell j u hj
    have hr := run_append_grow (P := Tryz.prog) W 113 ty 28 i (.pointer none) Tryz.underlying113 hi hz ⟨g, 0, none⟩ n cap xs (by rw [hsz, h.len]; omega) holds ⟨B, 0, none⟩ 1 c [v] (by rw [hsz]; rfl) hnews (by omega) (by omega) (growslice_fits (by omega) (by rw [hby]; omega))
    have hge := grownCap_ge W (n + 1) cap 28
    have hcm := grownCap_le_maxLen W (n + 1) cap 28 (by rw [hmx]; omega)
    have ecur : (xs.toArray ++ [v].toArray ++ Builtin.zeroCells (Value.pointer none).cells (grownCap W (n + 1) cap 28 - (n + 1))) = ((xs ++ [v]) ++ List.replicate (grownCap W (n + 1) cap 28 - (n + 1)) (Value.pointer none)).toArray := by
      apply Array.ext'
      simp [zeroPtrs]
    rw [ecur] at hr
    have hb : Below W.heap.size W (W.drew.alloc (.cells ((xs ++ [v]) ++ List.replicate (grownCap W (n + 1) cap 28 - (n + 1)) (Value.pointer none)).toArray 28)) := ext_alloc (Below.refl _ _).drew _
    exact ⟨_, _, _, hr, ⟨heap_alloc_last W.drew _, by simp [h.len], hge, hcm⟩, ⟨hb.os, hb.tape, hb.output, hb.size, fun k hk _ => hb.block k hk⟩, .inr rfl, fun u o hu => hu.later hb⟩
theorem wpList_append_ptr {W : World} {ops : Array Oper} {rest : List Oper} {o : Oper} {a : Act} {Q : Exit → Act → World → Prop} (hgd : o.guard = none) (s x : Operand)
    (ho : o.op = .call { callee := .builtin .append, args := #[s, x], argTypes := #[113, 113] }) (g n cap B c : Nat) (xs : List Value) (v : Value)
    (hs : a.eval s = .slice (some ⟨g, 0, none⟩) n cap) (hx : a.eval x = .slice (some ⟨B, 0, none⟩) 1 c) (h : RowN W g n cap xs) (hc : W.cell? ⟨B, 0, none⟩ = some v) (hv : v.oneCell' = true) (hn : n + 1 ≤ 1099511627776)
    (hK : ∀ g' cap' W', RowN W' g' (n + 1) cap' (xs ++ [v]) → W.grownBy W' (some g) → (g' = g ∨ g' = W.heap.size) → (∀ u o, IsReO W u o → IsReO W' u o) → wpList Tryz.prog ops Q rest (a.put o.dst (.slice (some ⟨g', 0, none⟩) (n + 1) cap')) W') : wpList Tryz.prog ops Q (o :: rest) a W := by
  refine wpList_plain hgd fun K hK' => ?_
  obtain ⟨g', cap', W', hr, h1, h2, h3, h4⟩ := run_append_ptr W g n cap B c xs v h hc hv hn o.type
  unfold Oper.wp execOp
  simp only [ho, resolve, invoke, builtin, Sem.run_bind, Sem.run_pure, Result.andThen_ok, List.map_toArray, List.map_cons, List.map_nil, hs, hx, hr]
  exact hK' _ _ (hK g' cap' W' h1 h2 h3 h4)
end Go.Proofs.YtgamknphlmcgnaaGreatDoor
namespace Go.Proofs.YtgamknphlmcgnaaGreatDoor
open Go.RowKit
theorem IsReO.ptr {w : World} {v : Value} {o : Option RE} (h : IsReO w v o) : ∃ q, v = .pointer q := by
  cases o with
  | none => exact ⟨none, h⟩
  | some r => obtain ⟨b, h1, _⟩ := h; exact ⟨_, h1⟩
/-- the reader, and a list of what it has made -/
structure LAt (w : World) (p : Nat) (s : List UInt8) (st : PS) (acc : List (Option RE)) (g cap : Nat) (xs : List Value) (W : World) : Prop where
  row : RowN W g acc.length cap xs
  base : w.heap.size ≤ g
  pa : PAt W p s st
  far : Far p w W
  re : ∀ i, i < acc.length → IsReO W (xs.getD i undef) (acc.getD i none)
theorem LAt.lt {w : World} {p : Nat} {s : List UInt8} {st : PS} {acc : List (Option RE)} {g cap : Nat} {xs : List Value} {W : World} (h : LAt w p s st acc g cap xs W) : g < W.heap.size := (Array.getElem?_eq_some_iff.1 h.row.row).1
theorem LAt.call {w : World} {p : Nat} {s : List UInt8} {st st' : PS} {acc : List (Option RE)} {g cap : Nat} {xs : List Value} {W W' : World} (h : LAt w p s st acc g cap xs W) (hpl : p < w.heap.size) (hp : PAt W' p s st') (hf : Far p W W') : LAt w p s st' acc g cap xs W' :=
  ⟨h.row.kept (hf.block g h.lt (fun e => by have := Option.some.inj e; have := h.base; omega)), h.base, hp, h.far.trans hf, fun i hi => (h.re i hi).far h.pa hf⟩
theorem LAt.later {w : World} {p : Nat} {s : List UInt8} {st : PS} {acc : List (Option RE)} {g cap : Nat} {xs : List Value} {W W' : World} (h : LAt w p s st acc g cap xs W) (hb : Below W.heap.size W W') : LAt w p s st acc g cap xs W' :=
  ⟨h.row.kept (hb.block g h.lt), h.base, h.pa.later hb, h.far.trans (Far.below hb), fun i hi => (h.re i hi).later hb⟩
theorem LAt.listO {w : World} {p : Nat} {s : List UInt8} {st : PS} {acc : List (Option RE)} {g cap : Nat} {xs : List Value} {W : World} (h : LAt w p s st acc g cap xs W) : ListO W (some ⟨g, 0, none⟩) acc := .inr ⟨g, 0, rfl, fun i hi => ⟨xs.getD i undef, by
  rw [Nat.zero_add]
  exact h.row.cell i _ (by rw [List.getD_eq_getElem?_getD, List.getElem?_eq_getElem (by rw [h.row.len]; exact hi)]; rfl), h.re i hi⟩⟩
theorem LAt.first {w : World} {p : Nat} {s : List UInt8} {st : PS} {r : Option RE} {v : Value} {W : World} (hp : PAt W p s st) (hf : Far p w W) (hr : IsReO W v r) : LAt w p s st [r] W.heap.size 1 [v] (W.alloc (.cells #[v] 28)) :=
  ⟨⟨heap_alloc_last W _, rfl, Nat.le_refl _, by unfold maxLen; simp⟩, hf.size, hp.later (re_alloc W _), hf.trans (Far.below (re_alloc W _)), fun i hi => by
    obtain rfl : i = 0 := by simpa using hi
    exact hr.later (re_alloc W _)⟩
theorem LAt.append {w : World} {p : Nat} {s : List UInt8} {st : PS} {acc : List (Option RE)} {g cap g' cap' : Nat} {xs : List Value} {v : Value} {r : Option RE} {W W' : World} (h : LAt w p s st acc g cap xs W) (hpl : p < w.heap.size) (hr : IsReO W v r)
   (h1 : RowN W' g' (acc.length + 1) cap' (xs ++ [v])) (h2 : W.grownBy W' (some g)) (h3 : g' = g ∨ g' = W.heap.size) (h4 : ∀ u o, IsReO W u o → IsReO W' u o) : LAt w p s st (acc ++ [r]) g' cap' (xs ++ [v]) W' := by
  have hb := h.base
  have hsz := h.far.size
  have hk : ∀ k, k < w.heap.size → W'.heap[k]? = W.heap[k]? := fun k hk => h2.block k (by omega) (fun e => by have := Option.some.inj e; omega)
  refine ⟨by simpa using h1, by omega, ⟨(hk p hpl).trans h.pa.row, h.pa.rest, h.pa.tot⟩, ?_, fun i hi => ?_⟩
  · refine ⟨h2.os.trans h.far.os, h2.tape.trans h.far.tape, h2.output.trans h.far.output, Nat.le_trans hsz h2.size, fun k hlt hne => (hk k hlt).trans (h.far.block k hlt hne)⟩
  · have hl := h.row.len
    by_cases e : i < acc.length
    · have := h4 _ _ (h.re i e)
      simpa [List.getD, List.getElem?_append_left e, List.getElem?_append_left (show i < xs.length by omega)] using this
    · obtain rfl : i = acc.length := by simp at hi; omega
      have := h4 _ _ hr
      rw [← hl]
      simp only [List.getD, List.getElem?_append_right (Nat.le_refl _), Nat.sub_self]
      rw [hl]
      simpa [List.getD] using this
theorem LAt.drew {w : World} {p : Nat} {s : List UInt8} {st : PS} {acc : List (Option RE)} {g cap : Nat} {xs : List Value} {W : World} (h : LAt w p s st acc g cap xs W) (n : Nat) : LAt w p s st acc g cap xs (W.drewN n) := h.later (ext_drewN (Below.refl _ _) n)
def CatAt (w : World) (p : Nat) (s : List UInt8) (fo : PS → PS × Option RE) (a : PS) (F : PS × RE) (v : Value) (wr : World) : Prop :=
  ∃ (f : Nat) (st : PS) (acc : List (Option RE)) (g cap : Nat) (xs : List Value), v = .slice (some ⟨g, 0, none⟩) acc.length cap ∧ LAt w p s st acc g cap xs wr ∧ PS.catGo fo f st acc = F ∧ (st.e = 0 → st.rest.length < f) ∧ PS.Acc 99 a st acc
theorem acc_len {c : Nat} {a st : PS} {acc : List (Option RE)} (h : PS.Acc c a st acc) (hc : 1 ≤ c) : acc.length ≤ 5000000 ∧ RE.sizeOs acc ≤ 5000000 := by
  have h1 := h.size
  have h2 := h.nodes.2
  have h3 : acc.length ≤ c * acc.length := Nat.le_mul_of_pos_left _ hc
  omega
set_option maxRecDepth 100000 in
set_option maxHeartbeats 8000000 in
theorem cat_any (d p : Nat) (s : List UInt8) (hs : s.length ≤ 65536) (f : PS → PS × Option RE) (hf : ∀ d', d' + 1 = d → PS.Gd d' f ∧ Orr d' p s f ∧ ∀ a, PS.At d' a → PS.Dk a (f a).1) (st : PS) (w : World) (h : PAt w p s st) (ha : PS.At d st) :
    Calls Tryz.prog 179 #[ptr p] w (PrPost p s w ((PS.cat f st).1, some (PS.cat f st).2)) := by
  have hpl := h.lt
  have HPO := Lib.hid (post_any d p s hs f hf st w h ha)
  have HRES := Lib.hid (PS.post_res (fun d' e => (hf d' e).1) st ha)
  have HNX := Lib.hid (fun (st' : PS) (W : World) (hp : PAt W p s st') (hat : PS.At d st') => post_any d p s hs f hf st' W hp hat)
  have HNR := Lib.hid (fun (st' : PS) (hat : PS.At d st') => PS.post_res (fun d' e => (hf d' e).1) st' hat)
  have HCAT : Hid (PS.cat f st = PS.catGo f ((PS.post f st).1.rest.length + 1) (PS.post f st).1 [(PS.post f st).2]) := rfl
  rw [HCAT.out]
  have hd60 := ha.2.2
  generalize PS.post f st = A at *
  obtain ⟨F, hF⟩ : ∃ F, PS.catGo f (A.1.rest.length + 1) A.1 [A.2] = F := ⟨_, rfl⟩
  have HF := Lib.hid hF
  rw [hF]
  have HA := Lib.hid ha
  clear hF HCAT h hf ha
  go_enter Tryz.func179, Tryz.ntmps179
  go_wp2_with fail
  refine HPO.out.mono ?_
  rintro e w1 ⟨v1, rfl, hre1, hp1, hf1⟩
  obtain ⟨q1, rfl⟩ := hre1.ptr
  have hst : CatAt w p s f st F (.slice (some ⟨w1.heap.size, 0, none⟩) 1 1) (w1.alloc (.cells #[.pointer q1] 28)) :=
    ⟨_, _, [A.2], _, _, _, rfl, LAt.first hp1 hf1 hre1, HF.out, fun _ => Nat.lt_succ_self _, PS.Acc.one HRES.out⟩
  have HST := Lib.hid hst
  clear hp1 hre1 hf1 hst HPO HRES HF
  go_wp2_with fail
  go_loopw [3] (fun v wr => CatAt w p s f st F v wr) (fun _ wr => psMeas p s wr)
  case atStart => exact HST.out
  case round =>
    clear HST
    obtain ⟨f', st', acc, g, cap, xs, rfl, hl, hgo, hfu, hacc⟩ := hrel
    have HL := Lib.hid hl
    have HGO := Lib.hid hgo
    have HFU := Lib.hid hfu
    have HACC := Lib.hid hacc
    have c4 := hl.pa.cells.2.2.2.2.1
    obtain ⟨hal, has⟩ := acc_len hacc (by omega)
    have HTH := Lib.hid (fun W (hl : ListO W (some ⟨g, 0, none⟩) acc) => Then_any (some ⟨g, 0, none⟩) cap acc W hl HACC.out.nf (by have h1 := RE.sizes_flat 3 acc; omega) (by omega))
    clear hl hgo hfu hacc
    by_cases he : st'.e = 0
    · have ge : (((st'.e : Nat) : Int) == 0) = true := by rw [he]; rfl
      have HE := Lib.hid he
      have hlen := HFU.out he
      obtain ⟨f'', rfl⟩ : ∃ g, f' = g + 1 := ⟨f' - 1, by omega⟩
      have HLEN := Lib.hid hlen
      have hgo2 := HGO.out
      rw [PS.catGo, if_neg (by omega)] at hgo2
      have HGO2 := Lib.hid hgo2
      clear he hlen hgo2 HGO HFU
      generalize st'.e = en at c4 ge
      go_wp2_with fail
      refine (psPeek_any p s st' _ HL.out.pa hs).mono ?_
      rintro e w2 ⟨rfl, hp2, hf2⟩
      have HL2 := Lib.hid (HL.out.call hpl hp2 hf2)
      have HRUN := Lib.hid (PS.skip_run HE.out)
      have HSKE : Hid (st'.skip.e = 0) := HE.out
      have HSKN : Hid (st'.skip.nodes = st'.nodes) := rfl
      have HSKD : Hid (st'.skip.deep = st'.deep) := rfl
      obtain ⟨d0, d1, _⟩ := hp2.cells
      have hrest := hp2.rest
      have htot := hp2.tot
      have hsz : (⟨s.toArray⟩ : ByteArray).size = s.length := str_size s
      clear hp2 hf2 c4 ge
      generalize st'.skip = sk at *
      obtain ⟨go, hgo⟩ : ∃ b, sk.stops = b := ⟨_, rfl⟩
      have HSTOP := Lib.hid hgo
      go_upto_region 4 with fail
      go_cut [33] from 8 to 38 (fun s33 wx => s33 = .bool go ∧ ∃ n, wx = w2.drewN n)
      case first =>
        have HIX : Hid (∀ W, Calls Tryz.prog 126 #[.string ⟨#[41, 124, 38, 45]⟩, .int .u8 (sk.head.toNat : Nat)] W fun e w' => e = .returned (.int .i64 (Lib.indexByte [41, 124, 38, 45] sk.head)) ∧ w' = W) := fun W => by
          have := IndexByte_any ⟨#[41, 124, 38, 45]⟩ ((sk.head.toNat : Nat) : Int) W
          simpa using this
        have hge := index_ge [41, 124, 38, 45] sk.head
        match hr : sk.rest with
        | [] =>
          have hh : sk.head = 0 := by show sk.rest.headD 0 = 0; rw [hr]; rfl
          have hnf : go = true := by rw [← hgo]; unfold PS.stops; rw [hr]; rfl
          rw [hr] at htot
          have hc1 : ((s.length : Nat) : Int) ≤ ((sk.at_ : Nat) : Int) := by simp at htot; omega
          have hc2 : s.length ≤ sk.at_ := by omega
          subst hnf
          clear hgo hrest htot hr
          have e0 : (((sk.head.toNat : Nat) : Int) == 0) = true := by rw [hh]; decide
          clear hh hge
          generalize Lib.indexByte [41, 124, 38, 45] sk.head = ix at *
          generalize sk.at_ = a at *
          go_quiet (exact Calls.quiet_of_same (HIX.out _))
          go_wp2_with fail
          go_meet
          exact ⟨rfl, _, rfl⟩
        | c :: r =>
          have hh : sk.head = c := by show sk.rest.headD 0 = c; rw [hr]; rfl
          rw [hr] at htot
          have hc1 : ¬ ((s.length : Nat) : Int) ≤ ((sk.at_ : Nat) : Int) := by simp at htot; omega
          have hc2 : ¬ s.length ≤ sk.at_ := by omega
          have hnf : ([41, 124, 38, 45] : List UInt8).contains c = go := by
            rw [← hgo]; unfold PS.stops; rw [hr, hh]
            simp only [List.contains_cons, List.contains_nil, List.isEmpty_cons, Bool.false_or, Bool.or_false, Bool.or_assoc]
          rw [hh, hnf, ← hh] at hge
          clear hgo hrest htot hr hh hnf
          generalize sk.at_ = a at *
          generalize Lib.indexByte [41, 124, 38, 45] sk.head = ix at *
          have e0 := byteIs sk.head 0 (by omega)
          generalize decide (sk.head = (0 : Nat).toUInt8) = z at e0
          have e0' : (((sk.head.toNat : Nat) : Int) == 0) = z := e0
          clear e0
          cases go with
          | true =>
            have hix : 0 ≤ ix := of_decide_eq_true hge
            clear hge
            cases z
            all_goals
              go_quiet (exact Calls.quiet_of_same (HIX.out _))
              go_wp2_with fail
              go_meet
              exact ⟨rfl, _, rfl⟩
          | false =>
            have hix : ¬ 0 ≤ ix := of_decide_eq_false hge
            clear hge
            cases z
            all_goals
              go_quiet (exact Calls.quiet_of_same (HIX.out _))
              go_wp2_with fail
              go_meet
              exact ⟨rfl, _, rfl⟩
      case rest =>
        obtain ⟨rfl, n, rfl⟩ := hcut
        have HL3 := Lib.hid (HL2.out.drew n)
        clear d0 d1 hrest htot hsz hgo
        cases go with
        | true =>
          have hF2 : F = (sk, RE.thenL acc) := by
            rw [← HGO2.out, if_pos HSTOP.out]
          subst hF2
          go_wp2_with fail
          refine (HTH.out _ HL3.out.listO).mono ?_
          rintro e w5 ⟨rb, rfl, hm, hb⟩
          have HL5 := Lib.hid (HL3.out.later hb)
          have HM := Lib.hid hm
          clear hm hb
          go_wp2_with fail
          go_ret
          exact ⟨_, rfl, ⟨rb, rfl, HM.out⟩, HL5.out.pa, HL5.out.far⟩
        | false =>
          have hg3 := HGO2.out
          rw [if_neg (by rw [HSTOP.out]; simp)] at hg3
          have HG3 := Lib.hid hg3
          have hat : PS.At d sk := ⟨HSKE.out, by rw [HSKN.out]; exact (HACC.out.go HE.out).2.1, by rw [HSKD.out, (HACC.out.go HE.out).2.2]; exact hd60⟩
          have hres := HNR.out sk hat
          have HRS := Lib.hid hres
          have HPX := Lib.hid (HNX.out sk _ HL3.out.pa hat)
          clear hg3 hres hat
          generalize PS.post f sk = R at *
          go_wp2_with fail
          refine HPX.out.mono ?_
          rintro e w5 ⟨v5, rfl, hre5, hp5, hf5⟩
          obtain ⟨q5, rfl⟩ := hre5.ptr
          have HL5 := Lib.hid (HL3.out.call hpl hp5 hf5)
          have HL6 := Lib.hid (HL5.out.later (re_alloc w5 (.cells #[.pointer q5] 28)))
          have HRE6 := Lib.hid (hre5.later (re_alloc w5 (.cells #[.pointer q5] 28)))
          have hsrc : (w5.alloc (.cells #[.pointer q5] 28)).cell? ⟨w5.heap.size, 0, none⟩ = some (.pointer q5) := by rw [cell_of_row _ _ _ _ _ _ (heap_alloc_last w5 _)]; rfl
          have HSRC := Lib.hid hsrc
          clear hre5 hp5 hf5 hsrc
          go_wp2_with (at_builtin; refine wpList_append_ptr rfl _ _ rfl g acc.length cap w5.heap.size 1 xs (.pointer q5) rfl rfl HL6.out.row HSRC.out rfl (by omega) ?_; intro g7 cp7 w7 h71 h72 h73 h74)
          have HL7 := Lib.hid (HL6.out.append hpl HRE6.out h71 h72 h73 h74)
          have HAC7 := Lib.hid (HACC.out.snoc (d := d) HE.out HRUN.out HSKN.out HSKD.out HRS.out)
          clear h71 h72 h73 h74
          have hfu7 : R.1.e = 0 → R.1.rest.length < f'' := fun e => by
            have h1 := PS.rest_lt' HRS.out.run (HRS.out.go e).1
            have h2 := HRUN.out.tot
            have h3 := HRUN.out.le
            have h4 := HLEN.out
            omega
          have hat7 : R.1.e = 0 → st'.at_ < R.1.at_ := fun e => by
            have h1 := (HRS.out.go e).1
            have h3 := HRUN.out.le
            omega
          have HFU7 := Lib.hid hfu7
          have HAT7 := Lib.hid hat7
          clear hfu7 hat7
          go_wp2_with fail
          go_roundw
          case rel => exact ⟨f'', R.1, acc ++ [R.2], g7, cp7, _, by simp, HL7.out, HG3.out, HFU7.out, HAC7.out⟩
          case measure => exact psMeas_lt HL.out.pa HL7.out.pa HE.out HAT7.out
    · have ge : (((st'.e : Nat) : Int) == 0) = false := by rw [beq_eq_false_iff_ne]; omega
      have hF2 : F = (st', RE.thenL acc) := by rw [← HGO.out]; exact PS.catGo_bad _ _ _ _ he
      subst hF2
      clear he HGO HFU
      generalize hee : st'.e = en at c4 ge
      go_wp2_with fail
      refine (HTH.out _ HL.out.listO).mono ?_
      rintro e w5 ⟨rb, rfl, hm, hb⟩
      have HL5 := Lib.hid (HL.out.later hb)
      have HM := Lib.hid hm
      clear hm hb
      go_wp2_with fail
      go_ret
      exact ⟨_, rfl, ⟨rb, rfl, HM.out⟩, HL5.out.pa, HL5.out.far⟩
end Go.Proofs.YtgamknphlmcgnaaGreatDoor
namespace Go.Proofs.YtgamknphlmcgnaaGreatDoor
open Go.RowKit
def andAt (w : World) (p : Nat) (s : List UInt8) (g0 : PS → PS × RE) (a : PS) (F : PS × RE) (v : Value) (wr : World) : Prop :=
  ∃ (f : Nat) (st : PS) (acc : List (Option RE)) (g cap : Nat) (xs : List Value), v = .slice (some ⟨g, 0, none⟩) acc.length cap ∧ LAt w p s st acc g cap xs wr ∧ PS.listGo g0 38 RE.bothL f st acc = F ∧ (st.e = 0 → st.rest.length < f) ∧ PS.Acc 97 a st acc
set_option maxRecDepth 100000 in
set_option maxHeartbeats 8000000 in
theorem and_any (d p : Nat) (s : List UInt8) (hs : s.length ≤ 65536) (f : PS → PS × Option RE) (hf : ∀ d', d' + 1 = d → PS.Gd d' f ∧ Orr d' p s f ∧ ∀ a, PS.At d' a → PS.Dk a (f a).1) (st : PS) (w : World) (h : PAt w p s st) (ha : PS.At d st) :
    Calls Tryz.prog 162 #[ptr p] w (PrPost p s w ((PS.and f st).1, some (PS.and f st).2)) := by
  have hpl := h.lt
  have HPO := Lib.hid (cat_any d p s hs f hf st w h ha)
  have HRES := Lib.hid (PS.cat_res (fun d' e => (hf d' e).1) st ha)
  have HNX := Lib.hid (fun (st' : PS) (W : World) (hp : PAt W p s st') (hat : PS.At d st') => cat_any d p s hs f hf st' W hp hat)
  have HNR := Lib.hid (fun (st' : PS) (hat : PS.At d st') => PS.cat_res (fun d' e => (hf d' e).1) st' hat)
  have HCAT : Hid (PS.and f st = PS.listGo (PS.cat f) 38 RE.bothL ((PS.cat f st).1.rest.length + 1) (PS.cat f st).1 [some (PS.cat f st).2]) := rfl
  rw [HCAT.out]
  have hd60 := ha.2.2
  generalize PS.cat f st = A at *
  obtain ⟨F, hF⟩ : ∃ F, PS.listGo (PS.cat f) 38 RE.bothL (A.1.rest.length + 1) A.1 [some A.2] = F := ⟨_, rfl⟩
  have HF := Lib.hid hF
  rw [hF]
  have HA := Lib.hid ha
  clear hF HCAT h hf ha
  go_enter Tryz.func162, Tryz.ntmps162
  go_wp2_with fail
  refine HPO.out.mono ?_
  rintro e w1 ⟨v1, rfl, hre1, hp1, hf1⟩
  obtain ⟨q1, rfl⟩ := hre1.ptr
  have hst : andAt w p s (PS.cat f) st F (.slice (some ⟨w1.heap.size, 0, none⟩) 1 1) (w1.alloc (.cells #[.pointer q1] 28)) :=
    ⟨_, _, [some A.2], _, _, _, rfl, LAt.first hp1 hf1 hre1, HF.out, fun _ => Nat.lt_succ_self _, PS.Acc.one HRES.out⟩
  have HST := Lib.hid hst
  clear hp1 hre1 hf1 hst HPO HRES HF
  go_wp2_with fail
  go_loopw [3] (fun v wr => andAt w p s (PS.cat f) st F v wr) (fun _ wr => psMeas p s wr)
  case atStart => exact HST.out
  case round =>
    clear HST
    obtain ⟨f', st', acc, g, cap, xs, rfl, hl, hgo, hfu, hacc⟩ := hrel
    have HL := Lib.hid hl
    have HGO := Lib.hid hgo
    have HFU := Lib.hid hfu
    have HACC := Lib.hid hacc
    have c4 := hl.pa.cells.2.2.2.2.1
    obtain ⟨hal, has⟩ := acc_len hacc (by omega)
    have HTH := Lib.hid (fun W (hl : ListO W (some ⟨g, 0, none⟩) acc) => Both_any (some ⟨g, 0, none⟩) cap acc W hl HACC.out.nf (by have h1 := RE.sizes_flat 6 acc; omega) (by omega))
    clear hl hgo hfu hacc
    by_cases he : st'.e = 0
    · have ge : (((st'.e : Nat) : Int) == 0) = true := by rw [he]; rfl
      have HE := Lib.hid he
      have hlen := HFU.out he
      obtain ⟨f'', rfl⟩ : ∃ g, f' = g + 1 := ⟨f' - 1, by omega⟩
      have HLEN := Lib.hid hlen
      have hgo2 := HGO.out
      rw [PS.listGo, if_neg (by omega)] at hgo2
      simp only at hgo2
      have HGO2 := Lib.hid hgo2
      have HTS := Lib.hid (PS.take_same st' 38)
      have HRUN := Lib.hid (PS.take_run he 38)
      have HTG := Lib.hid (fun (h : (st'.take 38).2 = true) => PS.take_go h)
      have HTK := Lib.hid (fun W (h : PAt W p s st') => psTake_any p s st' W h hs 38 (by decide))
      clear he hlen hgo2 HGO HFU
      generalize st'.e = en at c4 ge
      generalize st'.take 38 = T at *
      obtain ⟨sk, go⟩ := T
      have HSKE : Hid (sk.e = 0) := HTS.out.1.trans HE.out
      have HSKN : Hid (sk.nodes = st'.nodes) := HTS.out.2.1
      have HSKD : Hid (sk.deep = st'.deep) := HTS.out.2.2.1
      cases go with
      | false =>
        have hF2 : F = (sk, RE.bothL acc) := by
          have := HGO2.out; rw [if_neg (by simp)] at this; exact this.symm
        subst hF2
        go_wp2_with fail
        refine (HTK.out _ HL.out.pa).mono ?_
        rintro e w2 ⟨rfl, hp2, hf2⟩
        have HL2 := Lib.hid (HL.out.call hpl hp2 hf2)
        clear hp2 hf2
        go_wp2_with fail
        refine (HTH.out _ HL2.out.listO).mono ?_
        rintro e w5 ⟨rb, rfl, hm, hb⟩
        have HL5 := Lib.hid (HL2.out.later hb)
        have HM := Lib.hid hm
        clear hm hb
        go_wp2_with fail
        go_ret
        exact ⟨_, rfl, ⟨rb, rfl, HM.out⟩, HL5.out.pa, HL5.out.far⟩
      | true =>
        have hg3 := HGO2.out
        rw [if_pos rfl] at hg3
        have HG3 := Lib.hid hg3
        have hat : PS.At d sk := ⟨HSKE.out, by rw [HSKN.out]; exact (HACC.out.go HE.out).2.1, by rw [HSKD.out, (HACC.out.go HE.out).2.2]; exact hd60⟩
        have hres := HNR.out sk hat
        have HRS := Lib.hid hres
        have HAT := Lib.hid hat
        have HPX := Lib.hid (fun W (h : PAt W p s sk) => HNX.out sk W h HAT.out)
        clear hg3 hres hat
        generalize PS.cat f sk = R at *
        go_wp2_with fail
        refine (HTK.out _ HL.out.pa).mono ?_
        rintro e w2 ⟨rfl, hp2, hf2⟩
        have HL3 := Lib.hid (HL.out.call hpl hp2 hf2)
        clear hp2 hf2
        go_wp2_with fail
        refine (HPX.out _ HL3.out.pa).mono ?_
        rintro e w5 ⟨v5, rfl, hre5, hp5, hf5⟩
        obtain ⟨q5, rfl⟩ := hre5.ptr
        have HL5 := Lib.hid (HL3.out.call hpl hp5 hf5)
        have HL6 := Lib.hid (HL5.out.later (re_alloc w5 (.cells #[.pointer q5] 28)))
        have HRE6 := Lib.hid (hre5.later (re_alloc w5 (.cells #[.pointer q5] 28)))
        have hsrc : (w5.alloc (.cells #[.pointer q5] 28)).cell? ⟨w5.heap.size, 0, none⟩ = some (.pointer q5) := by rw [cell_of_row _ _ _ _ _ _ (heap_alloc_last w5 _)]; rfl
        have HSRC := Lib.hid hsrc
        clear hre5 hp5 hf5 hsrc
        go_wp2_with (at_builtin; refine wpList_append_ptr rfl _ _ rfl g acc.length cap w5.heap.size 1 xs (.pointer q5) rfl rfl HL6.out.row HSRC.out rfl (by omega) ?_; intro g7 cp7 w7 h71 h72 h73 h74)
        have HL7 := Lib.hid (HL6.out.append hpl HRE6.out h71 h72 h73 h74)
        have HAC7 := Lib.hid (HACC.out.snoc (d := d) HE.out HRUN.out HSKN.out HSKD.out HRS.out)
        clear h71 h72 h73 h74
        have hfu7 : R.1.e = 0 → R.1.rest.length < f'' := fun e => by
          have h1 := PS.rest_lt' HRS.out.run (HRS.out.go e).1
          have h2 := HRUN.out.tot
          have h3 := HRUN.out.le
          have h4 := HLEN.out
          simp only at h1 h2 h3
          omega
        have hat7 : R.1.e = 0 → st'.at_ < R.1.at_ := fun e => by
          have h1 := (HRS.out.go e).1
          have h3 := HRUN.out.le
          simp only at h1 h3
          omega
        have HFU7 := Lib.hid hfu7
        have HAT7 := Lib.hid hat7
        clear hfu7 hat7
        go_wp2_with fail
        go_roundw
        case rel => exact ⟨f'', R.1, acc ++ [some R.2], g7, cp7, _, by simp, HL7.out, HG3.out, HFU7.out, HAC7.out⟩
        case measure => exact psMeas_lt HL.out.pa HL7.out.pa HE.out HAT7.out
    · have ge : (((st'.e : Nat) : Int) == 0) = false := by rw [beq_eq_false_iff_ne]; omega
      have hF2 : F = (st', RE.bothL acc) := by rw [← HGO.out]; exact PS.listGo_bad _ _ _ _ _ _ he
      subst hF2
      clear he HGO HFU
      generalize hee : st'.e = en at c4 ge
      go_wp2_with fail
      refine (HTH.out _ HL.out.listO).mono ?_
      rintro e w5 ⟨rb, rfl, hm, hb⟩
      have HL5 := Lib.hid (HL.out.later hb)
      have HM := Lib.hid hm
      clear hm hb
      go_wp2_with fail
      go_ret
      exact ⟨_, rfl, ⟨rb, rfl, HM.out⟩, HL5.out.pa, HL5.out.far⟩
theorem PS.minus_step {a st t : PS} {r : RE} {x : PS × RE} (h : PS.Res 95 a (st, some r)) (he : st.e = 0) (T : PS.Run st t) (tn : t.nodes = st.nodes) (td : t.deep = st.deep) (hr : PS.Res 95 t (x.1, some x.2)) : PS.Res 95 a (x.1, some (RE.but (some r) (some x.2))) := by
  obtain ⟨k1, k2, k3, _⟩ := h.go he
  obtain ⟨n1, n2⟩ := h.nodes
  simp only at k1 k2 k3 n1 n2
  have hsz := h.size
  have hnf := h.nf r rfl
  have hs2 := hr.size
  obtain ⟨m1, m2⟩ := hr.nodes
  have hrn := hr.nf _ rfl
  simp only [RE.sizeO] at hsz hs2
  simp only at m1 m2
  have hle := T.le
  refine ⟨(h.run.trans T).trans hr.run, fun e => ?_, ⟨by show a.nodes < x.1.nodes; omega, m2⟩, fun y hy => ?_, ?_⟩
  · obtain ⟨g1, g2, g3, _⟩ := hr.go e
    simp only at g1 g2 g3
    exact ⟨by show a.at_ < x.1.at_; omega, g2, by show x.1.deep = a.deep; omega, _, rfl⟩
  · cases hy
    exact RE.nf_but (fun y hy => by cases hy; exact hnf) (fun y hy => by cases hy; exact hrn)
  · have := RE.size_but (some r) (some x.2)
    simp only [RE.sizeO] at this
    show (RE.but (some r) (some x.2)).size + 95 + 4000 * a.nodes ≤ 4000 * x.1.nodes
    omega
def MinusAt (w : World) (p : Nat) (s : List UInt8) (fo : PS → PS × Option RE) (a : PS) (F : PS × RE) (v : Value) (wr : World) : Prop :=
  ∃ (f : Nat) (st : PS) (r : RE), PAt wr p s st ∧ IsReO wr v (some r) ∧ Far p w wr ∧ PS.minusGo fo f st r = F ∧ (st.e = 0 → st.rest.length < f) ∧ PS.Res 95 a (st, some r)
set_option maxRecDepth 100000 in
set_option maxHeartbeats 8000000 in
theorem minus_any (d p : Nat) (s : List UInt8) (hs : s.length ≤ 65536) (f : PS → PS × Option RE) (hf : ∀ d', d' + 1 = d → PS.Gd d' f ∧ Orr d' p s f ∧ ∀ a, PS.At d' a → PS.Dk a (f a).1) (st : PS) (w : World) (h : PAt w p s st) (ha : PS.At d st) :
    Calls Tryz.prog 129 #[ptr p] w (PrPost p s w ((PS.minus f st).1, some (PS.minus f st).2)) := by
  have HPO := Lib.hid (and_any d p s hs f hf st w h ha)
  have HRES := Lib.hid (PS.and_res (fun d' e => (hf d' e).1) st ha)
  have HNX := Lib.hid (fun (st' : PS) (W : World) (hp : PAt W p s st') (hat : PS.At d st') => and_any d p s hs f hf st' W hp hat)
  have HNR := Lib.hid (fun (st' : PS) (hat : PS.At d st') => PS.and_res (fun d' e => (hf d' e).1) st' hat)
  have HCAT : Hid (PS.minus f st = PS.minusGo f ((PS.and f st).1.rest.length + 1) (PS.and f st).1 (PS.and f st).2) := rfl
  rw [HCAT.out]
  have hd60 := ha.2.2
  have HMR := Lib.hid (fun n st' r => PS.minusGo_res (fun d' e => (hf d' e).1) ha n st' r)
  generalize PS.and f st = A at *
  obtain ⟨F, hF⟩ : ∃ F, PS.minusGo f (A.1.rest.length + 1) A.1 A.2 = F := ⟨_, rfl⟩
  have HF := Lib.hid hF
  rw [hF]
  clear hF HCAT h hf ha
  go_enter Tryz.func129, Tryz.ntmps129
  go_wp2_with fail
  refine HPO.out.mono ?_
  rintro e w1 ⟨v1, rfl, hre1, hp1, hf1⟩
  have hst : MinusAt w p s f st F v1 w1 := ⟨_, _, A.2, hp1, hre1, hf1, HF.out, fun _ => Nat.lt_succ_self _, HRES.out⟩
  have HST := Lib.hid hst
  clear hp1 hre1 hf1 hst HPO HRES HF
  go_wp2_with fail
  go_loopw [3] (fun v wr => MinusAt w p s f st F v wr) (fun _ wr => psMeas p s wr)
  case atStart => exact HST.out
  case round =>
    clear HST
    obtain ⟨f', st', r, hp, hre, hfar, hgo, hfu, hres⟩ := hrel
    obtain ⟨rb, hrb, _⟩ := id hre
    subst hrb
    have HP := Lib.hid hp
    have HRE := Lib.hid hre
    have HFAR := Lib.hid hfar
    have HGO := Lib.hid hgo
    have HFU := Lib.hid hfu
    have HR := Lib.hid hres
    have c4 := hp.cells.2.2.2.2.1
    have hszr : r.size ≤ 5000000 := by have z1 := hres.size; have z2 := hres.nodes.2; simp only [RE.sizeO] at z1 z2; omega
    clear hp hre hfar hgo hfu hres
    by_cases he : st'.e = 0
    · have ge : (((st'.e : Nat) : Int) == 0) = true := by rw [he]; rfl
      have HE := Lib.hid he
      have hlen := HFU.out he
      obtain ⟨f'', rfl⟩ : ∃ g, f' = g + 1 := ⟨f' - 1, by omega⟩
      have HLEN := Lib.hid hlen
      have hgo2 := HGO.out
      rw [PS.minusGo, if_neg (by omega)] at hgo2
      simp only at hgo2
      have HGO2 := Lib.hid hgo2
      have HTS := Lib.hid (PS.take_same st' 45)
      have HRUN := Lib.hid (PS.take_run he 45)
      have HTG := Lib.hid (fun (h : (st'.take 45).2 = true) => PS.take_go h)
      have HTK := Lib.hid (fun W (h : PAt W p s st') => psTake_any p s st' W h hs 45 (by decide))
      clear he hlen hgo2 HGO HFU
      generalize st'.e = en at c4 ge
      generalize st'.take 45 = T at *
      obtain ⟨sk, go⟩ := T
      have HSKE : Hid (sk.e = 0) := HTS.out.1.trans HE.out
      have HSKN : Hid (sk.nodes = st'.nodes) := HTS.out.2.1
      have HSKD : Hid (sk.deep = st'.deep) := HTS.out.2.2.1
      cases go with
      | false =>
        have hF2 : F = (sk, r) := by
          have := HGO2.out; rw [if_neg (by simp)] at this; exact this.symm
        subst hF2
        go_wp2_with fail
        refine (HTK.out _ HP.out).mono ?_
        rintro e w2 ⟨rfl, hp2, hf2⟩
        have HRE2 := Lib.hid (HRE.out.far HP.out hf2)
        have HP2 := Lib.hid hp2
        have HF2 := Lib.hid (HFAR.out.trans hf2)
        clear hp2 hf2
        go_wp2_with fail
        go_ret
        exact ⟨_, rfl, HRE2.out, HP2.out, HF2.out⟩
      | true =>
        have hg3 := HGO2.out
        rw [if_pos rfl] at hg3
        have HG3 := Lib.hid hg3
        obtain ⟨k1, k2, k3, _⟩ := HR.out.go HE.out
        have hat : PS.At d sk := ⟨HSKE.out, by rw [HSKN.out]; exact k2, by rw [HSKD.out, show st'.deep = st.deep from k3]; exact hd60⟩
        have hres := HNR.out sk hat
        have HRS := Lib.hid hres
        have HAT := Lib.hid hat
        have HPX := Lib.hid (fun W (h : PAt W p s sk) => HNX.out sk W h HAT.out)
        have hsz2 : (PS.and f sk).2.size ≤ 5000000 := by have z1 := hres.size; have z2 := hres.nodes.2; simp only [RE.sizeO] at z1 z2; omega
        have HRESB : Hid (PS.Res 95 st ((PS.and f sk).1, some (RE.but (some r) (some (PS.and f sk).2)))) :=
          PS.minus_step HR.out HE.out HRUN.out HSKN.out HSKD.out hres
        clear hg3 hres hat k1 k2 k3
        generalize PS.and f sk = R at *
        go_wp2_with fail
        refine (HTK.out _ HP.out).mono ?_
        rintro e w2 ⟨rfl, hp2, hf2⟩
        have HRE2 := Lib.hid (HRE.out.far HP.out hf2)
        have HP2 := Lib.hid hp2
        have HF2 := Lib.hid (HFAR.out.trans hf2)
        clear hp2 hf2
        go_wp2_with fail
        refine (HPX.out _ HP2.out).mono ?_
        rintro e w5 ⟨v5, rfl, hre5, hp5, hf5⟩
        have HRE5 := Lib.hid (HRE2.out.far HP2.out hf5)
        have HQ5 := Lib.hid hre5
        have HP5 := Lib.hid hp5
        have HF5 := Lib.hid (HF2.out.trans hf5)
        clear hre5 hp5 hf5
        go_wp2_with fail
        refine (But_any (ptr rb) v5 (some r) (some R.2) _ HRE5.out HQ5.out (by simp only [RE.sizeO]; omega)).mono ?_
        rintro e w6 ⟨rb6, rfl, hm, hb⟩
        have HP6 := Lib.hid (HP5.out.later hb)
        have HF6 := Lib.hid (HF5.out.trans (Far.below hb))
        have HM := Lib.hid hm
        clear hm hb
        have hfu7 : R.1.e = 0 → R.1.rest.length < f'' := fun e => by
          have h1 := PS.rest_lt' HRS.out.run (HRS.out.go e).1
          have h2 := HRUN.out.tot
          have h3 := HRUN.out.le
          have h4 := HLEN.out
          simp only at h1 h2 h3
          omega
        have hat7 : R.1.e = 0 → st'.at_ < R.1.at_ := fun e => by
          have h1 := (HRS.out.go e).1
          have h3 := HRUN.out.le
          simp only at h1 h3
          omega
        have HFU7 := Lib.hid hfu7
        have HAT7 := Lib.hid hat7
        clear hfu7 hat7
        go_wp2_with fail
        go_roundw
        case rel => exact ⟨f'', R.1, RE.but (some r) (some R.2), HP6.out, ⟨rb6, rfl, HM.out⟩, HF6.out, HG3.out, HFU7.out, HRESB.out⟩
        case measure => exact psMeas_lt HP.out HP6.out HE.out HAT7.out
    · have ge : (((st'.e : Nat) : Int) == 0) = false := by rw [beq_eq_false_iff_ne]; omega
      have hF2 : F = (st', r) := by rw [← HGO.out]; exact PS.minusGo_bad _ _ _ _ he
      subst hF2
      clear he HGO HFU
      generalize hee : st'.e = en at c4 ge
      go_wp2_with fail
      go_ret
      exact ⟨_, rfl, HRE.out, HP.out, HFAR.out⟩
def orSAt (w : World) (p : Nat) (s : List UInt8) (g0 : PS → PS × RE) (a : PS) (F : PS × RE) (v : Value) (wr : World) : Prop :=
  ∃ (f : Nat) (st : PS) (acc : List (Option RE)) (g cap : Nat) (xs : List Value), v = .slice (some ⟨g, 0, none⟩) acc.length cap ∧ LAt w p s st acc g cap xs wr ∧ PS.listGo g0 124 RE.anyL f st acc = F ∧ (st.e = 0 → st.rest.length < f) ∧ PS.Acc 94 a st acc
set_option maxRecDepth 100000 in
set_option maxHeartbeats 8000000 in
theorem orS_any (d p : Nat) (s : List UInt8) (hs : s.length ≤ 65536) (f : PS → PS × Option RE) (hf : ∀ d', d' + 1 = d → PS.Gd d' f ∧ Orr d' p s f ∧ ∀ a, PS.At d' a → PS.Dk a (f a).1) (st : PS) (w : World) (h : PAt w p s st) (ha : PS.At d st) :
    Calls Tryz.prog 72 #[ptr p] w (PrPost p s w ((PS.orS f st).1, some (PS.orS f st).2)) := by
  have hpl := h.lt
  have HPO := Lib.hid (minus_any d p s hs f hf st w h ha)
  have HRES := Lib.hid (PS.minus_res (fun d' e => (hf d' e).1) st ha)
  have HNX := Lib.hid (fun (st' : PS) (W : World) (hp : PAt W p s st') (hat : PS.At d st') => minus_any d p s hs f hf st' W hp hat)
  have HNR := Lib.hid (fun (st' : PS) (hat : PS.At d st') => PS.minus_res (fun d' e => (hf d' e).1) st' hat)
  have HCAT : Hid (PS.orS f st = PS.listGo (PS.minus f) 124 RE.anyL ((PS.minus f st).1.rest.length + 1) (PS.minus f st).1 [some (PS.minus f st).2]) := rfl
  rw [HCAT.out]
  have hd60 := ha.2.2
  generalize PS.minus f st = A at *
  obtain ⟨F, hF⟩ : ∃ F, PS.listGo (PS.minus f) 124 RE.anyL (A.1.rest.length + 1) A.1 [some A.2] = F := ⟨_, rfl⟩
  have HF := Lib.hid hF
  rw [hF]
  have HA := Lib.hid ha
  clear hF HCAT h hf ha
  go_enter Tryz.func72, Tryz.ntmps72
  go_wp2_with fail
  refine HPO.out.mono ?_
  rintro e w1 ⟨v1, rfl, hre1, hp1, hf1⟩
  obtain ⟨q1, rfl⟩ := hre1.ptr
  have hst : orSAt w p s (PS.minus f) st F (.slice (some ⟨w1.heap.size, 0, none⟩) 1 1) (w1.alloc (.cells #[.pointer q1] 28)) :=
    ⟨_, _, [some A.2], _, _, _, rfl, LAt.first hp1 hf1 hre1, HF.out, fun _ => Nat.lt_succ_self _, PS.Acc.one HRES.out⟩
  have HST := Lib.hid hst
  clear hp1 hre1 hf1 hst HPO HRES HF
  go_wp2_with fail
  go_loopw [3] (fun v wr => orSAt w p s (PS.minus f) st F v wr) (fun _ wr => psMeas p s wr)
  case atStart => exact HST.out
  case round =>
    clear HST
    obtain ⟨f', st', acc, g, cap, xs, rfl, hl, hgo, hfu, hacc⟩ := hrel
    have HL := Lib.hid hl
    have HGO := Lib.hid hgo
    have HFU := Lib.hid hfu
    have HACC := Lib.hid hacc
    have c4 := hl.pa.cells.2.2.2.2.1
    obtain ⟨hal, has⟩ := acc_len hacc (by omega)
    have HTH := Lib.hid (fun W (hl : ListO W (some ⟨g, 0, none⟩) acc) => Any_any (some ⟨g, 0, none⟩) cap acc W hl HACC.out.nf (by have h1 := RE.sizes_flat 4 acc; omega) (by omega))
    clear hl hgo hfu hacc
    by_cases he : st'.e = 0
    · have ge : (((st'.e : Nat) : Int) == 0) = true := by rw [he]; rfl
      have HE := Lib.hid he
      have hlen := HFU.out he
      obtain ⟨f'', rfl⟩ : ∃ g, f' = g + 1 := ⟨f' - 1, by omega⟩
      have HLEN := Lib.hid hlen
      have hgo2 := HGO.out
      rw [PS.listGo, if_neg (by omega)] at hgo2
      simp only at hgo2
      have HGO2 := Lib.hid hgo2
      have HTS := Lib.hid (PS.take_same st' 124)
      have HRUN := Lib.hid (PS.take_run he 124)
      have HTG := Lib.hid (fun (h : (st'.take 124).2 = true) => PS.take_go h)
      have HTK := Lib.hid (fun W (h : PAt W p s st') => psTake_any p s st' W h hs 124 (by decide))
      clear he hlen hgo2 HGO HFU
      generalize st'.e = en at c4 ge
      generalize st'.take 124 = T at *
      obtain ⟨sk, go⟩ := T
      have HSKE : Hid (sk.e = 0) := HTS.out.1.trans HE.out
      have HSKN : Hid (sk.nodes = st'.nodes) := HTS.out.2.1
      have HSKD : Hid (sk.deep = st'.deep) := HTS.out.2.2.1
      cases go with
      | false =>
        have hF2 : F = (sk, RE.anyL acc) := by
          have := HGO2.out; rw [if_neg (by simp)] at this; exact this.symm
        subst hF2
        go_wp2_with fail
        refine (HTK.out _ HL.out.pa).mono ?_
        rintro e w2 ⟨rfl, hp2, hf2⟩
        have HL2 := Lib.hid (HL.out.call hpl hp2 hf2)
        clear hp2 hf2
        go_wp2_with fail
        refine (HTH.out _ HL2.out.listO).mono ?_
        rintro e w5 ⟨rb, rfl, hm, hb⟩
        have HL5 := Lib.hid (HL2.out.later hb)
        have HM := Lib.hid hm
        clear hm hb
        go_wp2_with fail
        go_ret
        exact ⟨_, rfl, ⟨rb, rfl, HM.out⟩, HL5.out.pa, HL5.out.far⟩
      | true =>
        have hg3 := HGO2.out
        rw [if_pos rfl] at hg3
        have HG3 := Lib.hid hg3
        have hat : PS.At d sk := ⟨HSKE.out, by rw [HSKN.out]; exact (HACC.out.go HE.out).2.1, by rw [HSKD.out, (HACC.out.go HE.out).2.2]; exact hd60⟩
        have hres := HNR.out sk hat
        have HRS := Lib.hid hres
        have HAT := Lib.hid hat
        have HPX := Lib.hid (fun W (h : PAt W p s sk) => HNX.out sk W h HAT.out)
        clear hg3 hres hat
        generalize PS.minus f sk = R at *
        go_wp2_with fail
        refine (HTK.out _ HL.out.pa).mono ?_
        rintro e w2 ⟨rfl, hp2, hf2⟩
        have HL3 := Lib.hid (HL.out.call hpl hp2 hf2)
        clear hp2 hf2
        go_wp2_with fail
        refine (HPX.out _ HL3.out.pa).mono ?_
        rintro e w5 ⟨v5, rfl, hre5, hp5, hf5⟩
        obtain ⟨q5, rfl⟩ := hre5.ptr
        have HL5 := Lib.hid (HL3.out.call hpl hp5 hf5)
        have HL6 := Lib.hid (HL5.out.later (re_alloc w5 (.cells #[.pointer q5] 28)))
        have HRE6 := Lib.hid (hre5.later (re_alloc w5 (.cells #[.pointer q5] 28)))
        have hsrc : (w5.alloc (.cells #[.pointer q5] 28)).cell? ⟨w5.heap.size, 0, none⟩ = some (.pointer q5) := by rw [cell_of_row _ _ _ _ _ _ (heap_alloc_last w5 _)]; rfl
        have HSRC := Lib.hid hsrc
        clear hre5 hp5 hf5 hsrc
        go_wp2_with (at_builtin; refine wpList_append_ptr rfl _ _ rfl g acc.length cap w5.heap.size 1 xs (.pointer q5) rfl rfl HL6.out.row HSRC.out rfl (by omega) ?_; intro g7 cp7 w7 h71 h72 h73 h74)
        have HL7 := Lib.hid (HL6.out.append hpl HRE6.out h71 h72 h73 h74)
        have HAC7 := Lib.hid (HACC.out.snoc (d := d) HE.out HRUN.out HSKN.out HSKD.out HRS.out)
        clear h71 h72 h73 h74
        have hfu7 : R.1.e = 0 → R.1.rest.length < f'' := fun e => by
          have h1 := PS.rest_lt' HRS.out.run (HRS.out.go e).1
          have h2 := HRUN.out.tot
          have h3 := HRUN.out.le
          have h4 := HLEN.out
          simp only at h1 h2 h3
          omega
        have hat7 : R.1.e = 0 → st'.at_ < R.1.at_ := fun e => by
          have h1 := (HRS.out.go e).1
          have h3 := HRUN.out.le
          simp only at h1 h3
          omega
        have HFU7 := Lib.hid hfu7
        have HAT7 := Lib.hid hat7
        clear hfu7 hat7
        go_wp2_with fail
        go_roundw
        case rel => exact ⟨f'', R.1, acc ++ [some R.2], g7, cp7, _, by simp, HL7.out, HG3.out, HFU7.out, HAC7.out⟩
        case measure => exact psMeas_lt HL.out.pa HL7.out.pa HE.out HAT7.out
    · have ge : (((st'.e : Nat) : Int) == 0) = false := by rw [beq_eq_false_iff_ne]; omega
      have hF2 : F = (st', RE.anyL acc) := by rw [← HGO.out]; exact PS.listGo_bad _ _ _ _ _ _ he
      subst hF2
      clear he HGO HFU
      generalize hee : st'.e = en at c4 ge
      go_wp2_with fail
      refine (HTH.out _ HL.out.listO).mono ?_
      rintro e w5 ⟨rb, rfl, hm, hb⟩
      have HL5 := Lib.hid (HL.out.later hb)
      have HM := Lib.hid hm
      clear hm hb
      go_wp2_with fail
      go_ret
      exact ⟨_, rfl, ⟨rb, rfl, HM.out⟩, HL5.out.pa, HL5.out.far⟩
theorem or_all (p : Nat) (s : List UInt8) (hs : s.length ≤ 65536) : ∀ d, Orr d p s (PS.orN (d + 1)) := by
  intro d
  induction d with
  | zero =>
    intro st w h ha
    exact orS_any 0 p s hs (PS.orN 0) (fun d' e => absurd e (by omega)) st w h ha
  | succ d ih =>
    intro st w h ha
    exact orS_any (d + 1) p s hs (PS.orN (d + 1)) (fun d' e => (show d = d' by omega) ▸ ⟨PS.orN_res d, ih, PS.orN_dk d⟩) st w h ha
end Go.Proofs.YtgamknphlmcgnaaGreatDoor
namespace Go.Proofs.YtgamknphlmcgnaaGreatDoor
open Go.RowKit
/-- what Read hands back -/
def ReadPost (w : World) (r : Option RE × Nat × Nat) (e : Ending) (w' : World) : Prop := ∃ v, e = .returned (.tuple #[v, .int .i64 (r.2.1 : Nat), .int .i64 (r.2.2 : Nat)]) ∧ IsReO w' v r.1 ∧ Below w.heap.size w w'
theorem far_below {w W : World} {o : Obj} (h : Far w.heap.size (w.alloc o) W) : Below w.heap.size w W := by
  have hx := re_alloc w o
  have hs := h.size
  refine ⟨h.os.trans hx.os, h.tape.trans hx.tape, h.output.trans hx.output, by simp at hs; omega, fun k hk => ?_⟩
  exact (h.block k (by simp; omega) (fun e => by have := Option.some.inj e; omega)).trans (hx.block k hk)
theorem readS_res (s : List UInt8) : PS.Res 93 ⟨s, 0, 0, 0, 0, 0⟩ ((readS s).1, some (readS s).2) :=
  PS.orS_res (d := 60) (f := PS.orN 60) (fun d' e => by obtain rfl : d' = 59 := by omega
                                                        exact PS.orN_res 59) _ ⟨rfl, by simp, rfl⟩
theorem ne_tuple (e : Nat) (h : e ≠ 0) : (((e : Nat) : Int) != 0) = true ∧ (((e : Nat) : Int) == 0) = false := by
  have : (((e : Nat) : Int) == 0) = false := by rw [beq_eq_false_iff_ne]; omega
  exact ⟨by rw [bne, this]; rfl, this⟩
set_option maxRecDepth 100000 in
set_option maxHeartbeats 8000000 in
theorem Read_any (s : List UInt8) (hl : s.length ≤ 1099511627776) (w : World) : Calls Tryz.prog 28 #[.string ⟨s.toArray⟩] w (ReadPost w (readW s)) := by
  have hsz : (⟨s.toArray⟩ : ByteArray).size = s.length := str_size s
  by_cases hbig : 65536 < s.length
  · have HR : Hid (readW s = (none, 3, 0)) := by show _ = _; unfold readW; rw [if_pos hbig]
    rw [HR.out]
    have hb' : (65536 : Int) < (s.length : Nat) := by omega
    go_enter Tryz.func28, Tryz.ntmps28
    go_wp2_with fail
    go_ret3
    exact ⟨_, rfl, rfl, Below.refl _ _⟩
  · have hs : s.length ≤ 65536 := by omega
    have hb' : ¬ (65536 : Int) < (s.length : Nat) := by omega
    have HR : Hid (readW s = if (readE s).e = 0 then (some (readS s).2, 0, 0) else (none, (readE s).e, (readE s).wh)) := by show _ = _; unfold readW; rw [if_neg hbig]
    have HEE : Hid (readE s = if (if (readS s).1.e = 0 then (if (readS s).1.skip.rest = [] then (readS s).1.skip else (readS s).1.skip.fail 2) else (readS s).1).e = 0 ∧ 1000 < (readS s).2.size then { (if (readS s).1.e = 0 then (if (readS s).1.skip.rest = [] then (readS s).1.skip else (readS s).1.skip.fail 2) else (readS s).1) with at_ := 0 }.fail 3 else (if (readS s).1.e = 0 then (if (readS s).1.skip.rest = [] then (readS s).1.skip else (readS s).1.skip.fail 2) else (readS s).1)) := rfl
    have hp0 : PAt (w.alloc (.cells (psCells s ⟨s, 0, 0, 0, 0, 0⟩) 130)) w.heap.size s ⟨s, 0, 0, 0, 0, 0⟩ := ⟨heap_alloc_last w _, rfl, by simp⟩
    have HOR := Lib.hid (orS_any 60 w.heap.size s hs (PS.orN 60) (fun d' e => by
      obtain rfl : d' = 59 := by omega
      exact ⟨PS.orN_res 59, or_all w.heap.size s hs 59, PS.orN_dk 59⟩) ⟨s, 0, 0, 0, 0, 0⟩ _ hp0 ⟨rfl, by simp, rfl⟩)
    have HRES := Lib.hid (readS_res s)
    have HBF := Lib.hid (fun W (h : Far w.heap.size (w.alloc (.cells (psCells s ⟨s, 0, 0, 0, 0, 0⟩) 130)) W) => far_below h)
    have hrd : ((PS.orS (PS.orN 60) ⟨s, 0, 0, 0, 0, 0⟩).1, some (PS.orS (PS.orN 60) ⟨s, 0, 0, 0, 0, 0⟩).2) = ((readS s).1, some (readS s).2) := rfl
    rw [hrd] at HOR
    clear hp0 hrd hbig
    generalize readW s = RW at *
    generalize readE s = RE_ at *
    generalize readS s = R at *
    obtain ⟨st, x⟩ := R
    go_enter Tryz.func28, Tryz.ntmps28
    go_wp2_with fail
    refine HOR.out.mono ?_
    rintro e w1 ⟨v1, rfl, hre1, hp1, hf1⟩
    obtain ⟨xb, rfl, hx1⟩ := hre1
    have HX1 := Lib.hid hx1
    have HP1 := Lib.hid hp1
    have HF1 := Lib.hid hf1
    have c4 := hp1.cells.2.2.2.2.1
    clear hx1 hp1 hf1 HOR
    by_cases he : st.e = 0
    · have ge : (((st.e : Nat) : Int) == 0) = true := by rw [he]; rfl
      have HE := Lib.hid he
      have HEE2 : Hid (RE_ = if (if st.skip.rest = [] then st.skip else st.skip.fail 2).e = 0 ∧ 1000 < x.size then { (if st.skip.rest = [] then st.skip else st.skip.fail 2) with at_ := 0 }.fail 3 else (if st.skip.rest = [] then st.skip else st.skip.fail 2)) := by
        show _ = _
        have := HEE.out
        simp only [he, if_true] at this
        exact this
      clear he HEE
      generalize st.e = en at c4 ge
      go_wp2_with fail
      refine (psPeek_any w.heap.size s st _ HP1.out hs).mono ?_
      rintro e w2 ⟨rfl, hp2, hf2⟩
      have HX2 := Lib.hid (HX1.out.far HP1.out hf2)
      have HP2 := Lib.hid hp2
      have HF2 := Lib.hid (HF1.out.trans hf2)
      have d1 := hp2.cells.2.1
      have htot := hp2.tot
      have HSKE : Hid (st.skip.e = 0) := HE.out
      clear hp2 hf2 c4 ge
      generalize st.skip = sk at *
      by_cases hr : sk.rest = []
      · have hh : sk.head = 0 := by show sk.rest.headD 0 = 0; rw [hr]; rfl
        have ge : (((sk.head.toNat : Nat) : Int) == 0) = true := by rw [hh]; decide
        have gne : (((sk.head.toNat : Nat) : Int) != 0) = false := by rw [hh]; decide
        have hc1 : ¬ ((sk.at_ : Nat) : Int) < (s.length : Nat) := by rw [hr] at htot; simp at htot; omega
        have hc2 : ¬ sk.at_ < s.length := by omega
        have HEE3 : Hid (RE_ = if 1000 < x.size then { sk with at_ := 0 }.fail 3 else sk) := by
          show _ = _
          have := HEE2.out
          rw [if_pos hr] at this
          rw [this]
          by_cases hz : 1000 < x.size
          · rw [if_pos ⟨HSKE.out, hz⟩, if_pos hz]
          · rw [if_neg (fun h => hz h.2), if_neg hz]
        have d4 := HP2.out.cells.2.2.2.2.1
        have e4 : ((sk.e : Nat) : Int) = 0 := by rw [HSKE.out]; rfl
        rw [e4] at d4
        have HS := Lib.hid (fun W (h : IsReO W (ptr xb) (some x)) => Size_any (ptr xb) (some x) W h)
        have hsx : RE.sizeO (some x) = x.size := rfl
        rw [hsx] at HS
        clear hr hh htot HEE2 e4 hsx
        generalize sk.at_ = a at *
        generalize sk.head.toNat = hn at *
        obtain ⟨z, HZ⟩ : ∃ z, Hid (x.size = z) := ⟨_, rfl⟩
        rw [HZ.out] at HS HEE3
        go_wp2_with fail
        refine (HS.out _ ⟨xb, rfl, HX2.out⟩).mono ?_
        rintro e w3 ⟨rfl, rfl⟩
        by_cases hz : 1000 < z
        · have hz' : (1000 : Int) < (z : Int) := by omega
          have f1 := HP2.out.frz 1
          have hp4 : PAt (w3.setCell ⟨w.heap.size, 1, none⟩ (.int .i64 0)) w.heap.size s { sk with at_ := 0, rest := s } := HP2.out.put 1 _ (by rfl) rfl (by simp)
          have HP4 := Lib.hid hp4
          have HF4 := Lib.hid (HF2.out.set 1 (.int .i64 0))
          have HQ : Hid (RE_.e = 3 ∧ RE_.wh = 0) := by
            show _ ∧ _
            rw [HEE3.out, if_pos hz]
            simp [PS.fail, HSKE.out]
          have hf0 : ({ sk with at_ := 0, rest := s } : PS).fail 3 = { sk with at_ := 0 + s.length, rest := [], e := 3, wh := 0 } := by simp [PS.fail, HSKE.out]
          have HFS := Lib.hid hf0
          have HRN : Hid (RW = (none, 3, 0)) := by
            show _ = _
            rw [HR.out, HQ.out.1, HQ.out.2]; rfl
          clear hz hp4 hf0 HEE3
          go_wp2_with fail
          refine (psFail_any w.heap.size s _ _ HP4.out hs 3 (by omega)).mono ?_
          rintro e w5 ⟨rfl, hp5, hf5⟩
          rw [HFS.out] at hp5
          have HP5 := Lib.hid hp5
          have HF5 := Lib.hid (HF4.out.trans hf5)
          clear hp5 hf5
          have k4 : w5.cell? ⟨w.heap.size, 4, none⟩ = some (.int .i64 3) := HP5.out.cells.2.2.2.2.1
          have k5 : w5.cell? ⟨w.heap.size, 5, none⟩ = some (.int .i64 0) := HP5.out.cells.2.2.2.2.2
          go_wp2_with fail
          go_quiet (fail)
          go_wp2_with fail
          go_ret3
          rw [HRN.out]
          exact ⟨.pointer none, rfl, rfl, HBF.out _ (HF5.out.drew _)⟩
        · have hz' : ¬ (1000 : Int) < (z : Int) := by omega
          have HRN : Hid (RW = (some x, 0, 0)) := by
            show _ = _
            rw [HR.out, HEE3.out, if_neg hz, HSKE.out]; rfl
          clear hz
          go_wp2_with fail
          go_ret3
          rw [HRN.out]
          exact ⟨_, rfl, ⟨xb, rfl, HX2.out⟩, HBF.out _ HF2.out⟩
      · have hlt : sk.at_ < s.length := by have := List.length_pos_iff.2 hr; omega
        have hc1 : ((sk.at_ : Nat) : Int) < (s.length : Nat) := by omega
        have HQ : Hid (RE_.e = 2 ∧ RE_.wh = sk.at_) := by
          show _ ∧ _
          have := HEE2.out
          rw [if_neg hr] at this
          rw [this, if_neg (by simp [PS.fail, HSKE.out])]
          simp [PS.fail, HSKE.out]
        have HRN : Hid (RW = (none, 2, sk.at_)) := by
          show _ = _
          rw [HR.out, HQ.out.1, HQ.out.2]; rfl
        have hfe : (sk.fail 2).e = 2 ∧ (sk.fail 2).wh = sk.at_ := by simp [PS.fail, HSKE.out]
        have HFE := Lib.hid hfe
        clear hr htot hfe HEE2
        obtain ⟨a, HAT⟩ : ∃ a, Hid (sk.at_ = a) := ⟨_, rfl⟩
        rw [HAT.out] at d1 hlt hc1 HRN HFE
        have e0 := byteIs sk.head 0 (by omega)
        generalize decide (sk.head = (0 : Nat).toUInt8) = z at e0
        have e0' : (((sk.head.toNat : Nat) : Int) == 0) = z := e0
        have e1' : (((sk.head.toNat : Nat) : Int) != 0) = !z := by rw [bne, e0']
        clear e0
        generalize sk.head.toNat = hn at *
        cases z
        all_goals
          go_wp2_with fail
          refine (psFail_any w.heap.size s sk _ HP2.out hs 2 (by omega)).mono ?_
          rintro e w5 ⟨rfl, hp5, hf5⟩
          have HP5 := Lib.hid hp5
          have HF5 := Lib.hid (HF2.out.trans hf5)
          have k4 := HP5.out.cells.2.2.2.2.1
          have k5 := HP5.out.cells.2.2.2.2.2
          rw [HFE.out.1] at k4
          rw [HFE.out.2] at k5
          clear hp5 hf5
          go_wp2_with fail
          go_quiet (fail)
          go_wp2_with fail
          go_ret3
          rw [HRN.out]
          exact ⟨.pointer none, rfl, rfl, HBF.out _ (HF5.out.drew _)⟩
    · obtain ⟨gne, ge⟩ := ne_tuple st.e he
      have HRN : Hid (RW = (none, st.e, st.wh)) := by
        have hE := HEE.out
        simp only [he, if_false, false_and] at hE
        show _ = _
        rw [HR.out, hE, if_neg he]
      have c5 := HP1.out.cells.2.2.2.2.2
      clear he HEE
      go_wp2_with fail
      go_quiet (fail)
      go_wp2_with fail
      go_ret3
      rw [HRN.out]
      exact ⟨.pointer none, rfl, rfl, HBF.out _ (HF1.out.drew _)⟩
end Go.Proofs.YtgamknphlmcgnaaGreatDoor
