/-
  Terms that begin with a word: walked through the program.
-/

import Derived.Test.YtgamknphlmcgnaaGreatDoorZlA
import Derived.Test.YtgamknphlmcgnaaGreatDoorZlB
import Derived.Test.YtgamknphlmcgnaaGreatDoorZlC
import Derived.Test.YtgamknphlmcgnaaGreatDoorZlD
import Derived.Test.YtgamknphlmcgnaaGreatDoorZlE
import Derived.Test.YtgamknphlmcgnaaGreatDoorZlF
import Derived.Test.YtgamknphlmcgnaaGreatDoorZlG
import Derived.Test.YtgamknphlmcgnaaGreatDoorZlH
import Derived.Test.YtgamknphlmcgnaaGreatDoorZlI
import Derived.Test.YtgamknphlmcgnaaGreatDoorZlJ
set_option linter.unusedSimpArgs false
set_option linter.unusedVariables false
set_option maxRecDepth 100000
set_option linter.unnecessarySimpa false
namespace Go.Proofs.YtgamknphlmcgnaaGreatDoor
open Go.RowKit
variable {w w' : World} {p g cap a d c : Nat} {T : List LT}
theorem TmB.leaf0 {w0 W : World} {b o q : Nat} (h : W.heap[b]? = some (.cells (tmCells o q [] (.pointer none) [] [] (.slice none 0 0)) 68 (0, 0))) (hb : w0.heap.size ≤ b) : TmB w0 W (TA.node b o q [] none [] [] []) := by
  refine ⟨⟨⟨.pointer none, none, 0, h, rfl, .inl rfl⟩, trivial⟩, fun x hx => ?_, by simp [TA.blocks, TA.blockss]⟩
  simp only [TA.blocks, TA.blockss, List.mem_cons, List.not_mem_nil, or_false] at hx
  subst hx
  exact ⟨hb, (Array.getElem?_eq_some_iff.1 h).1⟩
theorem TmB.one1 {w0 W : World} {b o q : Nat} {t : TA} {kv : Value} {og : Option Nat} (h : W.heap[b]? = some (.cells (tmCells o q [] (.pointer none) [] [] kv) 68 (0, 0))) (hk : KidsV W kv [t] og) (ht : TmB w0 W t) (hb : w0.heap.size ≤ b) (hn : b ∉ t.blocks) : TmB w0 W (TA.node b o q [] none [] [] [t]) := by
  obtain ⟨kp, cap, rfl, hrow⟩ := hk.rowT
  refine ⟨⟨⟨.pointer none, kp, cap, h, rfl, hrow⟩, ht.is, trivial⟩, fun x hx => ?_, by simp [TA.blocks, TA.blockss, hn, ht.nod]⟩
  simp only [TA.blocks, TA.blockss, List.mem_cons, List.append_nil] at hx
  rcases hx with rfl | hx
  · exact ⟨hb, (Array.getElem?_eq_some_iff.1 h).1⟩
  · exact ht.blk x hx
theorem tm_put1 {W : World} {b o q : Nat} {rv kv : Value} (h : W.heap[b]? = some (.cells (tmCells o 0 [] rv [] [] kv) 68 (0, 0))) : (W.setCell ⟨b, 1, none⟩ (.int .i64 (q : Nat))).heap[b]? = some (.cells (tmCells o q [] rv [] [] kv) 68 (0, 0)) := by
  rw [heap_setCell_same _ _ _ _ _ _ h]; rfl
theorem KidsV.put {W : World} {kv : Value} {ts : List TA} {og : Option Nat} {b j : Nat} {v : Value} {cs : Array Value} (h : KidsV W kv ts og) (hb : W.heap[b]? = some (.cells cs 68 (0, 0))) : KidsV (W.setCell ⟨b, j, none⟩ v) kv ts og :=
  h.keep fun g hg => by
    obtain ⟨cs', hc⟩ := h.ty g hg
    refine Below.heap_setCell _ _ _ _ (fun e => ?_)
    have e : g = b := e
    rw [e, hb] at hc
    have := Option.some.inj hc
    injection this with _ e2 _
    exact absurd e2 (by decide)
set_option maxHeartbeats 2000000 in
theorem OfTm_one (op : Nat) (hop : op < 20) (G : Nat) (t : TA) (w : World) (h0 : w.heap[G]? = some (.cells #[ptr t.b] 62 (0, 0))) :
    Calls Tryz.prog 50 #[.int .i64 op, .slice (some ⟨G, 0, none⟩) 1 1] w fun e w' => ∃ b kv og, e = .returned (ptr b) ∧ w.heap.size ≤ b ∧ w'.heap[b]? = some (.cells (tmCells op 0 [] (.pointer none) [] [] kv) 68 (0, 0)) ∧ KidsV w' kv [t] og ∧ Below w.heap.size w w' := by
  have hc0 : w.cell? ⟨G, 0, none⟩ = some (ptr t.b) := by rw [cell_of_row _ _ _ _ _ _ h0]; rfl
  have HC := Lib.hid hc0
  clear h0 hc0
  go_enter Tryz.func50, Tryz.ntmps50
  go_wp2_with (at_builtin; refine wpList_append_kids rfl _ _ rfl (.slice none 0 0) [] t none G 1 rfl rfl .nil HC.out (by simp) ?_; intro g5 n5 cp5 W9 hk9 hg9 hat9 hta9 hre9)
  go_ret
  have hb9 : Below w.heap.size w W9 := ⟨hg9.os, hg9.tape, hg9.output, hg9.size, fun k hk => hg9.block k hk (fun e => by cases e)⟩
  refine ⟨W9.heap.size, _, _, rfl, hb9.size, heap_alloc_last _ _, hk9.keep (fun g hg => ?_), ext_alloc hb9 _⟩
  obtain ⟨cs, hc⟩ := hk9.ty g hg
  exact (re_alloc W9 _).block g (Array.getElem?_eq_some_iff.1 hc).1
/-- a new term, without parts -/
theorem prTerm0 (h : PrAt w p T g cap a d c) (o q : Nat) (ho : o < 20) : Calls Tryz.prog 143 #[ptr p, .int .i64 (o : Nat), .int .i64 (q : Nat), .slice none 0 0] w
    (PqPost p T g cap a d w (TmV w) ((PR.cnt q (T.drop a) c).bind fun _ ts c => .ok (TA.node 0 o (q : Nat) [] none [] [] []) ts c)) := by
  obtain ⟨_, _, _, c3⟩ := h.cells
  have f3 := h.frz 3
  have hc := h.cle
  have HF := Lib.hid (fun W => prFail_any 3 q W)
  have HOF := Lib.hid (fun W => Of_nil o ho W)
  by_cases hlim : c + 1 ≤ 1000
  · have h1 := h.put 3 (.int .i64 ((c + 1 : Nat) : Int)) (a' := a) (d' := d) (c' := c + 1) rfl h.lt hlim h.dle
    rw [show ((c + 1 : Nat) : Int) = (c : Int) + 1 by omega] at h1
    have hlim' : ¬ (1000 : Int) < (c : Int) + 1 := by omega
    have hsz : (w.setCell ⟨p, 3, none⟩ (.int .i64 ((c : Int) + 1))).heap.size = w.heap.size := by simp
    have HSZ := Lib.hid hsz
    have H1 := Lib.hid h1
    have HFR : Hid (Far p w (w.setCell ⟨p, 3, none⟩ (.int .i64 ((c : Int) + 1)))) := (Far.refl p w).set 3 _
    have HG := Lib.hid h.glt
    have HM : Hid (((PR.cnt q (T.drop a) c).bind fun _ ts c => PR.Res.ok (TA.node 0 o (q : Nat) [] none [] [] []) ts c) = .ok (TA.node 0 o (q : Nat) [] none [] [] []) (T.drop a) (c + 1)) := by
      show _ = _
      unfold PR.cnt; rw [if_neg (by omega)]; rfl
    rw [HM.out]
    clear h h1 hsz
    go_enter Tryz.func143, Tryz.ntmps143
    go_wp2_with fail
    refine (HOF.out _).mono ?_
    rintro e w2 ⟨b, rfl, hb, hrow, hbel⟩
    have hrow : w2.heap[b]? = some (.cells (tmCells o 0 [] (.pointer none) [] [] (.slice none 0 0)) 68 (0, 0)) := hrow
    have fz := frozen_of_row _ _ 1 _ _ hrow
    have cb1 : w2.cell? ⟨b, 1, none⟩ = some (.int .i64 0) := by rw [cell_of_row _ _ _ _ _ _ hrow]; rfl
    have HROW := Lib.hid hrow
    have HB := Lib.hid hbel
    have hb' : w.heap.size ≤ b := by rw [HSZ.out] at hb; exact hb
    have HBB := Lib.hid hb'
    clear hrow hb hbel hb'
    go_wp2_with fail
    go_ret
    have h2 := H1.out.later HB.out
    have hf2 : Far p w w2 := HFR.out.trans (Far.below HB.out)
    exact ⟨hf2.setNewP HBB.out, _, a, rfl, Nat.le_refl _, rfl, h2.putT HROW.out (by have := HG.out; have := HBB.out; omega), (TmB.leaf0 (q := q) (tm_put1 HROW.out) HBB.out).v⟩
  · have hlim' : (1000 : Int) < (c : Int) + 1 := by omega
    have HM : Hid (((PR.cnt q (T.drop a) c).bind fun _ ts c => PR.Res.ok (TA.node 0 o (q : Nat) [] none [] [] []) ts c) = .bad 3 q) := by
      show _ = _
      unfold PR.cnt; rw [if_pos (by omega)]; rfl
    rw [HM.out]
    have HFR : Hid (Far p w (w.setCell ⟨p, 3, none⟩ (.int .i64 ((c : Int) + 1)))) := (Far.refl p w).set 3 _
    clear h
    go_enter Tryz.func143, Tryz.ntmps143
    go_wp2_with fail
    refine (HF.out _).mono ?_
    rintro e w2 ⟨rfl, rfl⟩
    exact ⟨rfl, HFR.out, rfl⟩
/-- .. over one -/
theorem prTerm1 (h : PrAt w p T g cap a d c) (w0 : World) (hw : w0.heap.size ≤ w.heap.size) (hf0 : Far p w0 w) (hg0 : g < w0.heap.size) (G : Nat) (t : TA) (hG : w.heap[G]? = some (.cells #[ptr t.b] 62 (0, 0))) (ht : TmB w0 w t) (q : Nat) : Calls Tryz.prog 143 #[ptr p, .int .i64 9, .int .i64 (q : Nat), .slice (some ⟨G, 0, none⟩) 1 1] w fun e w' =>
    Far p w0 w' ∧ match PR.cnt q (T.drop a) c with
    | .ok _ ts c' => ∃ t' : TA, e = .returned (ptr t'.b) ∧ ts = T.drop a ∧ PrAt w' p T g cap a d c' ∧ TmB w0 w' t' ∧ t'.zero = TA.node 0 9 (q : Nat) [] none [] [] [t.zero]
    | .bad en x => e = faultV en x := by
  obtain ⟨_, _, _, c3⟩ := h.cells
  have f3 := h.frz 3
  have hc := h.cle
  have HF := Lib.hid (fun W => prFail_any 3 q W)
  by_cases hlim : c + 1 ≤ 1000
  · have h1 := h.put 3 (.int .i64 ((c + 1 : Nat) : Int)) (a' := a) (d' := d) (c' := c + 1) rfl h.lt hlim h.dle
    rw [show ((c + 1 : Nat) : Int) = (c : Int) + 1 by omega] at h1
    have hlim' : ¬ (1000 : Int) < (c : Int) + 1 := by omega
    have hsz : (w.setCell ⟨p, 3, none⟩ (.int .i64 ((c : Int) + 1))).heap.size = w.heap.size := by simp
    have HSZ := Lib.hid hsz
    have H1 := Lib.hid h1
    have HFR : Hid (Far p w (w.setCell ⟨p, 3, none⟩ (.int .i64 ((c : Int) + 1)))) := (Far.refl p w).set 3 _
    have HG0 := Lib.hid hg0
    have HW := Lib.hid hw
    have HF0 := Lib.hid hf0
    have HT1 := Lib.hid (ht.farP h HFR.out)
    have hG1 : (w.setCell ⟨p, 3, none⟩ (.int .i64 ((c : Int) + 1))).heap[G]? = some (.cells #[ptr t.b] 62 (0, 0)) := by
      refine (HFR.out.block G (Array.getElem?_eq_some_iff.1 hG).1 fun e => ?_).trans hG
      have e := Option.some.inj e
      have hr := h.row
      first
        | rw [← e] at hr
        | rw [e] at hr
      rw [hG] at hr
      have := Option.some.inj hr
      injection this with _ e2 _
      exact absurd e2 (by decide)
    have HOF := Lib.hid (OfTm_one 9 (by omega) G t _ hG1)
    have HM : Hid (PR.cnt q (T.drop a) c = .ok () (T.drop a) (c + 1)) := by
      show _ = _
      unfold PR.cnt; rw [if_neg (by omega)]
    rw [HM.out]
    clear h h1 hsz hG hG1 hw hf0 hg0
    go_enter Tryz.func143, Tryz.ntmps143
    go_wp2_with fail
    refine HOF.out.mono ?_
    rintro e w2 ⟨b, kv, og, rfl, hb, hrow, hkv, hbel⟩
    have fz := frozen_of_row _ _ 1 _ _ hrow
    have cb1 : w2.cell? ⟨b, 1, none⟩ = some (.int .i64 0) := by rw [cell_of_row _ _ _ _ _ _ hrow]; rfl
    have HROW := Lib.hid hrow
    have HB := Lib.hid hbel
    have HKV := Lib.hid hkv
    have hb' : w.heap.size ≤ b := by rw [HSZ.out] at hb; exact hb
    have HBB := Lib.hid hb'
    clear hrow hb hbel hb' hkv
    go_wp2_with fail
    go_ret
    have h2 := H1.out.later HB.out
    have hf2 : Far p w0 w2 := HF0.out.trans (HFR.out.trans (Far.below HB.out))
    have hbw0 : w0.heap.size ≤ b := Nat.le_trans HW.out HBB.out
    have ht2 := HT1.out.later HB.out
    have hnb : b ∉ t.blocks := fun hx => by
      have := (HT1.out.blk b hx).2
      rw [HSZ.out] at this
      have := HBB.out
      omega
    have htm : TmB w0 (w2.setCell ⟨b, 1, none⟩ (.int .i64 (q : Nat))) t := by
      refine ⟨IsTa.putT HROW.out (fun k _ hk => Below.heap_setCell _ _ _ _ hk) t hnb ht2.is, fun x hx => ?_, ht2.nod⟩
      have := ht2.blk x hx
      simpa using this
    exact ⟨hf2.setNewP hbw0, _, rfl, by trivial, h2.putT HROW.out (by have := HG0.out; omega), TmB.one1 (q := q) (tm_put1 HROW.out) (HKV.out.put HROW.out) htm hbw0 hnb, rfl⟩
  · have hlim' : (1000 : Int) < (c : Int) + 1 := by omega
    have HM : Hid (PR.cnt q (T.drop a) c = .bad 3 q) := by
      show _ = _
      unfold PR.cnt; rw [if_pos (by omega)]
    rw [HM.out]
    have HFR : Hid (Far p w0 (w.setCell ⟨p, 3, none⟩ (.int .i64 ((c : Int) + 1)))) := hf0.trans ((Far.refl p w).set 3 _)
    clear h hf0 hG ht
    go_enter Tryz.func143, Tryz.ntmps143
    go_wp2_with fail
    refine (HF.out _).mono ?_
    rintro e w2 ⟨rfl, rfl⟩
    exact ⟨rfl, HFR.out, rfl⟩
set_option maxRecDepth 100000 in
set_option maxHeartbeats 1600000 in
/-- an expression, which mustn't be too big -/
theorem prExpr_any (h : PrAt w p T g cap a d c) (hF : TFine T) (hT : Tab w) : Calls Tryz.prog 182 #[ptr p] w (PqPost p T g cap a d w (fun W v r => IsReO W v r) (PR.expr (T.drop a) c)) := by
  have HN := Lib.hid (prNext_any h)
  have HS := Lib.hid (fun W (hb : Below w.heap.size w W) hk => prStep_any (h.later hb) hF hk)
  have HFO := Lib.hid (fun W (hb : Below w.heap.size w W) => prForm_any (h.later hb))
  have HFA := Lib.hid (fun q W => prFail_any 3 q W)
  have HR : Hid (PR.expr (T.drop a) c = if (T.getD a lt0).kind = 4 then (if PR.big (T.getD a lt0).re = true then .bad 3 (T.getD a lt0).at_ else .ok (T.getD a lt0).re (PR.stp (T.drop a)) c) else .bad 2 (T.getD a lt0).at_) := by
    show _ = _; unfold PR.expr PR.form; rw [hd_drop h.lt]
  have HK2 : Hid ((T.getD a lt0).kind ≠ 0 → PR.stp (T.drop a) = T.drop (a + 1)) := fun hh => stp_drop h.lt hh
  have HRE := Lib.hid (hF.re a h.lt)
  have HNF := Lib.hid (hF.nf a h.lt)
  have HPL := Lib.hid h.plt
  have HTB := Lib.hid hT
  have HH := Lib.hid h
  rw [HR.out]
  clear h hF HR hT
  generalize ht : T.getD a lt0 = t at *
  clear ht
  obtain ⟨kd, tx, ro, pa⟩ := t
  simp only at HK2 HRE HNF ⊢
  have hfd0 := tk_f0; have hfd1 := tk_f1; have hfd2 := tk_f2; have hfd3 := tk_f3
  by_cases hk1 : kd = 4
  · subst hk1
    rw [if_pos rfl, HK2.out (by simp)]
    obtain ⟨r, rfl⟩ := HRE.out rfl
    obtain ⟨hnf, hsz⟩ := HNF.out r rfl
    have HSZ := Lib.hid (fun W v (h : IsReO W v (some r)) => Size_any v (some r) W h)
    have HOF := Lib.hid (fun W v (hT : Tab W) (h : IsReO W v (some r)) => Of_text v (some r) W hT h (fun x hx => by cases hx; exact hnf) (by show r.size ≤ _; omega))
    have hlen : (RE.ofO (some r)).length ≤ 1099511627776 := by
      have := RE.ofW_len r
      show (RE.ofW r).length ≤ _
      omega
    have HNE := Lib.hid (fun W => nested_any (RE.ofO (some r)) hlen W)
    have HBG : Hid (PR.big (some r) = (decide (300 < RE.sizeO (some r)) || decide (50 < deepW (RE.ofO (some r))))) := rfl
    rw [HBG.out]
    clear HRE HNF hnf HK2 hlen HBG HFO
    have hsz' : RE.sizeO (some r) ≤ 1000 := hsz
    clear hsz
    generalize RE.sizeO (some r) = z at *
    generalize RE.ofO (some r) = tt at *
    obtain ⟨dw, hdw⟩ : ∃ dw, deepW tt = dw := ⟨_, rfl⟩
    rw [hdw] at HNE ⊢
    clear hdw
    generalize hTX : (⟨tx.toArray⟩ : ByteArray) = TX at *
    have HTX := Lib.hid hTX
    clear hTX
    by_cases hz : 300 < z
    · have hz' : (300 : Int) < (z : Int) := by omega
      rw [decide_eq_true hz, Bool.true_or, if_pos rfl]
      go_enter Tryz.func182, Tryz.ntmps182
      go_wp2_with fail
      refine HN.out.mono ?_
      rintro e w1 ⟨po, rfl, hre1, hb1⟩
      simp only [tkV, HTX.out]
      have HR1 := Lib.hid (IsReO.later hre1 (re_alloc w1 (.cells #[.int .i64 4, .string TX, .pointer po, .int .i64 (pa : Nat)] 47)))
      have HB1 := Lib.hid (ext_alloc hb1 (.cells #[.int .i64 4, .string TX, .pointer po, .int .i64 (pa : Nat)] 47))
      clear hre1 hb1
      go_wp2_with fail
      refine (HSZ.out _ _ HR1.out).mono ?_
      rintro e w2 ⟨rfl, rfl⟩
      go_wp2_with fail
      refine (HFA.out pa _).mono ?_
      rintro e w3 ⟨rfl, rfl⟩
      exact ⟨rfl, Far.below HB1.out, rfl⟩
    · have hz' : ¬ (300 : Int) < (z : Int) := by omega
      rw [decide_eq_false hz, Bool.false_or]
      by_cases hdp : 50 < dw
      · rw [decide_eq_true hdp, if_pos rfl]
        go_enter Tryz.func182, Tryz.ntmps182
        go_wp2_with fail
        refine HN.out.mono ?_
        rintro e w1 ⟨po, rfl, hre1, hb1⟩
        simp only [tkV, HTX.out]
        have HR1 := Lib.hid (IsReO.later hre1 (re_alloc w1 (.cells #[.int .i64 4, .string TX, .pointer po, .int .i64 (pa : Nat)] 47)))
        have HB1 := Lib.hid (ext_alloc hb1 (.cells #[.int .i64 4, .string TX, .pointer po, .int .i64 (pa : Nat)] 47))
        have HTK := Lib.hid (heap_alloc_last w1 (.cells #[.int .i64 4, .string TX, .pointer po, .int .i64 (pa : Nat)] 47))
        clear hre1 hb1
        go_wp2_with fail
        refine (HSZ.out _ _ HR1.out).mono ?_
        rintro e w2 ⟨rfl, rfl⟩
        go_wp2_with fail
        refine (HOF.out _ _ (HTB.out.later HB1.out) HR1.out).mono ?_
        rintro e w3 ⟨rfl, hb3⟩
        have r3 := heap_in HTK.out hb3
        have q3 : w3.cell? ⟨w1.heap.size, 3, none⟩ = some (.int .i64 (pa : Nat)) := by rw [cell_of_row _ _ _ _ _ _ r3]; rfl
        clear r3
        have HB3 := Lib.hid (ext_step HB1.out hb3)
        clear hb3
        go_wp2_with fail
        refine (HNE.out _).mono ?_
        rintro e w4 ⟨rfl, rfl⟩
        go_wp2_with fail
        refine (HFA.out pa _).mono ?_
        rintro e w5 ⟨rfl, rfl⟩
        exact ⟨rfl, Far.below HB3.out, rfl⟩
      · rw [decide_eq_false hdp, if_neg (by simp)]
        go_enter Tryz.func182, Tryz.ntmps182
        go_wp2_with fail
        refine HN.out.mono ?_
        rintro e w1 ⟨po, rfl, hre1, hb1⟩
        simp only [tkV, HTX.out]
        have HR1 := Lib.hid (IsReO.later hre1 (re_alloc w1 (.cells #[.int .i64 4, .string TX, .pointer po, .int .i64 (pa : Nat)] 47)))
        have HB1 := Lib.hid (ext_alloc hb1 (.cells #[.int .i64 4, .string TX, .pointer po, .int .i64 (pa : Nat)] 47))
        have HTK := Lib.hid (heap_alloc_last w1 (.cells #[.int .i64 4, .string TX, .pointer po, .int .i64 (pa : Nat)] 47))
        have HL1 := Lib.hid hb1.size
        clear hre1 hb1
        go_wp2_with fail
        refine (HSZ.out _ _ HR1.out).mono ?_
        rintro e w2 ⟨rfl, rfl⟩
        go_wp2_with fail
        refine (HOF.out _ _ (HTB.out.later HB1.out) HR1.out).mono ?_
        rintro e w3 ⟨rfl, hb3⟩
        have HB3 := Lib.hid (ext_step HB1.out hb3)
        have HR3 := Lib.hid (IsReO.later HR1.out hb3)
        have HTK3 := Lib.hid (heap_in HTK.out hb3)
        clear hb3
        go_wp2_with fail
        refine (HNE.out _).mono ?_
        rintro e w4 ⟨rfl, rfl⟩
        go_wp2_with fail
        refine (HS.out _ HB3.out (by simp)).mono ?_
        rintro e w5 ⟨po5, rfl, _, hp5, hf5⟩
        simp only [tkV, HTX.out]
        have r5 := (hf5.block _ (Array.getElem?_eq_some_iff.1 HTK3.out).1 (fun e => by have e := Option.some.inj e; have := HPL.out; have := HL1.out; omega)).trans HTK3.out
        have q5 : w5.cell? ⟨w1.heap.size, 2, none⟩ = some (.pointer po) := by rw [cell_of_row _ _ _ _ _ _ r5]; rfl
        have HR5 := Lib.hid (IsReO.farP HR3.out (HH.out.later HB3.out) hf5)
        have HP5 := Lib.hid hp5
        have HF5 := Lib.hid ((Far.below HB3.out).trans hf5)
        clear r5 hp5 hf5
        go_wp2_with fail
        go_ret
        exact ⟨HF5.out, _, a + 1, rfl, by omega, rfl, HP5.out, HR5.out⟩
  · rw [if_neg hk1]
    have hk' : (((kd : Nat) : Int) != 4) = true := by
      have : (((kd : Nat) : Int) == 4) = false := by rw [beq_eq_false_iff_ne]; omega
      rw [bne, this]; rfl
    generalize (⟨tx.toArray⟩ : ByteArray) = TX at *
    go_enter Tryz.func182, Tryz.ntmps182
    go_wp2_with fail
    refine HN.out.mono ?_
    rintro e w1 ⟨po, rfl, _, hb1⟩
    simp only [tkV]
    go_wp2_with fail
    refine (HFO.out _ (ext_alloc hb1 _)).mono ?_
    rintro e w3 ⟨rfl, hb3⟩
    exact ⟨rfl, Far.below (ext_step (ext_alloc hb1 _) hb3), rfl⟩
end Go.Proofs.YtgamknphlmcgnaaGreatDoor
namespace Go.Proofs.YtgamknphlmcgnaaGreatDoor
open Go.RowKit
variable {w w' : World} {p g cap a d c : Nat} {T : List LT}
/-- a term without parts, as the model says it -/
theorem TA.leaf_of {t : TA} {o : Nat} {q : Int} {n tx k : List UInt8} {r : Option RE} (h : t.zero = TA.node 0 o q n r tx k []) : t = TA.node t.b o q n r tx k [] := by
  obtain ⟨b, o', q', n', r', tx', k', ks⟩ := t
  simp only [TA.zero, TA.node.injEq] at h
  obtain ⟨_, rfl, rfl, rfl, rfl, rfl, rfl, hk⟩ := h
  cases ks with
  | nil => rfl
  | cons x l => simp [TA.zeros] at hk
/-- another term's block is written -/
theorem TmB.other {w0 W : World} {t : TA} {b j : Nat} {v : Value} {cs : Array Value} (h : TmB w0 W t) (hb : W.heap[b]? = some (.cells cs 68 (0, 0))) (hn : b ∉ t.blocks) : TmB w0 (W.setCell ⟨b, j, none⟩ v) t :=
  ⟨IsTa.putT hb (fun k _ hk => Below.heap_setCell _ _ _ _ hk) t hn h.is, fun x hx => by simpa using h.blk x hx, h.nod⟩
theorem KidsV.lit (W : World) (ts : List TA) (hl : ts.length ≤ maxLen) : KidsV (W.alloc (.cells (ts.map fun t => ptr t.b).toArray 62)) (.slice (some ⟨W.heap.size, 0, none⟩) ts.length ts.length) ts (some W.heap.size) :=
  .row _ _ ts ⟨by have := heap_alloc_last W (.cells (ts.map fun t => ptr t.b).toArray 62); simpa using this, by simp, Nat.le_refl _, hl⟩
/-- what a term's argument leaves: the term in block b has it -/
def ArPost (p : Nat) (T : List LT) (g cap a d : Nat) (w0 : World) (b o : Nat) (q : Int) (n tx bk : List UInt8) (R : PR.Res (Option RE × List TA)) (e : Ending) (w' : World) : Prop := Far p w0 w' ∧ match R with
    | .ok r ts c' => ∃ (a' : Nat) (ks' : List TA), e = .returned (.tuple #[]) ∧ a ≤ a' ∧ ts = T.drop a' ∧ PrAt w' p T g cap a' d c' ∧ TmB w0 w' (TA.node b o q n r.1 tx bk ks') ∧ TA.zeros ks' = r.2
    | .bad en x => e = faultV en x
set_option maxRecDepth 100000 in
set_option maxHeartbeats 1600000 in
/-- a term's expression, or a name that stands for one -/
theorem prArg_any (h : PrAt w p T g cap a d c) (hF : TFine T) (hT : Tab w) (w0 : World) (hf0 : Far p w0 w) (hg0 : g < w0.heap.size) {b o : Nat} {q : Int} {n tx bk : List UInt8} (ht : TmB w0 w (TA.node b o q n none tx bk [])) :
    Calls Tryz.prog 203 #[ptr p, ptr b] w (ArPost p T g cap a d w0 b o q n tx bk (PR.arg (T.drop a) c)) := by
  have HN := Lib.hid (prNext_any h)
  have HR : Hid (PR.arg (T.drop a) c = if (T.getD a lt0).kind = 4 then (PR.expr (T.drop a) c).bind fun r ts c => .ok (r, []) ts c else (PR.nmT (T.drop a) c).bind fun n ts c => .ok (none, [n]) ts c) := by
    show _ = _; unfold PR.arg; rw [hd_drop h.lt]
  have HEX := Lib.hid (fun W (hb : Below w.heap.size w W) => prExpr_any (h.later hb) hF (hT.later hb))
  have HNM := Lib.hid (fun W (hb : Below w.heap.size w W) => prName_any (h.later hb) hF)
  have HF := Lib.hid hF
  have HH := Lib.hid h
  have HF0 := Lib.hid hf0
  have HG0 := Lib.hid hg0
  have HTM := Lib.hid ht
  rw [HR.out]
  have hfd0 := tk_f0; have hfd1 := tk_f1; have hfd2 := tk_f2; have hfd3 := tk_f3
  clear h hF hT hf0 hg0 ht HR
  by_cases hk4 : (T.getD a lt0).kind = 4
  · rw [if_pos hk4]
    obtain ⟨OUT, hOUT⟩ : ∃ OUT, ((PR.expr (T.drop a) c).bind fun r ts c => PR.Res.ok (r, ([] : List TA)) ts c) = OUT := ⟨_, rfl⟩
    have HM := Lib.hid hOUT
    rw [hOUT]
    clear hOUT
    have hk' : ((((T.getD a lt0).kind : Nat) : Int) == 4) = true := by rw [hk4]; rfl
    clear hk4 HNM
    generalize PR.expr (T.drop a) c = R at *
    generalize T.getD a lt0 = t at *
    obtain ⟨kd, txt, ro, pa⟩ := t
    simp only at hk'
    go_enter Tryz.func203, Tryz.ntmps203
    go_wp2_with fail
    refine HN.out.mono ?_
    rintro e w1 ⟨po, rfl, _, hb1⟩
    simp only [tkV]
    go_wp2_with fail
    refine (HEX.out _ hb1).mono ?_
    rintro e w2 ⟨hf2, hres⟩
    have HF2 := Lib.hid (HF0.out.trans ((Far.below hb1).trans hf2))
    have HT2 := Lib.hid (HTM.out.farP HH.out ((Far.below hb1).trans hf2))
    cases R with
    | bad en x =>
      have hres : e = faultV en x := hres
      subst hres
      have ho : OUT = .bad en x := HM.out.symm
      exact ⟨rfl, by rw [ho]; exact ⟨HF2.out, rfl⟩⟩
    | ok r ts c1 =>
      obtain ⟨v, a', rfl, ha, rfl, hp2, hv⟩ := hres
      obtain ⟨pv, rfl⟩ := reO_ptr hv
      obtain ⟨⟨rv, kp, cp, hn⟩, _⟩ := HT2.out.is.open
      have c3 := hn.cells.2.2.2.1
      have fz := frozen_of_row _ _ 3 _ _ hn.1
      have HP2 := Lib.hid hp2
      have HV := Lib.hid hv
      have c3 : w2.cell? ⟨b, 3, none⟩ = some rv := c3
      have fz : w2.frozen? ⟨b, 3, none⟩ = false := fz
      clear hn hp2 hv hf2 hb1
      go_wp2_with fail
      refine bodyPost_ret (results_none rfl _ _ _) rfl ?_
      have ho : OUT = .ok (r, []) (T.drop a') c1 := HM.out.symm
      rw [ho]
      have hput := HT2.out.put 3 (.pointer pv) (r' := r) (fun _ => .pointer pv) (fun _ _ => rfl) (fun _ _ => HV.out)
      exact ⟨HF2.out.setNewP HT2.out.lo.1, a', [], rfl, ha, rfl, (HP2.out.putB (t := TA.node b o q n none tx bk []) HT2.out HG0.out : PrAt (w2.setCell ⟨b, 3, none⟩ (.pointer pv)) p T g cap a' d c1), hput, rfl⟩
  · rw [if_neg hk4]
    have hk' : ((((T.getD a lt0).kind : Nat) : Int) == 4) = false := by rw [beq_eq_false_iff_ne]; omega
    have HNT : Hid (PR.nmT (T.drop a) c = (PR.nm (T.drop a) c).bind fun n ts c => (PR.cnt n.at_ ts c).bind fun _ ts c => .ok (PR.nameT n) ts c) := rfl
    rw [HNT.out]
    obtain ⟨OUT, hOUT⟩ : ∃ OUT, (((PR.nm (T.drop a) c).bind fun n ts c => (PR.cnt n.at_ ts c).bind fun _ ts c => PR.Res.ok (PR.nameT n) ts c).bind fun n ts c => PR.Res.ok ((none : Option RE), [n]) ts c) = OUT := ⟨_, rfl⟩
    have HM := Lib.hid hOUT
    rw [hOUT]
    clear hk4 HEX HNT hOUT
    generalize PR.nm (T.drop a) c = R at *
    generalize T.getD a lt0 = t at *
    obtain ⟨kd, txt, ro, pa⟩ := t
    simp only at hk'
    go_enter Tryz.func203, Tryz.ntmps203
    go_wp2_with fail
    refine HN.out.mono ?_
    rintro e w1 ⟨po, rfl, _, hb1⟩
    simp only [tkV]
    go_wp2_with fail
    refine (HNM.out _ hb1).mono ?_
    rintro e w2 ⟨hf2, hres⟩
    have HF2 := Lib.hid (HF0.out.trans ((Far.below hb1).trans hf2))
    have HT2 := Lib.hid (HTM.out.farP HH.out ((Far.below hb1).trans hf2))
    cases R with
    | bad en x =>
      have hres : e = faultV en x := hres
      subst hres
      have ho : OUT = .bad en x := HM.out.symm
      exact ⟨rfl, by rw [ho]; exact ⟨HF2.out, rfl⟩⟩
    | ok m ts c1 =>
      obtain ⟨v, a', rfl, ha, rfl, hp2, rv, rfl, hrv⟩ := hres
      obtain ⟨mk, mt, mr, mp⟩ := m
      obtain ⟨pv, rfl⟩ := reO_ptr hrv
      simp only [tkV]
      have hx2 := re_alloc w2 (.cells #[.int .i64 (mk : Nat), .string ⟨mt.toArray⟩, .pointer pv, .int .i64 (mp : Nat)] 47)
      have HX2 := Lib.hid hx2
      have HP3 := Lib.hid (hp2.later hx2)
      have HROW3 := Lib.hid (heap_alloc_last w2 (.cells #[.int .i64 (mk : Nat), .string ⟨mt.toArray⟩, .pointer pv, .int .i64 (mp : Nat)] 47))
      have HT3 := Lib.hid (HT2.out.later hx2)
      have HTE := Lib.hid (prTerm0 HP3.out 0 mp (by omega))
      have HP2B := Lib.hid hp2.plt
      clear hp2 hrv hf2 hb1 hx2
      generalize hMT : (⟨mt.toArray⟩ : ByteArray) = MT at *
      have HMT := Lib.hid hMT
      clear hMT
      go_wp2_with fail
      refine HTE.out.mono ?_
      rintro e w4 ⟨hf4, hres4⟩
      have HF4 := Lib.hid ((HF2.out.trans (Far.below HX2.out)).trans hf4)
      cases hcn : PR.cnt mp (T.drop a') c1 with
      | bad en x =>
        rw [hcn] at hres4
        have hres : e = faultV en x := hres4
        subst hres
        have ho : OUT = .bad en x := by rw [← HM.out]; simp only [PR.Res.bind]; rw [hcn]
        exact ⟨rfl, by rw [ho]; exact ⟨HF4.out, rfl⟩⟩
      | ok u ts2 c2 =>
        rw [hcn] at hres4
        obtain ⟨v4, a4, rfl, ha4, hts4, hp4, hv4⟩ := hres4
        obtain ⟨t', rfl, htb', hz'⟩ := hv4.open
        have hl := TA.leaf_of hz'
        generalize t'.b = b' at *
        subst hl
        have HT4 := Lib.hid (HT3.out.farP HP3.out hf4)
        have HTB4 := Lib.hid htb'
        have r4 := (hf4.block _ (Array.getElem?_eq_some_iff.1 HROW3.out).1 (fun e => by have e := Option.some.inj e; have := HP2B.out; omega)).trans HROW3.out
        have q1 : w4.cell? ⟨w2.heap.size, 1, none⟩ = some (.string MT) := by rw [cell_of_row _ _ _ _ _ _ r4]; rfl
        obtain ⟨⟨rv5, kp5, cp5, hn5⟩, _⟩ := htb'.is.open
        have c2' : w4.cell? ⟨b', 2, none⟩ = some (.string ⟨#[]⟩) := hn5.cells.2.2.1
        have fz2 : w4.frozen? ⟨b', 2, none⟩ = false := frozen_of_row _ _ 2 _ _ hn5.1
        have hb'lo := htb'.lo
        have HLO := Lib.hid hb'lo
        have HN4 := Lib.hid (TmB.put htb' 2 (.string MT) (n' := mt) (r' := none) (fun x => x) (fun _ _ => by rw [← HMT.out]; rfl) (fun _ h => h))
        have hnb : b' ∉ (TA.node b o q n none tx bk []).blocks := fun hx => by
          have h1 := (HT3.out.blk b' hx).2
          have h2 : (w2.alloc (.cells #[.int .i64 (mk : Nat), .string MT, .pointer pv, .int .i64 (mp : Nat)] 47)).heap.size ≤ b' := hb'lo.1
          omega
        have hrow' := htb'.row
        obtain ⟨cs', hrow'⟩ := hrow'
        have hrow' : w4.heap[b']? = some (.cells cs' 68 (0, 0)) := hrow'
        have HT5 := Lib.hid (HT4.out.other (j := 2) (v := .string MT) hrow' hnb)
        have HP5 := Lib.hid (hp4.putT (j := 2) (v := .string MT) hrow' (by
          have h1 := hb'lo.1
          have h2 := HX2.out.size
          have h3 := HF2.out.size
          have h4 := HG0.out
          show g ≠ b'
          have h1 : (w2.alloc (.cells #[.int .i64 (mk : Nat), .string MT, .pointer pv, .int .i64 (mp : Nat)] 47)).heap.size ≤ b' := h1
          omega))
        have hlob : w0.heap.size ≤ b' := by
          have h1 : (w2.alloc (.cells #[.int .i64 (mk : Nat), .string MT, .pointer pv, .int .i64 (mp : Nat)] 47)).heap.size ≤ b' := hb'lo.1
          have h2 := HX2.out.size
          have h3 := HF2.out.size
          omega
        have HF5 := Lib.hid (HF4.out.setNewP (j := 2) (v := .string MT) hlob)
        clear htb' hn5 hrow' hp4 hf4 r4
        have ho : OUT = .ok (none, [PR.nameT ⟨mk, mt, mr, mp⟩]) ts2 c2 := by rw [← HM.out]; simp only [PR.Res.bind]; rw [hcn]
        have HO := Lib.hid ho
        have HA4 := Lib.hid ha4
        have HTS := Lib.hid hts4
        clear ho ha4 hts4
        go_upto_region 5 with fail
        generalize w4.setCell ⟨b', 2, none⟩ (.string MT) = W5 at *
        have hx6 := re_alloc W5 (.cells #[ptr b'] 62)
        have hk6 := KidsV.lit W5 [TA.node b' 0 (mp : Nat) mt none [] [] []] (by simp [maxLen])
        have hk6 : KidsV (W5.alloc (.cells #[ptr b'] 62)) (.slice (some ⟨W5.heap.size, 0, none⟩) 1 1) [TA.node b' 0 (mp : Nat) mt none [] [] []] (some W5.heap.size) := hk6
        have ht6 := HT5.out.later hx6
        have hn6 := HN4.out.later hx6
        have hnod : (b :: TA.blockss [TA.node b' 0 (mp : Nat) mt none [] [] []]).Nodup := by
          simp only [TA.blockss, TA.blocks, List.append_nil, List.nodup_cons, List.mem_cons, List.not_mem_nil, or_false, not_false_iff, List.nodup_nil, and_true]
          intro e
          exact hnb (by rw [e]; simp [TA.blocks, TA.blockss])
        have hfin := ht6.kids hk6 (fun x hx => by simp at hx; rw [hx]; exact hn6.up (Nat.le_trans HF2.out.size HX2.out.size)) hnod
        obtain ⟨⟨rv6, kp6, cp6, hn66⟩, _⟩ := ht6.is.open
        have c6 : (W5.alloc (.cells #[ptr b'] 62)).cell? ⟨b, 6, none⟩ = some (.slice kp6 0 cp6) := hn66.cells.2.2.2.2.2.2
        have fz6 : (W5.alloc (.cells #[ptr b'] 62)).frozen? ⟨b, 6, none⟩ = false := frozen_of_row _ _ 6 _ _ hn66.1
        have HFIN := Lib.hid hfin
        have HPF := Lib.hid ((HP5.out.later hx6).putB (j := 6) (v := .slice (some ⟨W5.heap.size, 0, none⟩) 1 1) ht6 HG0.out)
        have HFF := Lib.hid ((HF5.out.trans (Far.below hx6)).setNewP (j := 6) (v := .slice (some ⟨W5.heap.size, 0, none⟩) 1 1) ht6.lo.1)
        clear hfin ht6 hn6 hk6 hn66 hx6
        go_wp2_with fail
        go_end0
        rw [HO.out]
        exact ⟨HFF.out, a4, _, rfl, Nat.le_trans ha HA4.out, HTS.out, HPF.out, HFIN.out, rfl⟩
end Go.Proofs.YtgamknphlmcgnaaGreatDoor
namespace Go.Proofs.YtgamknphlmcgnaaGreatDoor
open Go.RowKit
theorem PR.bind_ok {α β : Type} (x : α) (ts : List LT) (c : Nat) (f : α → List LT → Nat → PR.Res β) : (PR.Res.ok x ts c).bind f = f x ts c := rfl
variable {w w' : World} {p g cap a d c : Nat} {T : List LT}
/-- what a new term leaves -/
def NewPost (p : Nat) (T : List LT) (g cap a d : Nat) (w0 : World) (o q : Nat) (R : PR.Res Unit) (e : Ending) (w' : World) : Prop := Far p w0 w' ∧ match R with
    | .ok _ ts c' => ∃ b : Nat, e = .returned (ptr b) ∧ ts = T.drop a ∧ PrAt w' p T g cap a d c' ∧ TmB w0 w' (TA.node b o (q : Nat) [] none [] [] [])
    | .bad en x => e = faultV en x
theorem prNew_any (h : PrAt w p T g cap a d c) (w0 : World) (hf0 : Far p w0 w) (o q : Nat) (ho : o < 20) : Calls Tryz.prog 143 #[ptr p, .int .i64 (o : Nat), .int .i64 (q : Nat), .slice none 0 0] w (NewPost p T g cap a d w0 o q (PR.cnt q (T.drop a) c)) := by
  refine (prTerm0 h o q ho).mono ?_
  rintro e w' ⟨hf, hr⟩
  refine ⟨hf0.trans hf, ?_⟩
  have hc : PR.cnt q (T.drop a) c = .bad 3 q ∨ PR.cnt q (T.drop a) c = .ok () (T.drop a) (c + 1) := by
    unfold PR.cnt
    split
    · exact .inl rfl
    · exact .inr rfl
  rcases hc with hc | hc
  · rw [hc] at hr ⊢
    exact hr
  · rw [hc] at hr ⊢
    obtain ⟨v, a', rfl, ha, hts, hp, hv⟩ := hr
    obtain ⟨t, rfl, ht, hz⟩ := hv.open
    have hl := TA.leaf_of hz
    have haa : a' = a := by
      have h1 := congrArg List.length hts
      rw [List.length_drop, List.length_drop] at h1
      have := hp.lt
      have := h.lt
      omega
    subst haa
    rw [hl] at ht
    exact ⟨t.b, rfl, rfl, hp, ht.up hf0.size⟩
set_option maxRecDepth 100000 in
set_option maxHeartbeats 4000000 in
theorem prPlain_any (h : PrAt w p T g cap a d c) (hF : TFine T) (hT : Tab w) (o q : Nat) (ho : o < 20) : Calls Tryz.prog 196 #[ptr p, .int .i64 (o : Nat), .int .i64 (q : Nat)] w (PqPost p T g cap a d w (TmV w) (PR.plain o q (T.drop a) c)) := by
  have HNEW := Lib.hid (prNew_any h w (Far.refl p w) o q ho)
  have HFN := Lib.hid hF
  have HTB := Lib.hid hT
  have HH := Lib.hid h
  have HGL := Lib.hid h.glt
  have hfd0 := tk_f0; have hfd1 := tk_f1; have hfd2 := tk_f2; have hfd3 := tk_f3
  obtain ⟨OUT, hOUT⟩ : ∃ OUT, PR.plain o q (T.drop a) c = OUT := ⟨_, rfl⟩
  rw [hOUT]
  unfold PR.plain at hOUT
  clear h hF hT
  by_cases h3 : o = 3
  · subst h3
    simp only [if_pos, PR.bind_ok, ne_eq, not_true_eq_false, not_false_eq_true, true_or, or_true, or_false, false_or, if_true, if_false, Nat.reduceEqDiff, ↓reduceIte] at hOUT
    have HM := Lib.hid hOUT
    clear hOUT
    go_enter Tryz.func196, Tryz.ntmps196
    go_wp2_with fail
    refine (HNEW.out).mono ?_
    rintro e w1 ⟨hf1, hr1⟩
    generalize PR.cnt q (T.drop a) c = R1 at hr1 HM
    cases R1 with
    | bad en x =>
      have hr1 : e = faultV en x := hr1
      subst hr1
      have ho : OUT = .bad en x := HM.out.symm
      exact ⟨rfl, by rw [ho]; exact ⟨hf1, rfl⟩⟩
    | ok v1 ts1 c1 =>
      have hm := HM.out
      simp only [PR.bind_ok] at hm
      replace HM := Lib.hid hm
      clear hm
      obtain ⟨b, rfl, rfl, hp1, ht1⟩ := hr1
      have HP := Lib.hid hp1
      have HT := Lib.hid ht1
      have HF := Lib.hid hf1
      clear hp1 ht1 hf1 HNEW
      go_wp2_with fail
      refine (prName_any HP.out HFN.out).mono ?_
      rintro e w2 ⟨hf2, hr2⟩
      generalize PR.nm (T.drop a) c1 = R2 at hr2 HM
      cases R2 with
      | bad en x =>
        have hr2 : e = faultV en x := hr2
        subst hr2
        have ho : OUT = .bad en x := HM.out.symm
        exact ⟨rfl, by rw [ho]; exact ⟨HF.out.trans hf2, rfl⟩⟩
      | ok v2 ts2 c2 =>
        have hm := HM.out
        simp only [PR.bind_ok] at hm
        replace HM := Lib.hid hm
        clear hm
        obtain ⟨_, a2, rfl, ha2, rfl, hp2, rv0, rfl, hrv0⟩ := hr2
        obtain ⟨mk, mt, mr, mp⟩ := v2
        obtain ⟨pv, rfl⟩ := reO_ptr hrv0
        simp only [tkV]
        simp only at HM
        have HTn := Lib.hid (HT.out.farP HP.out hf2)
        have HPn := Lib.hid hp2
        have HFn := Lib.hid (HF.out.trans hf2)
        clear HT HP HF hp2 hf2 hrv0
        have HT := HTn
        have HP := HPn
        have HF := HFn
        clear HTn HPn HFn
        obtain ⟨⟨rv, kp, cp, hn⟩, _⟩ := HT.out.is.open
        have cf : w2.cell? ⟨b, 2, none⟩ = some (.string ⟨[].toArray⟩) := hn.cells.2.2.1
        have fz : w2.frozen? ⟨b, 2, none⟩ = false := frozen_of_row _ _ 2 _ _ hn.1
        have HT2 := Lib.hid (TmB.put HT.out 2 (.string ⟨mt.toArray⟩) (n' := mt) (r' := none) (fun x => x) (fun _ _ => rfl) (fun _ h => h))
        have HP2 := Lib.hid (HP.out.putB (t := (TA.node b 3 (q : Nat) [] none [] [] [])) (j := 2) (v := .string ⟨mt.toArray⟩) HT.out HGL.out)
        have HF2 := Lib.hid (HF.out.setNewP (j := 2) (v := .string ⟨mt.toArray⟩) HT.out.lo.1)
        clear hn HT HP HF
        have HT := HT2
        have HP := HP2
        have HF := HF2
        clear HT2 HP2 HF2
        go_wp2_with fail
        refine (prArg_any HP.out HFN.out (HTB.out.farP HH.out HF.out) w HF.out HGL.out HT.out).mono ?_
        rintro e w3 ⟨hf3, hr3⟩
        generalize PR.arg (T.drop a2) c2 = R3 at hr3 HM
        cases R3 with
        | bad en x =>
          have hr3 : e = faultV en x := hr3
          subst hr3
          have ho : OUT = .bad en x := HM.out.symm
          exact ⟨rfl, by rw [ho]; exact ⟨hf3, rfl⟩⟩
        | ok v3 ts3 c3 =>
          have hm := HM.out
          simp only [PR.bind_ok] at hm
          replace HM := Lib.hid hm
          clear hm
          obtain ⟨a3, ks, rfl, ha3, rfl, hp3, ht3, hz⟩ := hr3
          have HZ := Lib.hid hz
          have HTn := Lib.hid ht3
          have HPn := Lib.hid hp3
          have HFn := Lib.hid hf3
          clear HT HP HF hp3 hf3 ht3 hz
          have HT := HTn
          have HP := HPn
          have HF := HFn
          clear HTn HPn HFn
          go_wp2_with fail
          go_ret
          have ho : OUT = _ := HM.out.symm
          rw [ho]
          exact ⟨HF.out, _, a3, rfl, Nat.le_trans (ha2) ha3, rfl, HP.out, (by have h2 := HT.out.v; simp only [TA.zero, HZ.out, TA.zeros] at h2; exact h2)⟩
  by_cases h4 : o = 4
  · subst h4
    simp only [if_pos, PR.bind_ok, ne_eq, not_true_eq_false, not_false_eq_true, true_or, or_true, or_false, false_or, if_true, if_false, Nat.reduceEqDiff, ↓reduceIte] at hOUT
    have HM := Lib.hid hOUT
    clear hOUT
    go_enter Tryz.func196, Tryz.ntmps196
    go_wp2_with fail
    refine (HNEW.out).mono ?_
    rintro e w1 ⟨hf1, hr1⟩
    generalize PR.cnt q (T.drop a) c = R1 at hr1 HM
    cases R1 with
    | bad en x =>
      have hr1 : e = faultV en x := hr1
      subst hr1
      have ho : OUT = .bad en x := HM.out.symm
      exact ⟨rfl, by rw [ho]; exact ⟨hf1, rfl⟩⟩
    | ok v1 ts1 c1 =>
      have hm := HM.out
      simp only [PR.bind_ok] at hm
      replace HM := Lib.hid hm
      clear hm
      obtain ⟨b, rfl, rfl, hp1, ht1⟩ := hr1
      have HP := Lib.hid hp1
      have HT := Lib.hid ht1
      have HF := Lib.hid hf1
      clear hp1 ht1 hf1 HNEW
      go_wp2_with fail
      refine (prArg_any HP.out HFN.out (HTB.out.farP HH.out HF.out) w HF.out HGL.out HT.out).mono ?_
      rintro e w2 ⟨hf2, hr2⟩
      generalize PR.arg (T.drop a) c1 = R2 at hr2 HM
      cases R2 with
      | bad en x =>
        have hr2 : e = faultV en x := hr2
        subst hr2
        have ho : OUT = .bad en x := HM.out.symm
        exact ⟨rfl, by rw [ho]; exact ⟨hf2, rfl⟩⟩
      | ok v2 ts2 c2 =>
        have hm := HM.out
        simp only [PR.bind_ok] at hm
        replace HM := Lib.hid hm
        clear hm
        obtain ⟨a2, ks, rfl, ha2, rfl, hp2, ht2, hz⟩ := hr2
        have HZ := Lib.hid hz
        have HTn := Lib.hid ht2
        have HPn := Lib.hid hp2
        have HFn := Lib.hid hf2
        clear HT HP HF hp2 hf2 ht2 hz
        have HT := HTn
        have HP := HPn
        have HF := HFn
        clear HTn HPn HFn
        go_wp2_with fail
        refine (prQuoted_any HP.out HFN.out).mono ?_
        rintro e w3 ⟨hf3, hr3⟩
        generalize PR.quo (T.drop a2) c2 = R3 at hr3 HM
        cases R3 with
        | bad en x =>
          have hr3 : e = faultV en x := hr3
          subst hr3
          have ho : OUT = .bad en x := HM.out.symm
          exact ⟨rfl, by rw [ho]; exact ⟨HF.out.trans hf3, rfl⟩⟩
        | ok v3 ts3 c3 =>
          have hm := HM.out
          simp only [PR.bind_ok] at hm
          replace HM := Lib.hid hm
          clear hm
          obtain ⟨_, a3, rfl, ha3, rfl, hp3, hv3⟩ := hr3
          have hv3 : _ = Value.string ⟨v3.toArray⟩ := hv3
          subst hv3
          have HTn := Lib.hid (HT.out.farP HP.out hf3)
          have HPn := Lib.hid hp3
          have HFn := Lib.hid (HF.out.trans hf3)
          clear HT HP HF hp3 hf3
          have HT := HTn
          have HP := HPn
          have HF := HFn
          clear HTn HPn HFn
          obtain ⟨⟨rv, kp, cp, hn⟩, _⟩ := HT.out.is.open
          have cf : w3.cell? ⟨b, 4, none⟩ = some (.string ⟨[].toArray⟩) := hn.cells.2.2.2.2.1
          have fz : w3.frozen? ⟨b, 4, none⟩ = false := frozen_of_row _ _ 4 _ _ hn.1
          have HT2 := Lib.hid (TmB.put HT.out 4 (.string ⟨v3.toArray⟩) (t1' := v3) (r' := v2.1) (fun x => x) (fun _ _ => rfl) (fun _ h => h))
          have HP2 := Lib.hid (HP.out.putB (t := (TA.node b 4 (q : Nat) [] v2.1 [] [] ks)) (j := 4) (v := .string ⟨v3.toArray⟩) HT.out HGL.out)
          have HF2 := Lib.hid (HF.out.setNewP (j := 4) (v := .string ⟨v3.toArray⟩) HT.out.lo.1)
          clear hn HT HP HF
          have HT := HT2
          have HP := HP2
          have HF := HF2
          clear HT2 HP2 HF2
          go_wp2_with fail
          refine (prQuoted_any HP.out HFN.out).mono ?_
          rintro e w4 ⟨hf4, hr4⟩
          generalize PR.quo (T.drop a3) c3 = R4 at hr4 HM
          cases R4 with
          | bad en x =>
            have hr4 : e = faultV en x := hr4
            subst hr4
            have ho : OUT = .bad en x := HM.out.symm
            exact ⟨rfl, by rw [ho]; exact ⟨HF.out.trans hf4, rfl⟩⟩
          | ok v4 ts4 c4 =>
            have hm := HM.out
            simp only [PR.bind_ok] at hm
            replace HM := Lib.hid hm
            clear hm
            obtain ⟨_, a4, rfl, ha4, rfl, hp4, hv4⟩ := hr4
            have hv4 : _ = Value.string ⟨v4.toArray⟩ := hv4
            subst hv4
            have HTn := Lib.hid (HT.out.farP HP.out hf4)
            have HPn := Lib.hid hp4
            have HFn := Lib.hid (HF.out.trans hf4)
            clear HT HP HF hp4 hf4
            have HT := HTn
            have HP := HPn
            have HF := HFn
            clear HTn HPn HFn
            obtain ⟨⟨rv, kp, cp, hn⟩, _⟩ := HT.out.is.open
            have cf : w4.cell? ⟨b, 5, none⟩ = some (.string ⟨[].toArray⟩) := hn.cells.2.2.2.2.2.1
            have fz : w4.frozen? ⟨b, 5, none⟩ = false := frozen_of_row _ _ 5 _ _ hn.1
            have HT2 := Lib.hid (TmB.put HT.out 5 (.string ⟨v4.toArray⟩) (k' := v4) (r' := v2.1) (fun x => x) (fun _ _ => rfl) (fun _ h => h))
            have HP2 := Lib.hid (HP.out.putB (t := (TA.node b 4 (q : Nat) [] v2.1 v3 [] ks)) (j := 5) (v := .string ⟨v4.toArray⟩) HT.out HGL.out)
            have HF2 := Lib.hid (HF.out.setNewP (j := 5) (v := .string ⟨v4.toArray⟩) HT.out.lo.1)
            clear hn HT HP HF
            have HT := HT2
            have HP := HP2
            have HF := HF2
            clear HT2 HP2 HF2
            go_wp2_with fail
            go_ret
            have ho : OUT = _ := HM.out.symm
            rw [ho]
            exact ⟨HF.out, _, a4, rfl, Nat.le_trans (Nat.le_trans (ha2) ha3) ha4, rfl, HP.out, (by have h2 := HT.out.v; simp only [TA.zero, HZ.out, TA.zeros] at h2; exact h2)⟩
  by_cases h5 : o = 5
  · subst h5
    simp only [if_pos, PR.bind_ok, ne_eq, not_true_eq_false, not_false_eq_true, true_or, or_true, or_false, false_or, if_true, if_false, Nat.reduceEqDiff, ↓reduceIte] at hOUT
    have HM := Lib.hid hOUT
    clear hOUT
    go_enter Tryz.func196, Tryz.ntmps196
    go_wp2_with fail
    refine (HNEW.out).mono ?_
    rintro e w1 ⟨hf1, hr1⟩
    generalize PR.cnt q (T.drop a) c = R1 at hr1 HM
    cases R1 with
    | bad en x =>
      have hr1 : e = faultV en x := hr1
      subst hr1
      have ho : OUT = .bad en x := HM.out.symm
      exact ⟨rfl, by rw [ho]; exact ⟨hf1, rfl⟩⟩
    | ok v1 ts1 c1 =>
      have hm := HM.out
      simp only [PR.bind_ok] at hm
      replace HM := Lib.hid hm
      clear hm
      obtain ⟨b, rfl, rfl, hp1, ht1⟩ := hr1
      have HP := Lib.hid hp1
      have HT := Lib.hid ht1
      have HF := Lib.hid hf1
      clear hp1 ht1 hf1 HNEW
      go_wp2_with fail
      refine (prArg_any HP.out HFN.out (HTB.out.farP HH.out HF.out) w HF.out HGL.out HT.out).mono ?_
      rintro e w2 ⟨hf2, hr2⟩
      generalize PR.arg (T.drop a) c1 = R2 at hr2 HM
      cases R2 with
      | bad en x =>
        have hr2 : e = faultV en x := hr2
        subst hr2
        have ho : OUT = .bad en x := HM.out.symm
        exact ⟨rfl, by rw [ho]; exact ⟨hf2, rfl⟩⟩
      | ok v2 ts2 c2 =>
        have hm := HM.out
        simp only [PR.bind_ok] at hm
        replace HM := Lib.hid hm
        clear hm
        obtain ⟨a2, ks, rfl, ha2, rfl, hp2, ht2, hz⟩ := hr2
        have HZ := Lib.hid hz
        have HTn := Lib.hid ht2
        have HPn := Lib.hid hp2
        have HFn := Lib.hid hf2
        clear HT HP HF hp2 hf2 ht2 hz
        have HT := HTn
        have HP := HPn
        have HF := HFn
        clear HTn HPn HFn
        go_wp2_with fail
        refine (prQuoted_any HP.out HFN.out).mono ?_
        rintro e w3 ⟨hf3, hr3⟩
        generalize PR.quo (T.drop a2) c2 = R3 at hr3 HM
        cases R3 with
        | bad en x =>
          have hr3 : e = faultV en x := hr3
          subst hr3
          have ho : OUT = .bad en x := HM.out.symm
          exact ⟨rfl, by rw [ho]; exact ⟨HF.out.trans hf3, rfl⟩⟩
        | ok v3 ts3 c3 =>
          have hm := HM.out
          simp only [PR.bind_ok] at hm
          replace HM := Lib.hid hm
          clear hm
          obtain ⟨_, a3, rfl, ha3, rfl, hp3, hv3⟩ := hr3
          have hv3 : _ = Value.string ⟨v3.toArray⟩ := hv3
          subst hv3
          have HTn := Lib.hid (HT.out.farP HP.out hf3)
          have HPn := Lib.hid hp3
          have HFn := Lib.hid (HF.out.trans hf3)
          clear HT HP HF hp3 hf3
          have HT := HTn
          have HP := HPn
          have HF := HFn
          clear HTn HPn HFn
          obtain ⟨⟨rv, kp, cp, hn⟩, _⟩ := HT.out.is.open
          have cf : w3.cell? ⟨b, 5, none⟩ = some (.string ⟨[].toArray⟩) := hn.cells.2.2.2.2.2.1
          have fz : w3.frozen? ⟨b, 5, none⟩ = false := frozen_of_row _ _ 5 _ _ hn.1
          have HT2 := Lib.hid (TmB.put HT.out 5 (.string ⟨v3.toArray⟩) (k' := v3) (r' := v2.1) (fun x => x) (fun _ _ => rfl) (fun _ h => h))
          have HP2 := Lib.hid (HP.out.putB (t := (TA.node b 5 (q : Nat) [] v2.1 [] [] ks)) (j := 5) (v := .string ⟨v3.toArray⟩) HT.out HGL.out)
          have HF2 := Lib.hid (HF.out.setNewP (j := 5) (v := .string ⟨v3.toArray⟩) HT.out.lo.1)
          clear hn HT HP HF
          have HT := HT2
          have HP := HP2
          have HF := HF2
          clear HT2 HP2 HF2
          go_wp2_with fail
          go_ret
          have ho : OUT = _ := HM.out.symm
          rw [ho]
          exact ⟨HF.out, _, a3, rfl, Nat.le_trans (ha2) ha3, rfl, HP.out, (by have h2 := HT.out.v; simp only [TA.zero, HZ.out, TA.zeros] at h2; exact h2)⟩
  by_cases h6 : o = 6
  · subst h6
    simp only [if_pos, PR.bind_ok, ne_eq, not_true_eq_false, not_false_eq_true, true_or, or_true, or_false, false_or, if_true, if_false, Nat.reduceEqDiff, ↓reduceIte] at hOUT
    have HM := Lib.hid hOUT
    clear hOUT
    go_enter Tryz.func196, Tryz.ntmps196
    go_wp2_with fail
    refine (HNEW.out).mono ?_
    rintro e w1 ⟨hf1, hr1⟩
    generalize PR.cnt q (T.drop a) c = R1 at hr1 HM
    cases R1 with
    | bad en x =>
      have hr1 : e = faultV en x := hr1
      subst hr1
      have ho : OUT = .bad en x := HM.out.symm
      exact ⟨rfl, by rw [ho]; exact ⟨hf1, rfl⟩⟩
    | ok v1 ts1 c1 =>
      have hm := HM.out
      simp only [PR.bind_ok] at hm
      replace HM := Lib.hid hm
      clear hm
      obtain ⟨b, rfl, rfl, hp1, ht1⟩ := hr1
      have HP := Lib.hid hp1
      have HT := Lib.hid ht1
      have HF := Lib.hid hf1
      clear hp1 ht1 hf1 HNEW
      go_wp2_with fail
      refine (prQuoted_any HP.out HFN.out).mono ?_
      rintro e w2 ⟨hf2, hr2⟩
      generalize PR.quo (T.drop a) c1 = R2 at hr2 HM
      cases R2 with
      | bad en x =>
        have hr2 : e = faultV en x := hr2
        subst hr2
        have ho : OUT = .bad en x := HM.out.symm
        exact ⟨rfl, by rw [ho]; exact ⟨HF.out.trans hf2, rfl⟩⟩
      | ok v2 ts2 c2 =>
        have hm := HM.out
        simp only [PR.bind_ok] at hm
        replace HM := Lib.hid hm
        clear hm
        obtain ⟨_, a2, rfl, ha2, rfl, hp2, hv2⟩ := hr2
        have hv2 : _ = Value.string ⟨v2.toArray⟩ := hv2
        subst hv2
        have HTn := Lib.hid (HT.out.farP HP.out hf2)
        have HPn := Lib.hid hp2
        have HFn := Lib.hid (HF.out.trans hf2)
        clear HT HP HF hp2 hf2
        have HT := HTn
        have HP := HPn
        have HF := HFn
        clear HTn HPn HFn
        obtain ⟨⟨rv, kp, cp, hn⟩, _⟩ := HT.out.is.open
        have cf : w2.cell? ⟨b, 4, none⟩ = some (.string ⟨[].toArray⟩) := hn.cells.2.2.2.2.1
        have fz : w2.frozen? ⟨b, 4, none⟩ = false := frozen_of_row _ _ 4 _ _ hn.1
        have HT2 := Lib.hid (TmB.put HT.out 4 (.string ⟨v2.toArray⟩) (t1' := v2) (r' := none) (fun x => x) (fun _ _ => rfl) (fun _ h => h))
        have HP2 := Lib.hid (HP.out.putB (t := (TA.node b 6 (q : Nat) [] none [] [] [])) (j := 4) (v := .string ⟨v2.toArray⟩) HT.out HGL.out)
        have HF2 := Lib.hid (HF.out.setNewP (j := 4) (v := .string ⟨v2.toArray⟩) HT.out.lo.1)
        clear hn HT HP HF
        have HT := HT2
        have HP := HP2
        have HF := HF2
        clear HT2 HP2 HF2
        have HZ : Hid (TA.zeros [] = []) := rfl
        go_wp2_with fail
        go_ret
        have ho : OUT = _ := HM.out.symm
        rw [ho]
        exact ⟨HF.out, _, a2, rfl, ha2, rfl, HP.out, (by have h2 := HT.out.v; simp only [TA.zero, HZ.out, TA.zeros] at h2; exact h2)⟩
  by_cases h17 : o = 17
  · subst h17
    simp only [if_pos, PR.bind_ok, ne_eq, not_true_eq_false, not_false_eq_true, true_or, or_true, or_false, false_or, if_true, if_false, Nat.reduceEqDiff, ↓reduceIte] at hOUT
    have HM := Lib.hid hOUT
    clear hOUT
    go_enter Tryz.func196, Tryz.ntmps196
    go_wp2_with fail
    refine (HNEW.out).mono ?_
    rintro e w1 ⟨hf1, hr1⟩
    generalize PR.cnt q (T.drop a) c = R1 at hr1 HM
    cases R1 with
    | bad en x =>
      have hr1 : e = faultV en x := hr1
      subst hr1
      have ho : OUT = .bad en x := HM.out.symm
      exact ⟨rfl, by rw [ho]; exact ⟨hf1, rfl⟩⟩
    | ok v1 ts1 c1 =>
      have hm := HM.out
      simp only [PR.bind_ok] at hm
      replace HM := Lib.hid hm
      clear hm
      obtain ⟨b, rfl, rfl, hp1, ht1⟩ := hr1
      have HP := Lib.hid hp1
      have HT := Lib.hid ht1
      have HF := Lib.hid hf1
      clear hp1 ht1 hf1 HNEW
      go_wp2_with fail
      refine (prArg_any HP.out HFN.out (HTB.out.farP HH.out HF.out) w HF.out HGL.out HT.out).mono ?_
      rintro e w2 ⟨hf2, hr2⟩
      generalize PR.arg (T.drop a) c1 = R2 at hr2 HM
      cases R2 with
      | bad en x =>
        have hr2 : e = faultV en x := hr2
        subst hr2
        have ho : OUT = .bad en x := HM.out.symm
        exact ⟨rfl, by rw [ho]; exact ⟨hf2, rfl⟩⟩
      | ok v2 ts2 c2 =>
        have hm := HM.out
        simp only [PR.bind_ok] at hm
        replace HM := Lib.hid hm
        clear hm
        obtain ⟨a2, ks, rfl, ha2, rfl, hp2, ht2, hz⟩ := hr2
        have HZ := Lib.hid hz
        have HTn := Lib.hid ht2
        have HPn := Lib.hid hp2
        have HFn := Lib.hid hf2
        clear HT HP HF hp2 hf2 ht2 hz
        have HT := HTn
        have HP := HPn
        have HF := HFn
        clear HTn HPn HFn
        go_wp2_with fail
        refine (prQuoted_any HP.out HFN.out).mono ?_
        rintro e w3 ⟨hf3, hr3⟩
        generalize PR.quo (T.drop a2) c2 = R3 at hr3 HM
        cases R3 with
        | bad en x =>
          have hr3 : e = faultV en x := hr3
          subst hr3
          have ho : OUT = .bad en x := HM.out.symm
          exact ⟨rfl, by rw [ho]; exact ⟨HF.out.trans hf3, rfl⟩⟩
        | ok v3 ts3 c3 =>
          have hm := HM.out
          simp only [PR.bind_ok] at hm
          replace HM := Lib.hid hm
          clear hm
          obtain ⟨_, a3, rfl, ha3, rfl, hp3, hv3⟩ := hr3
          have hv3 : _ = Value.string ⟨v3.toArray⟩ := hv3
          subst hv3
          have HTn := Lib.hid (HT.out.farP HP.out hf3)
          have HPn := Lib.hid hp3
          have HFn := Lib.hid (HF.out.trans hf3)
          clear HT HP HF hp3 hf3
          have HT := HTn
          have HP := HPn
          have HF := HFn
          clear HTn HPn HFn
          obtain ⟨⟨rv, kp, cp, hn⟩, _⟩ := HT.out.is.open
          have cf : w3.cell? ⟨b, 4, none⟩ = some (.string ⟨[].toArray⟩) := hn.cells.2.2.2.2.1
          have fz : w3.frozen? ⟨b, 4, none⟩ = false := frozen_of_row _ _ 4 _ _ hn.1
          have HT2 := Lib.hid (TmB.put HT.out 4 (.string ⟨v3.toArray⟩) (t1' := v3) (r' := v2.1) (fun x => x) (fun _ _ => rfl) (fun _ h => h))
          have HP2 := Lib.hid (HP.out.putB (t := (TA.node b 17 (q : Nat) [] v2.1 [] [] ks)) (j := 4) (v := .string ⟨v3.toArray⟩) HT.out HGL.out)
          have HF2 := Lib.hid (HF.out.setNewP (j := 4) (v := .string ⟨v3.toArray⟩) HT.out.lo.1)
          clear hn HT HP HF
          have HT := HT2
          have HP := HP2
          have HF := HF2
          clear HT2 HP2 HF2
          go_wp2_with fail
          go_ret
          have ho : OUT = _ := HM.out.symm
          rw [ho]
          exact ⟨HF.out, _, a3, rfl, Nat.le_trans (ha2) ha3, rfl, HP.out, (by have h2 := HT.out.v; simp only [TA.zero, HZ.out, TA.zeros] at h2; exact h2)⟩
  have hd3 : ((o : Int) == 3) = false := by rw [beq_eq_false_iff_ne]; omega
  have hd4 : ((o : Int) == 4) = false := by rw [beq_eq_false_iff_ne]; omega
  have hd5 : ((o : Int) == 5) = false := by rw [beq_eq_false_iff_ne]; omega
  have hd6 : ((o : Int) == 6) = false := by rw [beq_eq_false_iff_ne]; omega
  have hd6' : ((o : Int) != 6) = true := by rw [bne, hd6]; rfl
  have hd17 : ((o : Int) == 17) = false := by rw [beq_eq_false_iff_ne]; omega
  simp only [h3, h4, h5, h6, h17, PR.bind_ok, ne_eq, not_true_eq_false, not_false_eq_true, true_or, or_true, or_false, false_or, or_self, if_true, if_false, ↓reduceIte] at hOUT
  have HM := Lib.hid hOUT
  clear hOUT h3 h4 h5 h6 h17
  go_enter Tryz.func196, Tryz.ntmps196
  go_wp2_with fail
  refine (HNEW.out).mono ?_
  rintro e w1 ⟨hf1, hr1⟩
  generalize PR.cnt q (T.drop a) c = R1 at hr1 HM
  cases R1 with
  | bad en x =>
    have hr1 : e = faultV en x := hr1
    subst hr1
    have ho : OUT = .bad en x := HM.out.symm
    exact ⟨rfl, by rw [ho]; exact ⟨hf1, rfl⟩⟩
  | ok v1 ts1 c1 =>
    have hm := HM.out
    simp only [PR.bind_ok] at hm
    replace HM := Lib.hid hm
    clear hm
    obtain ⟨b, rfl, rfl, hp1, ht1⟩ := hr1
    have HP := Lib.hid hp1
    have HT := Lib.hid ht1
    have HF := Lib.hid hf1
    clear hp1 ht1 hf1 HNEW
    go_wp2_with fail
    refine (prArg_any HP.out HFN.out (HTB.out.farP HH.out HF.out) w HF.out HGL.out HT.out).mono ?_
    rintro e w2 ⟨hf2, hr2⟩
    generalize PR.arg (T.drop a) c1 = R2 at hr2 HM
    cases R2 with
    | bad en x =>
      have hr2 : e = faultV en x := hr2
      subst hr2
      have ho : OUT = .bad en x := HM.out.symm
      exact ⟨rfl, by rw [ho]; exact ⟨hf2, rfl⟩⟩
    | ok v2 ts2 c2 =>
      have hm := HM.out
      simp only [PR.bind_ok] at hm
      replace HM := Lib.hid hm
      clear hm
      obtain ⟨a2, ks, rfl, ha2, rfl, hp2, ht2, hz⟩ := hr2
      have HZ := Lib.hid hz
      have HTn := Lib.hid ht2
      have HPn := Lib.hid hp2
      have HFn := Lib.hid hf2
      clear HT HP HF hp2 hf2 ht2 hz
      have HT := HTn
      have HP := HPn
      have HF := HFn
      clear HTn HPn HFn
      go_wp2_with fail
      go_ret
      have ho : OUT = _ := HM.out.symm
      rw [ho]
      exact ⟨HF.out, _, a2, rfl, ha2, rfl, HP.out, (by have h2 := HT.out.v; simp only [TA.zero, HZ.out, TA.zeros] at h2; exact h2)⟩
end Go.Proofs.YtgamknphlmcgnaaGreatDoor
namespace Go.Proofs.YtgamknphlmcgnaaGreatDoor
open Go.RowKit
variable {w w' : World} {p g cap a d c : Nat} {T : List LT}
theorem WordsAt.farP (h : WordsAt w) (hp : PrAt w p T g cap a d c) (hf : Far p w w') : WordsAt w' := fun j hj => by
  have hc := h j hj
  have h0 := h 0 (by omega)
  have hb := World.block_lt_of_cell? w _ hc
  refine (World.cell?_of_block (w := w) (w' := w') (hf.block _ hb fun e => ?_)).trans hc
  have e := Option.some.inj e
  have e : 0 = p := e
  have h1 := hp.cells.1
  rw [← e, h0] at h1
  cases h1
/-- what the parser's terms lean on besides -/
structure EnvP (W : World) : Prop where
  tab : Tab W
  wo : WordsAt W
theorem EnvP.later (h : EnvP w) (hb : Below w.heap.size w w') : EnvP w' := ⟨h.tab.later hb, h.wo.later hb⟩
theorem EnvP.farP (h : EnvP w) (hp : PrAt w p T g cap a d c) (hf : Far p w w') : EnvP w' := ⟨h.tab.farP hp hf, h.wo.farP hp hf⟩
/-- a term whose parts come one by one -/
structure ClAt (p : Nat) (T : List LT) (g cap d : Nat) (w0 W : World) (b o q : Nat) (ks : List TA) (kv : Value) (og : Option Nat) (a c : Nat) : Prop where
  pr : PrAt W p T g cap a d c
  row : W.heap[b]? = some (.cells (tmCells o q [] (.pointer none) [] [] kv) 68 (0, 0))
  lo : w0.heap.size ≤ b
  kids : ∀ k ∈ ks, TmB w0 W k
  nod : (b :: TA.blockss ks).Nodup
  kv : KidsV W kv ks og
  ogn : ∀ g', og = some g' → w0.heap.size ≤ g'
  far : Far p w0 W
  gl : g < w0.heap.size
variable {w0 W W' : World} {b o q : Nat} {ks : List TA} {kv : Value} {og : Option Nat} {a' c' d' : Nat}
theorem ne_of_ty {W : World} {x y : Nat} {cs cs' : Array Value} {t t' : TypeId} {fr fr' : Nat × Nat} (h : W.heap[x]? = some (.cells cs t fr)) (h' : W.heap[y]? = some (.cells cs' t' fr')) (ht : t ≠ t') : x ≠ y := fun e => by
  rw [e, h'] at h
  have := Option.some.inj h
  injection this with _ e2 _
  exact ht e2.symm
theorem ClAt.farP (h : ClAt p T g cap d w0 W b o q ks kv og a c) (hf : Far p W W') (hp : PrAt W' p T g cap a' d' c') : ClAt p T g cap d' w0 W' b o q ks kv og a' c' := by
  refine ⟨hp, (hf.block _ (Array.getElem?_eq_some_iff.1 h.row).1 fun e => ?_).trans h.row, h.lo, fun k hk => (h.kids k hk).farP h.pr hf, h.nod, h.kv.keep fun g' hg' => ?_, h.ogn, h.far.trans hf, h.gl⟩
  · exact ne_of_ty h.row h.pr.row (by decide) (Option.some.inj e)
  · obtain ⟨cs, hc⟩ := h.kv.ty g' hg'
    exact hf.block _ (Array.getElem?_eq_some_iff.1 hc).1 fun e => ne_of_ty hc h.pr.row (by decide) (Option.some.inj e)
theorem ClAt.later (h : ClAt p T g cap d w0 W b o q ks kv og a c) (hb : Below W.heap.size W W') : ClAt p T g cap d w0 W' b o q ks kv og a c := h.farP (Far.below hb) (h.pr.later hb)
theorem ClAt.cell (h : ClAt p T g cap d w0 W b o q ks kv og a c) : W.cell? ⟨b, 6, none⟩ = some kv ∧ W.frozen? ⟨b, 6, none⟩ = false := ⟨by rw [cell_of_row _ _ _ _ _ _ h.row]; rfl, frozen_of_row _ _ 6 _ _ h.row⟩
theorem ClAt.done (h : ClAt p T g cap d w0 W b o q ks kv og a c) : TmB w0 W (TA.node b o q [] none [] [] ks) := by
  obtain ⟨kp, cp, hkv, hrow⟩ := h.kv.rowT
  have hr := h.row
  rw [hkv] at hr
  refine ⟨⟨⟨.pointer none, kp, cp, hr, rfl, hrow⟩, (IsTas_iff _ _).2 fun k hk => (h.kids k hk).is⟩, fun x hx => ?_, h.nod⟩
  simp only [TA.blocks, List.mem_cons] at hx
  rcases hx with rfl | hx
  · exact ⟨h.lo, (Array.getElem?_eq_some_iff.1 hr).1⟩
  · obtain ⟨k, hk, hx⟩ := TA.of_blockss hx
    exact (h.kids k hk).blk x hx
theorem blockss_snoc (ks : List TA) (y : TA) : TA.blockss (ks ++ [y]) = TA.blockss ks ++ y.blocks := by
  induction ks with
  | nil => simp [TA.blockss]
  | cons k ks ih => simp [TA.blockss, ih]
theorem ClAt.nodSnoc {W1 : World} (h : ClAt p T g cap d w0 W1 b o q ks kv og a c) {y : TA} (hy : TmB W1 W y) : (b :: TA.blockss (ks ++ [y])).Nodup := by
  rw [blockss_snoc, ← List.cons_append]
  refine List.nodup_append.2 ⟨h.nod, hy.nod, fun x hx z hz e => ?_⟩
  subst e
  have h1 := (hy.blk x hz).1
  have h2 : x < W1.heap.size := by
    rcases List.mem_cons.1 hx with rfl | hx
    · exact (Array.getElem?_eq_some_iff.1 h.row).1
    · obtain ⟨k, hk, hx⟩ := TA.of_blockss hx
      exact ((h.kids k hk).blk x hx).2
  omega
/-- one more part -/
theorem ClAt.append (h : ClAt p T g cap d w0 W b o q ks kv og a c) {y : TA} (hy : TmB w0 W y) (hn : (b :: TA.blockss (ks ++ [y])).Nodup) {g' n' cp' : Nat}
    (hk : KidsV W' (.slice (some ⟨g', 0, none⟩) n' cp') (ks ++ [y]) (some g')) (hg : W.grownBy W' og) (hat : og = some g' ∨ g' = W.heap.size) (hta : ∀ t, IsTa W t → IsTa W' t) (hre : ∀ u x, IsReO W u x → IsReO W' u x) :
    ClAt p T g cap d w0 (W'.setCell ⟨b, 6, none⟩ (.slice (some ⟨g', 0, none⟩) n' cp')) b o q (ks ++ [y]) (.slice (some ⟨g', 0, none⟩) n' cp') (some g') a c := by
  have hgb : ∀ k, k < W.heap.size → og ≠ some k → W'.heap[k]? = W.heap[k]? := fun k hk1 hk2 => hg.block k hk1 (fun e => by first | exact hk2 e | exact hk2 e.symm)
  have hbo : og ≠ some b := fun e => by
    obtain ⟨cs, hc⟩ := h.kv.ty b e
    exact ne_of_ty h.row hc (by decide) rfl
  have hpo : og ≠ some p := fun e => by
    obtain ⟨cs, hc⟩ := h.kv.ty p e
    exact ne_of_ty h.pr.row hc (by decide) rfl
  have hgo : og ≠ some g := fun e => by
    have := h.ogn g e
    have := h.gl
    omega
  have hrow' : W'.heap[b]? = some (.cells (tmCells o q [] (.pointer none) [] [] kv) 68 (0, 0)) := (hgb b (Array.getElem?_eq_some_iff.1 h.row).1 hbo).trans h.row
  have hp' : PrAt W' p T g cap a d c := by
    have key : ∀ i v', W.cell? ⟨g, i, none⟩ = some v' → W'.cell? ⟨g, i, none⟩ = some v' := fun i v' hv =>
      (World.cell?_of_block (w := W) (w' := W') (a := ⟨g, i, none⟩) (hgb _ (World.block_lt_of_cell? W _ hv) hgo)).trans hv
    refine ⟨(hgb _ h.pr.plt hpo).trans h.pr.row, ⟨fun i hi => key _ _ (h.pr.tok.c0 i hi), fun i hi => key _ _ (h.pr.tok.c1 i hi), fun i hi => ?_, fun i hi => key _ _ (h.pr.tok.c3 i hi)⟩, h.pr.lt, h.pr.cle, h.pr.dle⟩
    obtain ⟨v', g1, g2⟩ := h.pr.tok.c2 i hi
    exact ⟨v', key _ _ g1, hre _ _ g2⟩
  have hkid : ∀ k ∈ ks ++ [y], TmB w0 W' k := fun k hk1 => by
    have h1 : TmB w0 W k := by
      rcases List.mem_append.1 hk1 with h1 | h1
      · exact h.kids k h1
      · rw [List.mem_singleton.1 h1]; exact hy
    exact ⟨hta k h1.is, fun x hx => ⟨(h1.blk x hx).1, Nat.lt_of_lt_of_le (h1.blk x hx).2 hg.size⟩, h1.nod⟩
  have hf' : Far p w0 W' := by
    refine ⟨hg.os.trans h.far.os, hg.tape.trans h.far.tape, hg.output.trans h.far.output, Nat.le_trans h.far.size hg.size, fun k hk1 hk2 => ?_⟩
    refine (hgb k (Nat.lt_of_lt_of_le hk1 h.far.size) (fun e => ?_)).trans (h.far.block k hk1 hk2)
    have := h.ogn k e
    omega
  refine ⟨hp'.putT hrow' (by have := h.gl; have := h.lo; omega), by rw [heap_setCell_same _ _ _ _ _ _ hrow']; rfl, h.lo, fun k hk1 => (hkid k hk1).other hrow' (fun hx => ?_), hn, hk.put hrow', fun x hx => ?_, hf'.setNewP h.lo, h.gl⟩
  · exact (List.nodup_cons.1 hn).1 (TA.mem_blockss hk1 b hx)
  · cases hx
    rcases hat with e | e
    · exact h.ogn _ e
    · have := h.far.size; omega
/-- what a new term leaves, its block's row laid bare -/
def RowPost (p : Nat) (T : List LT) (g cap a d c : Nat) (w : World) (o q : Nat) (e : Ending) (w' : World) : Prop := Far p w w' ∧
    ((∃ b, e = .returned (ptr b) ∧ PR.cnt q (T.drop a) c = .ok () (T.drop a) (c + 1) ∧ PrAt w' p T g cap a d (c + 1) ∧ w.heap.size ≤ b ∧ w'.heap[b]? = some (.cells (tmCells o q [] (.pointer none) [] [] (.slice none 0 0)) 68 (0, 0))) ∨ (e = faultV 3 q ∧ PR.cnt q (T.drop a) c = .bad 3 q))
theorem prRow_any (h : PrAt w p T g cap a d c) (o q : Nat) (ho : o < 20) : Calls Tryz.prog 143 #[ptr p, .int .i64 (o : Nat), .int .i64 (q : Nat), .slice none 0 0] w (RowPost p T g cap a d c w o q) := by
  obtain ⟨_, _, _, c3⟩ := h.cells
  have f3 := h.frz 3
  have hc := h.cle
  have HF := Lib.hid (fun W => prFail_any 3 q W)
  have HOF := Lib.hid (fun W => Of_nil o ho W)
  by_cases hlim : c + 1 ≤ 1000
  · have h1 := h.put 3 (.int .i64 ((c + 1 : Nat) : Int)) (a' := a) (d' := d) (c' := c + 1) rfl h.lt hlim h.dle
    rw [show ((c + 1 : Nat) : Int) = (c : Int) + 1 by omega] at h1
    have hlim' : ¬ (1000 : Int) < (c : Int) + 1 := by omega
    have hsz : (w.setCell ⟨p, 3, none⟩ (.int .i64 ((c : Int) + 1))).heap.size = w.heap.size := by simp
    have HSZ := Lib.hid hsz
    have H1 := Lib.hid h1
    have HFR : Hid (Far p w (w.setCell ⟨p, 3, none⟩ (.int .i64 ((c : Int) + 1)))) := (Far.refl p w).set 3 _
    have HG := Lib.hid h.glt
    have HM : Hid (PR.cnt q (T.drop a) c = .ok () (T.drop a) (c + 1)) := by
      show _ = _
      unfold PR.cnt; rw [if_neg (by omega)]
    clear h h1 hsz
    go_enter Tryz.func143, Tryz.ntmps143
    go_wp2_with fail
    refine (HOF.out _).mono ?_
    rintro e w2 ⟨b, rfl, hb, hrow, hbel⟩
    have hrow : w2.heap[b]? = some (.cells (tmCells o 0 [] (.pointer none) [] [] (.slice none 0 0)) 68 (0, 0)) := hrow
    have fz := frozen_of_row _ _ 1 _ _ hrow
    have cb1 : w2.cell? ⟨b, 1, none⟩ = some (.int .i64 0) := by rw [cell_of_row _ _ _ _ _ _ hrow]; rfl
    have HROW := Lib.hid hrow
    have HB := Lib.hid hbel
    have hb' : w.heap.size ≤ b := by rw [HSZ.out] at hb; exact hb
    have HBB := Lib.hid hb'
    clear hrow hb hbel hb'
    go_wp2_with fail
    go_ret
    have h2 := H1.out.later HB.out
    have hf2 : Far p w w2 := HFR.out.trans (Far.below HB.out)
    exact ⟨hf2.setNewP HBB.out, .inl ⟨b, rfl, HM.out, h2.putT HROW.out (by have := HG.out; have := HBB.out; omega), HBB.out, tm_put1 HROW.out⟩⟩
  · have hlim' : (1000 : Int) < (c : Int) + 1 := by omega
    have HM : Hid (PR.cnt q (T.drop a) c = .bad 3 q) := by
      show _ = _
      unfold PR.cnt; rw [if_pos (by omega)]
    have HFR : Hid (Far p w (w.setCell ⟨p, 3, none⟩ (.int .i64 ((c : Int) + 1)))) := (Far.refl p w).set 3 _
    clear h
    go_enter Tryz.func143, Tryz.ntmps143
    go_wp2_with fail
    refine (HF.out _).mono ?_
    rintro e w2 ⟨rfl, rfl⟩
    exact ⟨rfl, HFR.out, .inr ⟨rfl, HM.out⟩⟩
/-- a new term as one whose parts come one by one -/
theorem RowPost.cl {e : Ending} (h : RowPost p T g cap a d c w o q e w') (hg : g < w.heap.size) : (∃ b, e = .returned (ptr b) ∧ PR.cnt q (T.drop a) c = .ok () (T.drop a) (c + 1) ∧ ClAt p T g cap d w w' b o q [] (.slice none 0 0) none a (c + 1)) ∨ (e = faultV 3 q ∧ PR.cnt q (T.drop a) c = .bad 3 q ∧ Far p w w') := by
  obtain ⟨hf, ⟨b, he, hc, hp, hb, hr⟩ | ⟨he, hc⟩⟩ := h
  · exact .inl ⟨b, he, hc, hp, hr, hb, by simp, by simp [TA.blockss], .nil, fun _ h => by (cases h), hf, hg⟩
  · exact .inr ⟨he, hc, hf⟩
theorem wpMix_nilP {P : Program} {md : Region.Mode} {ops : Array Oper} {Q : Exit → Act → World → Prop} {S : World → Prop} {rd : List Nat} {a : Act} {w : World} (h : Q .normal a w) : wpMix P md ops Q S rd [] a w := h
theorem PR.bind_assoc {α β γ : Type} (r : PR.Res α) (f : α → List LT → Nat → PR.Res β) (h : β → List LT → Nat → PR.Res γ) : (r.bind f).bind h = r.bind fun x ts c => (f x ts c).bind h := by cases r <;> rfl
theorem EnvP.cl {W7 : World} {v : Value} (h : EnvP W) (hc : ClAt p T g cap d w0 W b o q ks kv og a c) (hg : W.grownBy W7 og) (hr : W7.heap[b]? = some (.cells (tmCells o q [] (.pointer none) [] [] kv) 68 (0, 0))) : EnvP (W7.setCell ⟨b, 6, none⟩ v) := by
  have hgb : ∀ k, k < W.heap.size → og ≠ some k → W7.heap[k]? = W.heap[k]? := fun k hk1 hk2 => hg.block k hk1 (fun e => by first | exact hk2 e | exact hk2 e.symm)
  have key : ∀ (x j : Nat) (u : Value), W.cell? ⟨x, j, none⟩ = some u → og ≠ some x → x ≠ b → (W7.setCell ⟨b, 6, none⟩ v).cell? ⟨x, j, none⟩ = some u := fun x j u hu h1 h2 => by
    have hb := World.block_lt_of_cell? W _ hu
    refine (World.cell?_of_block (w := W) (w' := W7.setCell ⟨b, 6, none⟩ v) (a := ⟨x, j, none⟩) ?_).trans hu
    exact (Below.heap_setCell _ _ _ _ (by show x ≠ b; exact h2)).trans (hgb x hb h1)
  have hrowp : ∀ (x j : Nat) (u : Value), og = some x → W.cell? ⟨x, j, none⟩ = some u → ∃ po, u = .pointer po := fun x j u hx hu => by
    have hkv := hc.kv
    rw [hx] at hkv
    cases hkv with
    | row _ cp _ hrow =>
      rw [cell_of_row _ _ _ _ _ _ hrow.row] at hu
      have hmem : u ∈ (ks.map (fun t => ptr t.b) ++ List.replicate (cp - ks.length) (Value.pointer none)) := by
        have := Array.mem_of_getElem? hu
        simpa using this
      rcases List.mem_append.1 hmem with hm | hm
      · obtain ⟨t, _, rfl⟩ := List.mem_map.1 hm
        exact ⟨_, rfl⟩
      · exact ⟨none, List.eq_of_mem_replicate hm⟩
  have hcb : W.cell? ⟨b, 0, none⟩ = some (.int .i64 (o : Nat)) := by rw [cell_of_row _ _ _ _ _ _ hc.row]; rfl
  have hall : ∀ (x : Nat) (j : Nat) (u : Value) (u0 : Value), W.cell? ⟨x, j, none⟩ = some u → W.cell? ⟨x, 0, none⟩ = some u0 → (∀ po, u0 ≠ .pointer po) → u0 ≠ .int .i64 (o : Nat) → (W7.setCell ⟨b, 6, none⟩ v).cell? ⟨x, j, none⟩ = some u := fun x j u u0 hu hu0 h1 h2 =>
    key x j u hu (fun e => by obtain ⟨po, hpo⟩ := hrowp x 0 u0 e hu0; exact h1 po hpo) (fun e => by
      rw [e, hcb] at hu0
      exact h2 (Option.some.inj hu0).symm)
  refine ⟨fun j hj => ?_, fun j hj => ?_⟩
  · exact hall _ j _ _ (h.tab j hj) (h.tab 0 (by omega)) (fun po e => by cases e) (fun e => by cases e)
  · exact hall _ j _ _ (h.wo j hj) (h.wo 0 (by omega)) (fun po e => by cases e) (fun e => by cases e)
theorem opn_bad {k : Nat} (hk : k = 0) (ts : List LT) (c : Nat) : ∃ en x, PR.opn k ts c = .bad en x := by
  unfold PR.opn PR.form
  rw [if_pos hk]
  split
  · exact ⟨_, _, rfl⟩
  · exact ⟨_, _, rfl⟩
/-- what holds of the terms within parentheses -/
def RecC (p : Nat) (T : List LT) (g cap d : Nat) (rec : List LT → Nat → PR.Res TA) : Prop :=
  ∀ W a c, PrAt W p T g cap a (d + 1) c → EnvP W → Calls Tryz.prog 104 #[ptr p, .int .i64 0] W (PqPost p T g cap a (d + 1) W (TmV W) (rec (T.drop a) c))
def CallAt (p : Nat) (T : List LT) (g cap d : Nat) (rec : List LT → Nat → PR.Res TA) (w0 : World) (b o q n a0 : Nat) (F : List TA → List LT → Nat → PR.Res TA) (OUT : PR.Res TA) (i : Value) (wr : World) : Prop :=
  ∃ (k : Nat) (ks : List TA) (kv : Value) (og : Option Nat) (a c : Nat), k ≤ n ∧ i = .int .i64 k ∧ ks.length = k ∧ a0 ≤ a ∧ Hid ((PR.callGo rec (n - k) (TA.zeros ks) (T.drop a) c).bind F = OUT) ∧ Hid (ClAt p T g cap (d + 1) w0 wr b o q ks kv og a c) ∧ Hid (EnvP wr)
theorem zeros_snoc (l : List TA) (y : TA) : TA.zeros (l ++ [y]) = TA.zeros l ++ [y.zero] := by induction l with | nil => rfl | cons a l ih => simp [TA.zeros, ih]
set_option maxRecDepth 100000 in
set_option maxHeartbeats 4000000 in
theorem prCall_any (h : PrAt w p T g cap a d c) (hF : TFine T) (hE : EnvP w) (k : Nat) (hk : d + k = 60) (rec : List LT → Nat → PR.Res TA) (hrec : d < 60 → RecC p T g cap d rec) (o q n : Nat) (ho : o < 20) (hn : n ≤ 2) :
    Calls Tryz.prog 195 #[ptr p, .int .i64 (o : Nat), .int .i64 (q : Nat), .int .i64 (n : Nat)] w (PqPost p T g cap a d w (TmV w) (PR.call o q n k rec (T.drop a) c)) := by
  have HROW := Lib.hid (prRow_any h o q ho)
  have HFN := Lib.hid hF
  have HEN := Lib.hid hE
  have HH := Lib.hid h
  have HGL := Lib.hid h.glt
  have HREC := Lib.hid hrec
  obtain ⟨OUT, hOUT⟩ : ∃ OUT, PR.call o q n k rec (T.drop a) c = OUT := ⟨_, rfl⟩
  rw [hOUT]
  unfold PR.call at hOUT
  have HM := Lib.hid hOUT
  clear h hF hE hrec hOUT
  go_enter Tryz.func195, Tryz.ntmps195
  go_wp2_with fail
  refine HROW.out.mono ?_
  intro e w1 hr1
  rcases hr1.cl HGL.out with ⟨b, rfl, hcn, hcl1⟩ | ⟨rfl, hcn, hf1⟩
  · have hm := HM.out
    rw [hcn] at hm
    simp only [PR.bind_ok] at hm
    replace HM := Lib.hid hm
    have HCL := Lib.hid hcl1
    have HE1 := Lib.hid (HEN.out.farP HH.out hcl1.far)
    clear hm hr1 hcn hcl1 HROW
    go_wp2_with fail
    refine (prOpen_any HCL.out.pr HFN.out k hk).mono ?_
    rintro e w2 ⟨hf2, hr2⟩
    by_cases hd : d < 60
    · generalize PR.opn k (T.drop a) (c + 1) = R2 at hr2 HM
      cases R2 with
      | bad en x =>
        have hr2 : e = faultV en x := hr2
        subst hr2
        have ho : OUT = .bad en x := HM.out.symm
        exact ⟨rfl, by rw [ho]; exact ⟨HCL.out.far.trans hf2, rfl⟩⟩
      | ok v2 ts2 c2 =>
        have hm := HM.out
        simp only [PR.bind_ok] at hm
        replace HM := Lib.hid hm
        clear hm
        obtain ⟨_, a2, rfl, ha2, rfl, hp2, rfl⟩ := hr2
        have HCL2 := Lib.hid (HCL.out.farP hf2 hp2)
        have HE2 := Lib.hid (HE1.out.farP HCL.out.pr hf2)
        have HRC := Lib.hid (HREC.out hd)
        clear hf2 hp2 HCL HE1 HREC
        obtain ⟨F, hF⟩ : ∃ F : List TA → List LT → Nat → PR.Res TA, F = fun ks ts c => (PR.want [41] ts c).bind fun _ ts c => .ok (TA.node 0 o (q : Nat) [] none [] [] ks) ts c := ⟨_, rfl⟩
        rw [← hF] at HM
        have HFF := Lib.hid hF
        clear hF
        go_wp2_with fail
        go_loopw [18] (fun i wr => CallAt p T g cap d rec w b o q n a F OUT i wr) (fun i _ => n - (intOf i).toNat)
        case atStart => exact ⟨0, [], _, _, a2, c2, Nat.zero_le _, rfl, rfl, ha2, HM.out, HCL2.out, HE2.out⟩
        case round =>
          clear HM HCL2 HE2
          obtain ⟨i, ks, kv, og, a3, c3, hi, rfl, hlen, ha3, hgo, hcl, hen⟩ := hrel
          by_cases hlt : i < n
          · obtain ⟨m, hm⟩ : ∃ m, n - i = m + 1 := ⟨n - i - 1, by omega⟩
            have HNI : Hid (n - (i + 1) = m) := by show _ = _; omega
            rw [hm] at hgo
            have hgo2 : ((if (TA.zeros ks).isEmpty = true then PR.Res.ok () (T.drop a3) c3 else PR.want [44] (T.drop a3) c3).bind fun _ ts c => (rec ts c).bind fun x ts c => (PR.callGo rec m (TA.zeros ks ++ [x]) ts c).bind F) = OUT := by
              rw [← hgo.out, PR.callGo, PR.bind_assoc]
              congr 1; funext _ ts c; rw [PR.bind_assoc]
            clear hgo hm
            by_cases hi0 : i = 0
            · have hks : ks = [] := List.length_eq_zero_iff.1 (by omega)
              have HM : Hid ((rec (T.drop a3) c3).bind (fun x ts c => (PR.callGo rec m (TA.zeros ks ++ [x]) ts c).bind F) = OUT) := by
                show _ = _
                rw [hks] at hgo2 ⊢
                exact hgo2
              have hg0 : ¬ (0 : Int) < (i : Int) := by omega
              have HCL4 := hcl
              have HE4 := hen
              clear hgo2 hcl hen hks hi0
              have HRC4 := Lib.hid (HRC.out _ _ _ (HCL4.out.pr.drew 1) (HE4.out.later (ext_drewN (Below.refl _ _) 1)))
              have HCL4D := Lib.hid (HCL4.out.later (ext_drewN (Below.refl _ _) 1))
              have cb6 := HCL4.out.cell.1
              have fz6 := HCL4.out.cell.2
              obtain ⟨S, hSd⟩ : ∃ S : World → Prop, ∀ W', S W' ↔ W'.cell? ⟨b, 6, none⟩ = some kv := ⟨_, fun _ => Iff.rfl⟩
              have cs : ∀ q : InC S, q.w.cell? ⟨b, 6, none⟩ = some kv := fun q => (hSd _).1 q.h
              have hS0 : S (World.drew wr) := (hSd _).2 HCL4D.out.cell.1
              have hne : Nonempty (InC S) := ⟨⟨_, hS0⟩⟩
              go_upto_region 8 with fail
              refine wp_region_mixP (fun c a d v w h => by cases d <;> exact h) S [0, 1, 2, 3, 4, 5, 9, 10] [0, 1, 2, 3, 4, 5, 6, 7, 8, 9, 10, 11] (by kernel_rfl) (by kernel_rfl) hS0 ?_
              (repeat ((with_reducible refine wpMix_read (o := ?_) ?_ ?_ ?_); rotate_left; (· rfl); (· rfl); go_big_quiet_step (fail); (with_reducible refine wpQuiet_nil ?_)))
              refine wpMix_eff (k := true) rfl rfl (by kernel_rfl) ?_
              go_wp2_with fail
              refine HRC4.out.mono ?_
              rintro e w5 ⟨hf5, hr5⟩
              generalize rec (T.drop a3) c3 = R5 at hr5 HM
              cases R5 with
              | bad en x =>
                have hr5 : e = faultV en x := hr5
                subst hr5
                have ho : OUT = .bad en x := HM.out.symm
                exact ⟨rfl, by rw [ho]; exact ⟨HCL4D.out.far.trans hf5, rfl⟩⟩
              | ok x5 ts5 c5 =>
                have hm := HM.out
                simp only [PR.bind_ok] at hm
                replace HM := Lib.hid hm
                clear hm
                obtain ⟨v5, a5, rfl, ha5, rfl, hp5, hv5⟩ := hr5
                obtain ⟨y, rfl, hy, hyz⟩ := hv5.open
                have HCL5 := Lib.hid (HCL4D.out.farP hf5 hp5)
                have HND := Lib.hid (HCL4D.out.nodSnoc hy)
                have HY5 := Lib.hid (hy.up (w0 := w) HCL4D.out.far.size)
                have HE5 := Lib.hid ((HE4.out.later (ext_drewN (Below.refl _ _) 1)).farP HCL4D.out.pr hf5)
                have HYZ := Lib.hid hyz
                have hx6 := re_alloc w5 (.cells #[ptr y.b] 62)
                have HCL6 := Lib.hid (HCL5.out.later hx6)
                have HY6 := Lib.hid (HY5.out.later hx6)
                have HE6 := Lib.hid (HE5.out.later hx6)
                have HSRC : Hid ((w5.alloc (.cells #[ptr y.b] 62)).cell? ⟨w5.heap.size, 0, none⟩ = some (ptr y.b)) := by show _ = _; rw [cell_of_row _ _ _ _ _ _ (heap_alloc_last w5 _)]; rfl
                clear hf5 hp5 hv5 hy hyz hx6 HRC4
                go_wp2_with fail
                refine mixPost_keep ((hSd _).2 HCL5.out.cell.1) ?_
                refine wpMix_eff (k := true) rfl rfl (by kernel_rfl) ?_
                go_wp2_with fail
                refine mixPost_keep ((hSd _).2 HCL6.out.cell.1) ?_
                refine wpMix_eff (k := true) rfl rfl (by kernel_rfl) ?_
                go_wp2_with (at_builtin; refine wpList_append_kids rfl _ _ rfl kv ks y og w5.heap.size 1 rfl rfl HCL6.out.kv HSRC.out (by omega) ?_; intro g7 n7 cp7 W7 hk7 hg7 hat7 hta7 hre7)
                have HCL8 := Lib.hid (HCL6.out.append HY6.out HND.out hk7 hg7 hat7 hta7 hre7)
                have hob : og ≠ some b := fun e => by
                  obtain ⟨cs', hc⟩ := HCL6.out.kv.ty b e
                  exact ne_of_ty HCL6.out.row hc (by decide) rfl
                have hrow7 : W7.heap[b]? = _ := (hg7.block b (Array.getElem?_eq_some_iff.1 HCL6.out.row).1 (fun e => by first | exact hob e | exact hob e.symm)).trans HCL6.out.row
                have c7 : W7.cell? ⟨b, 6, none⟩ = some kv := by rw [cell_of_row _ _ _ _ _ _ hrow7]; rfl
                have fz7 := frozen_of_row _ _ 6 _ _ hrow7
                have HE8 : Hid (EnvP (W7.setCell ⟨b, 6, none⟩ (.slice (some ⟨g7, 0, none⟩) n7 cp7))) := EnvP.cl HE6.out HCL6.out hg7 hrow7
                clear hk7 hg7 hta7 hre7 hob hat7 hrow7
                refine mixPost_keep ((hSd _).2 c7) ?_
                (repeat ((with_reducible refine wpMix_read (o := ?_) ?_ ?_ ?_); rotate_left; (· rfl); (· rfl); go_big_quiet_step (fail); (with_reducible refine wpQuiet_nil ?_)))
                refine wpMix_eff (k := false) rfl rfl (by kernel_rfl) ?_
                clear cs hne hS0 hSd cb6
                go_wp2_with fail
                refine mixPost_last ?_
                refine wpMix_nilP ?_
                go_wp2_with fail
                go_roundw
                case rel => exact ⟨i + 1, ks ++ [y], _, _, a5, c5, by omega, by go_num, by simp; omega, by omega, by show _ = _; rw [← HM.out, zeros_snoc, HYZ.out, HNI.out], HCL8.out, HE8.out⟩
                case measure => simp [intOf]; omega
            · have hne0 : (TA.zeros ks).isEmpty = false := by
                cases ks with
                | nil => simp at hlen; omega
                | cons x l => rfl
              rw [hne0] at hgo2
              simp only [Bool.false_eq_true, if_false] at hgo2
              have HM := Lib.hid hgo2
              have hg0 : (0 : Int) < (i : Int) := by omega
              clear hgo2 hne0 hi0
              go_wp2_with fail
              refine (prWant_any hcl.out.pr HFN.out [44]).mono ?_
              rintro e w4 ⟨hf4, hr4⟩
              generalize PR.want [44] (T.drop a3) c3 = R4 at hr4 HM
              cases R4 with
              | bad en x =>
                have hr4 : e = faultV en x := hr4
                subst hr4
                have ho : OUT = .bad en x := HM.out.symm
                exact ⟨rfl, by rw [ho]; exact ⟨hcl.out.far.trans hf4, rfl⟩⟩
              | ok v4 ts4 c4 =>
                have hm := HM.out
                simp only [PR.bind_ok] at hm
                replace HM := Lib.hid hm
                clear hm
                obtain ⟨_, a4, rfl, ha4, rfl, hp4, rfl⟩ := hr4
                have HCL4 := Lib.hid (hcl.out.farP hf4 hp4)
                have HE4 := Lib.hid (hen.out.farP hcl.out.pr hf4)
                clear hf4 hp4 hcl hen
                have HRC4 := Lib.hid (HRC.out _ _ _ (HCL4.out.pr.drew 1) (HE4.out.later (ext_drewN (Below.refl _ _) 1)))
                have HCL4D := Lib.hid (HCL4.out.later (ext_drewN (Below.refl _ _) 1))
                have cb6 := HCL4.out.cell.1
                have fz6 := HCL4.out.cell.2
                obtain ⟨S, hSd⟩ : ∃ S : World → Prop, ∀ W', S W' ↔ W'.cell? ⟨b, 6, none⟩ = some kv := ⟨_, fun _ => Iff.rfl⟩
                have cs : ∀ q : InC S, q.w.cell? ⟨b, 6, none⟩ = some kv := fun q => (hSd _).1 q.h
                have hS0 : S (World.drew w4) := (hSd _).2 HCL4D.out.cell.1
                have hne : Nonempty (InC S) := ⟨⟨_, hS0⟩⟩
                go_upto_region 8 with fail
                refine wp_region_mixP (fun c a d v w h => by cases d <;> exact h) S [0, 1, 2, 3, 4, 5, 9, 10] [0, 1, 2, 3, 4, 5, 6, 7, 8, 9, 10, 11] (by kernel_rfl) (by kernel_rfl) hS0 ?_
                (repeat ((with_reducible refine wpMix_read (o := ?_) ?_ ?_ ?_); rotate_left; (· rfl); (· rfl); go_big_quiet_step (fail); (with_reducible refine wpQuiet_nil ?_)))
                refine wpMix_eff (k := true) rfl rfl (by kernel_rfl) ?_
                go_wp2_with fail
                refine HRC4.out.mono ?_
                rintro e w5 ⟨hf5, hr5⟩
                generalize rec (T.drop a4) c4 = R5 at hr5 HM
                cases R5 with
                | bad en x =>
                  have hr5 : e = faultV en x := hr5
                  subst hr5
                  have ho : OUT = .bad en x := HM.out.symm
                  exact ⟨rfl, by rw [ho]; exact ⟨HCL4D.out.far.trans hf5, rfl⟩⟩
                | ok x5 ts5 c5 =>
                  have hm := HM.out
                  simp only [PR.bind_ok] at hm
                  replace HM := Lib.hid hm
                  clear hm
                  obtain ⟨v5, a5, rfl, ha5, rfl, hp5, hv5⟩ := hr5
                  obtain ⟨y, rfl, hy, hyz⟩ := hv5.open
                  have HCL5 := Lib.hid (HCL4D.out.farP hf5 hp5)
                  have HND := Lib.hid (HCL4D.out.nodSnoc hy)
                  have HY5 := Lib.hid (hy.up (w0 := w) HCL4D.out.far.size)
                  have HE5 := Lib.hid ((HE4.out.later (ext_drewN (Below.refl _ _) 1)).farP HCL4D.out.pr hf5)
                  have HYZ := Lib.hid hyz
                  have hx6 := re_alloc w5 (.cells #[ptr y.b] 62)
                  have HCL6 := Lib.hid (HCL5.out.later hx6)
                  have HY6 := Lib.hid (HY5.out.later hx6)
                  have HE6 := Lib.hid (HE5.out.later hx6)
                  have HSRC : Hid ((w5.alloc (.cells #[ptr y.b] 62)).cell? ⟨w5.heap.size, 0, none⟩ = some (ptr y.b)) := by show _ = _; rw [cell_of_row _ _ _ _ _ _ (heap_alloc_last w5 _)]; rfl
                  clear hf5 hp5 hv5 hy hyz hx6 HRC4
                  go_wp2_with fail
                  refine mixPost_keep ((hSd _).2 HCL5.out.cell.1) ?_
                  refine wpMix_eff (k := true) rfl rfl (by kernel_rfl) ?_
                  go_wp2_with fail
                  refine mixPost_keep ((hSd _).2 HCL6.out.cell.1) ?_
                  refine wpMix_eff (k := true) rfl rfl (by kernel_rfl) ?_
                  go_wp2_with (at_builtin; refine wpList_append_kids rfl _ _ rfl kv ks y og w5.heap.size 1 rfl rfl HCL6.out.kv HSRC.out (by omega) ?_; intro g7 n7 cp7 W7 hk7 hg7 hat7 hta7 hre7)
                  have HCL8 := Lib.hid (HCL6.out.append HY6.out HND.out hk7 hg7 hat7 hta7 hre7)
                  have hob : og ≠ some b := fun e => by
                    obtain ⟨cs', hc⟩ := HCL6.out.kv.ty b e
                    exact ne_of_ty HCL6.out.row hc (by decide) rfl
                  have hrow7 : W7.heap[b]? = _ := (hg7.block b (Array.getElem?_eq_some_iff.1 HCL6.out.row).1 (fun e => by first | exact hob e | exact hob e.symm)).trans HCL6.out.row
                  have c7 : W7.cell? ⟨b, 6, none⟩ = some kv := by rw [cell_of_row _ _ _ _ _ _ hrow7]; rfl
                  have fz7 := frozen_of_row _ _ 6 _ _ hrow7
                  have HE8 : Hid (EnvP (W7.setCell ⟨b, 6, none⟩ (.slice (some ⟨g7, 0, none⟩) n7 cp7))) := EnvP.cl HE6.out HCL6.out hg7 hrow7
                  clear hk7 hg7 hta7 hre7 hob hat7 hrow7
                  refine mixPost_keep ((hSd _).2 c7) ?_
                  (repeat ((with_reducible refine wpMix_read (o := ?_) ?_ ?_ ?_); rotate_left; (· rfl); (· rfl); go_big_quiet_step (fail); (with_reducible refine wpQuiet_nil ?_)))
                  refine wpMix_eff (k := false) rfl rfl (by kernel_rfl) ?_
                  clear cs hne hS0 hSd cb6
                  go_wp2_with fail
                  refine mixPost_last ?_
                  refine wpMix_nilP ?_
                  go_wp2_with fail
                  go_roundw
                  case rel => exact ⟨i + 1, ks ++ [y], _, _, a5, c5, by omega, by go_num, by simp; omega, by omega, by show _ = _; rw [← HM.out, zeros_snoc, HYZ.out, HNI.out], HCL8.out, HE8.out⟩
                  case measure => simp [intOf]; omega
          · obtain rfl : i = n := by omega
            have HM : Hid (F (TA.zeros ks) (T.drop a3) c3 = OUT) := by
              show _ = _
              rw [← hgo.out, Nat.sub_self]; rfl
            rw [HFF.out] at HM
            have HCL3 := hcl
            clear hgo hen hcl HFF
            go_wp2_with fail
            refine (prShut_any HCL3.out.pr HFN.out).mono ?_
            rintro e w4 ⟨hf4, hr4⟩
            generalize PR.want [41] (T.drop a3) c3 = R4 at hr4 HM
            cases R4 with
            | bad en x =>
              have hr4 : e = faultV en x := hr4
              subst hr4
              have ho : OUT = .bad en x := HM.out.symm
              exact ⟨rfl, by rw [ho]; exact ⟨HCL3.out.far.trans hf4, rfl⟩⟩
            | ok v4 ts4 c4 =>
              have hm := HM.out
              simp only [PR.bind_ok] at hm
              replace HM := Lib.hid hm
              clear hm
              obtain ⟨_, a4, rfl, ha4, rfl, hp4, rfl⟩ := hr4
              have HCL4 := Lib.hid (HCL3.out.farP hf4 hp4)
              clear hf4 hp4
              go_wp2_with fail
              go_ret
              have ho : OUT = _ := HM.out.symm
              rw [ho]
              exact ⟨HCL4.out.far, _, a4, rfl, by omega, rfl, HCL4.out.pr, HCL4.out.done.v⟩
    · obtain ⟨en, x, hb⟩ := opn_bad (show k = 0 by omega) (T.drop a) (c + 1)
      rw [hb] at hr2
      have hm := HM.out
      rw [hb] at hm
      have hr2 : e = faultV en x := hr2
      subst hr2
      have ho : OUT = .bad en x := hm.symm
      exact ⟨rfl, by rw [ho]; exact ⟨HCL.out.far.trans hf2, rfl⟩⟩
  · have ho : OUT = .bad 3 q := by rw [← HM.out, hcn]; rfl
    exact ⟨rfl, by rw [ho]; exact ⟨hf1, rfl⟩⟩
end Go.Proofs.YtgamknphlmcgnaaGreatDoor
namespace Go.Proofs.YtgamknphlmcgnaaGreatDoor
open Go.RowKit
variable {w w' : World} {p g cap a d c : Nat} {T : List LT}
/-- from an earlier place on -/
theorem PqPost.from {w1 : World} {a1 : Nat} {R : PR.Res TA} {e : Ending} (h : PqPost p T g cap a1 d w1 (TmV w1) R e w') (hf : Far p w w1) (ha : a ≤ a1) : PqPost p T g cap a d w (TmV w) R e w' := by
  obtain ⟨h1, h2⟩ := h
  refine ⟨hf.trans h1, ?_⟩
  cases R with
  | bad en x => exact h2
  | ok x ts c' =>
    obtain ⟨v, a', g1, g2, g3, g4, g5⟩ := h2
    obtain ⟨t, ht1, ht2, ht3⟩ := g5.open
    refine ⟨v, a', g1, Nat.le_trans ha g2, g3, g4, ?_⟩
    rw [ht1, ← ht3]
    exact (ht2.up hf.size).v
def WdLoop (tx : List UInt8) (R : Option Nat) (W0 : World) (i : Value) (wr : World) : Prop := ∃ m : Nat, 2 ≤ m ∧ m ≤ 18 ∧ i = .int .i64 m ∧ Hid (PR.opGo tx (18 - m) m = R) ∧ Hid (Below W0.heap.size W0 wr)
theorem opGo_at (tx : List UInt8) (m : Nat) (h : m < 18) : PR.opGo tx (18 - m) m = if TA.word m = tx then some m else PR.opGo tx (18 - (m + 1)) (m + 1) := by
  obtain ⟨f, hf⟩ : ∃ f, 18 - m = f + 1 := ⟨17 - m, by omega⟩
  rw [hf, show 18 - (m + 1) = f by omega, PR.opGo]
theorem prNew2_any {w : World} (h : PrAt w p T g cap a d c) (w0 : World) (hf0 : Far p w0 w) (o q : Nat) (ho : o < 20) : Calls Tryz.prog 143 #[ptr p, .int .i64 (o : Nat), .int .i64 (q : Nat), .slice none 0 0] w fun e w' => Far p w w' ∧ NewPost p T g cap a d w0 o q (PR.cnt q (T.drop a) c) e w' := by
  refine (prNew_any h w (Far.refl p w) o q ho).mono ?_
  rintro e w' ⟨hf, hr⟩
  refine ⟨hf, hf0.trans hf, ?_⟩
  generalize PR.cnt q (T.drop a) c = R at *
  cases R with
  | bad en x => exact hr
  | ok u ts c' =>
    obtain ⟨b, h1, h2, h3, h4⟩ := hr
    exact ⟨b, h1, h2, h3, h4.up hf0.size⟩
/-- a name, as a term -/
theorem nmT_eq (ts : List LT) (c : Nat) : PR.nmT ts c = (PR.nm ts c).bind fun n ts c => (PR.cnt n.at_ ts c).bind fun _ ts c => .ok (PR.nameT n) ts c := rfl
set_option maxRecDepth 100000 in
set_option maxHeartbeats 4000000 in
theorem prWord_any (h : PrAt w p T g cap a d c) (hF : TFine T) (hE : EnvP w) (k : Nat) (hk : d + k = 60) (rec : List LT → Nat → PR.Res TA) (hrec : d < 60 → RecC p T g cap d rec) (po : Option Addr) (hkd : (T.getD a lt0).kind = 1) :
    Calls Tryz.prog 181 #[ptr p, tkV (T.getD a lt0) (.pointer po)] w (PqPost p T g cap a d w (TmV w) (PR.word k rec (T.drop a) c)) := by
  have HH := Lib.hid h
  have HFN := Lib.hid hF
  have HEN := Lib.hid hE
  have HREC := Lib.hid hrec
  have HW : Hid (PR.word k rec (T.drop a) c = match PR.opOf (T.getD a lt0).text with
      | some o => if o = 10 ∨ o = 14 ∨ o = 15 then PR.call o (T.getD a lt0).at_ 2 k rec (T.drop (a + 1)) c else if o = 12 ∨ o = 13 then PR.call o (T.getD a lt0).at_ 1 k rec (T.drop (a + 1)) c else PR.plain o (T.getD a lt0).at_ (T.drop (a + 1)) c
      | none => PR.nmT (T.drop a) c) := by
    show _ = _
    unfold PR.word
    rw [hd_drop h.lt, stp_drop h.lt (by omega)]
    rfl
  have hx := re_alloc w (.cells #[.int .i64 ((T.getD a lt0).kind : Nat), .string ⟨(T.getD a lt0).text.toArray⟩, .pointer po, .int .i64 ((T.getD a lt0).at_ : Nat)] 47)
  have HX := Lib.hid hx
  have HROW := Lib.hid (heap_alloc_last w (.cells #[.int .i64 ((T.getD a lt0).kind : Nat), .string ⟨(T.getD a lt0).text.toArray⟩, .pointer po, .int .i64 ((T.getD a lt0).at_ : Nat)] 47))
  have HKD := Lib.hid hkd
  obtain ⟨OUT, hOUT⟩ : ∃ OUT, PR.word k rec (T.drop a) c = OUT := ⟨_, rfl⟩
  rw [hOUT]
  rw [HW.out] at hOUT
  have HM := Lib.hid hOUT
  have HGL := Lib.hid h.glt
  have HPL := Lib.hid h.plt
  clear h hF hE hrec hx HW hkd hOUT
  generalize ht : T.getD a lt0 = t at *
  have HT := Lib.hid ht
  clear ht
  obtain ⟨kd, tx, ro, pa⟩ := t
  simp only [tkV]
  simp only at HX HROW HM
  obtain ⟨R, hR⟩ : ∃ R, PR.opOf tx = R := ⟨_, rfl⟩
  have HR : Hid (PR.opGo tx (18 - 2) 2 = R) := hR
  rw [hR] at HM
  clear hR
  have hfd0 := tk_f0; have hfd1 := tk_f1; have hfd2 := tk_f2; have hfd3 := tk_f3
  go_enter Tryz.func181, Tryz.ntmps181
  go_wp2_with fail
  generalize hW0 : w.alloc (.cells #[.int .i64 (kd : Nat), .string ⟨tx.toArray⟩, .pointer po, .int .i64 (pa : Nat)] 47) = W0 at *
  clear hW0
  go_loopw [5] (fun i wr => WdLoop tx R W0 i wr) (fun i _ => 18 - (intOf i).toNat)
  case atStart => exact ⟨2, by omega, by omega, rfl, HR.out, Below.refl _ _⟩
  case round =>
    clear HR
    obtain ⟨m, hm1, hm2, rfl, hgo, HB0⟩ := hrel
    by_cases hlt : m < 18
    · have hop := opGo_at tx m hlt
      have hwd : ∀ q, WordsAt (wr.drewN q) := fun q => (HEN.out.wo.later HX.out).later (ext_drewN HB0.out q)
      have HWD := Lib.hid (fun q => Word_op (m : Int) (wr.drewN q) (hwd q))
      have q1 : wr.cell? ⟨w.heap.size, 1, none⟩ = some (.string ⟨tx.toArray⟩) := by rw [cell_of_row _ _ _ _ _ _ (heap_in HROW.out HB0.out)]; rfl
      clear hwd
      by_cases heq : TA.word m = tx
      · rw [if_pos heq] at hop
        have HRR : Hid (R = some m) := hgo.out.symm.trans hop
        have hww : wordT (m : Int) = tx := heq
        rw [hww] at HWD
        clear hop hgo heq hww
        go_wp2_with fail
        go_quiet (exact Calls.quiet_of_same (HWD.out _))
        have hb02 : Below W0.heap.size W0 (wr.drewN nq) := ext_drewN HB0.out nq
        have hb2 : Below w.heap.size w (wr.drewN nq) := ext_step HX.out hb02
        have r2 := heap_in HROW.out hb02
        have HP2 := Lib.hid (HH.out.later hb2)
        have HE2 := Lib.hid (HEN.out.later hb2)
        have HB2 := Lib.hid hb2
        have R2 := Lib.hid r2
        have HST := Lib.hid (prStep_any HP2.out HFN.out (by rw [HT.out]; show kd ≠ 0; rw [HKD.out]; decide))
        rw [HT.out] at HST
        clear hb02 hb2 r2
        go_wp2_with fail
        refine HST.out.mono ?_
        rintro e w3 ⟨po3, rfl, _, hp3, hf3⟩
        simp only [tkV]
        have r3 := (hf3.block _ (Array.getElem?_eq_some_iff.1 R2.out).1 (fun e => by have e := Option.some.inj e; have := HPL.out; omega)).trans R2.out
        have q3 : w3.cell? ⟨w.heap.size, 3, none⟩ = some (.int .i64 (pa : Nat)) := by rw [cell_of_row _ _ _ _ _ _ r3]; rfl
        have HP3 := Lib.hid hp3
        have HE3 := Lib.hid (HE2.out.farP HP2.out hf3)
        have HF3 := Lib.hid ((Far.below HB2.out).trans hf3)
        have hm := HM.out
        rw [HRR.out] at hm
        simp only at hm
        clear r3 hp3 hf3 HST HM HRR
        by_cases g1 : m = 10 ∨ m = 14 ∨ m = 15
        · rw [if_pos g1] at hm
          have HMM := Lib.hid hm
          clear hm
          rcases g1 with rfl | rfl | rfl
          · go_wp2_with fail
            refine (prCall_any HP3.out HFN.out HE3.out k hk rec HREC.out 10 pa 2 (by omega) (by omega)).mono ?_
            intro e w9 hr9
            have hr9 := hr9.from (a := a) HF3.out (Nat.le_succ a)
            rw [HMM.out] at hr9
            obtain ⟨hf9, hres⟩ := hr9
            cases OUT with
            | bad en x =>
              have hres : e = faultV en x := hres
              subst hres
              exact ⟨rfl, hf9, rfl⟩
            | ok x9 ts9 c9 =>
              obtain ⟨v9, a9, rfl, hrest⟩ := hres
              go_wp2_with fail
              go_ret
              exact ⟨hf9, _, a9, rfl, hrest⟩
          · go_wp2_with fail
            refine (prCall_any HP3.out HFN.out HE3.out k hk rec HREC.out 14 pa 2 (by omega) (by omega)).mono ?_
            intro e w9 hr9
            have hr9 := hr9.from (a := a) HF3.out (Nat.le_succ a)
            rw [HMM.out] at hr9
            obtain ⟨hf9, hres⟩ := hr9
            cases OUT with
            | bad en x =>
              have hres : e = faultV en x := hres
              subst hres
              exact ⟨rfl, hf9, rfl⟩
            | ok x9 ts9 c9 =>
              obtain ⟨v9, a9, rfl, hrest⟩ := hres
              go_wp2_with fail
              go_ret
              exact ⟨hf9, _, a9, rfl, hrest⟩
          · go_wp2_with fail
            refine (prCall_any HP3.out HFN.out HE3.out k hk rec HREC.out 15 pa 2 (by omega) (by omega)).mono ?_
            intro e w9 hr9
            have hr9 := hr9.from (a := a) HF3.out (Nat.le_succ a)
            rw [HMM.out] at hr9
            obtain ⟨hf9, hres⟩ := hr9
            cases OUT with
            | bad en x =>
              have hres : e = faultV en x := hres
              subst hres
              exact ⟨rfl, hf9, rfl⟩
            | ok x9 ts9 c9 =>
              obtain ⟨v9, a9, rfl, hrest⟩ := hres
              go_wp2_with fail
              go_ret
              exact ⟨hf9, _, a9, rfl, hrest⟩
        · rw [if_neg g1] at hm
          by_cases g2 : m = 12 ∨ m = 13
          · rw [if_pos g2] at hm
            have HMM := Lib.hid hm
            clear hm g1
            rcases g2 with rfl | rfl
            · go_wp2_with fail
              refine (prCall_any HP3.out HFN.out HE3.out k hk rec HREC.out 12 pa 1 (by omega) (by omega)).mono ?_
              intro e w9 hr9
              have hr9 := hr9.from (a := a) HF3.out (Nat.le_succ a)
              rw [HMM.out] at hr9
              obtain ⟨hf9, hres⟩ := hr9
              cases OUT with
              | bad en x =>
                have hres : e = faultV en x := hres
                subst hres
                exact ⟨rfl, hf9, rfl⟩
              | ok x9 ts9 c9 =>
                obtain ⟨v9, a9, rfl, hrest⟩ := hres
                go_wp2_with fail
                go_ret
                exact ⟨hf9, _, a9, rfl, hrest⟩
            · go_wp2_with fail
              refine (prCall_any HP3.out HFN.out HE3.out k hk rec HREC.out 13 pa 1 (by omega) (by omega)).mono ?_
              intro e w9 hr9
              have hr9 := hr9.from (a := a) HF3.out (Nat.le_succ a)
              rw [HMM.out] at hr9
              obtain ⟨hf9, hres⟩ := hr9
              cases OUT with
              | bad en x =>
                have hres : e = faultV en x := hres
                subst hres
                exact ⟨rfl, hf9, rfl⟩
              | ok x9 ts9 c9 =>
                obtain ⟨v9, a9, rfl, hrest⟩ := hres
                go_wp2_with fail
                go_ret
                exact ⟨hf9, _, a9, rfl, hrest⟩
          · rw [if_neg g2] at hm
            have HMM := Lib.hid hm
            have e10 : ((m : Int) == 10) = false := by rw [beq_eq_false_iff_ne]; omega
            have e14 : ((m : Int) == 14) = false := by rw [beq_eq_false_iff_ne]; omega
            have e15 : ((m : Int) == 15) = false := by rw [beq_eq_false_iff_ne]; omega
            have e12 : ((m : Int) == 12) = false := by rw [beq_eq_false_iff_ne]; omega
            have e13 : ((m : Int) == 13) = false := by rw [beq_eq_false_iff_ne]; omega
            clear hm g1 g2
            go_wp2_with fail
            refine (prPlain_any HP3.out HFN.out HE3.out.tab m pa (by omega)).mono ?_
            intro e w9 hr9
            have hr9 := hr9.from (a := a) HF3.out (Nat.le_succ a)
            rw [HMM.out] at hr9
            obtain ⟨hf9, hres⟩ := hr9
            cases OUT with
            | bad en x =>
              have hres : e = faultV en x := hres
              subst hres
              exact ⟨rfl, hf9, rfl⟩
            | ok x9 ts9 c9 =>
              obtain ⟨v9, a9, rfl, hrest⟩ := hres
              go_wp2_with fail
              go_ret
              exact ⟨hf9, _, a9, rfl, hrest⟩
      · rw [if_neg heq] at hop
        have HRR : Hid (PR.opGo tx (18 - (m + 1)) (m + 1) = R) := by show _ = _; rw [← hop]; exact hgo.out
        have hww : (wordT (m : Int) == tx) = false := by rw [beq_eq_false_iff_ne]; exact heq
        clear hop hgo heq
        generalize wordT (m : Int) = wt at *
        go_wp2_with fail
        go_quiet (exact Calls.quiet_of_same (HWD.out _))
        go_wp2_with fail
        go_roundw
        case rel => exact ⟨m + 1, by omega, by omega, by go_num, HRR.out, ext_drewN HB0.out nq⟩
        case measure => simp [intOf]; omega
    · obtain rfl : m = 18 := by omega
      have HRN : Hid (R = none) := hgo.out.symm.trans rfl
      have hm := HM.out
      rw [HRN.out] at hm
      simp only at hm
      rw [nmT_eq] at hm
      replace HM := Lib.hid hm
      have hb2 : Below w.heap.size w wr := ext_step HX.out HB0.out
      have HP2 := Lib.hid (HH.out.later hb2)
      have HB2 := Lib.hid hb2
      have HG2 := Lib.hid hb2.size
      clear hm hgo HRN hb2
      go_wp2_with fail
      refine (prName_any HP2.out HFN.out).mono ?_
      rintro e w3 ⟨hf3, hr3⟩
      generalize PR.nm (T.drop a) c = R3 at hr3 HM
      cases R3 with
      | bad en x =>
        have hr3 : e = faultV en x := hr3
        subst hr3
        have ho : OUT = .bad en x := HM.out.symm
        exact ⟨rfl, by rw [ho]; exact ⟨(Far.below HB2.out).trans hf3, rfl⟩⟩
      | ok v3 ts3 c3 =>
        have hm := HM.out
        simp only [PR.bind_ok] at hm
        obtain ⟨_, a3, rfl, ha3, rfl, hp3, rv0, rfl, hrv0⟩ := hr3
        obtain ⟨mk, mt, mr, mp⟩ := v3
        obtain ⟨pv, rfl⟩ := reO_ptr hrv0
        simp only [tkV]
        simp only at hm
        replace HM := Lib.hid hm
        have hx4 := re_alloc w3 (.cells #[.int .i64 (mk : Nat), .string ⟨mt.toArray⟩, .pointer pv, .int .i64 (mp : Nat)] 47)
        have HP4 := Lib.hid (hp3.later hx4)
        have HROW4 := Lib.hid (heap_alloc_last w3 (.cells #[.int .i64 (mk : Nat), .string ⟨mt.toArray⟩, .pointer pv, .int .i64 (mp : Nat)] 47))
        have HF4 := Lib.hid (((Far.below HB2.out).trans hf3).trans (Far.below hx4))
        have HNW := Lib.hid (prNew2_any HP4.out w HF4.out 0 mp (by omega))
        have HPL3 := Lib.hid hp3.plt
        clear hm hx4 hp3 hf3 hrv0
        generalize hMT : (⟨mt.toArray⟩ : ByteArray) = MT at *
        have HMT := Lib.hid hMT
        clear hMT
        go_wp2_with fail
        refine HNW.out.mono ?_
        rintro e w5 ⟨hf54, hf5, hr5⟩
        generalize PR.cnt mp (T.drop a3) c3 = R5 at hr5 HM
        cases R5 with
        | bad en x =>
          have hr5 : e = faultV en x := hr5
          subst hr5
          have ho : OUT = .bad en x := HM.out.symm
          exact ⟨rfl, by rw [ho]; exact ⟨hf5, rfl⟩⟩
        | ok u ts5 c5 =>
          obtain ⟨b, rfl, rfl, hp5, ht5⟩ := hr5
          have hm := HM.out
          simp only [PR.bind_ok] at hm
          have ho : OUT = .ok (PR.nameT ⟨mk, mt, mr, mp⟩) (T.drop a3) c5 := hm.symm
          have HO := Lib.hid ho
          have hq1 : w5.cell? ⟨w3.heap.size, 1, none⟩ = some (.string MT) := by
            have r5 := (hf54.block _ (Array.getElem?_eq_some_iff.1 HROW4.out).1 (fun e => by have e := Option.some.inj e; have := HPL3.out; omega)).trans HROW4.out
            rw [cell_of_row _ _ _ _ _ _ r5]; rfl
          obtain ⟨⟨rv5, kp5, cp5, hn5⟩, _⟩ := ht5.is.open
          have c2' : w5.cell? ⟨b, 2, none⟩ = some (.string ⟨#[]⟩) := hn5.cells.2.2.1
          have fz2 : w5.frozen? ⟨b, 2, none⟩ = false := frozen_of_row _ _ 2 _ _ hn5.1
          have HT6 := Lib.hid (TmB.put ht5 2 (.string MT) (n' := mt) (r' := none) (fun x => x) (fun _ _ => by rw [← HMT.out]; rfl) (fun _ h => h))
          have HP6 := Lib.hid (hp5.putB (t := TA.node b 0 (mp : Nat) [] none [] [] []) (j := 2) (v := .string MT) ht5 HGL.out)
          have HF6 := Lib.hid (hf5.setNewP (j := 2) (v := .string MT) ht5.lo.1)
          clear hm hn5 ht5 hp5 hf5 ho
          go_wp2_with fail
          go_ret
          rw [HO.out]
          exact ⟨HF6.out, _, a3, rfl, ha3, rfl, HP6.out, HT6.out.v⟩
end Go.Proofs.YtgamknphlmcgnaaGreatDoor
