/-
  Terms with signs between: walked through the program.
-/
import Derived.Test.YticpjjmacmmpjaaGreatDoorPrD
set_option linter.unusedSimpArgs false
set_option linter.unusedVariables false
set_option maxRecDepth 100000
set_option linter.unnecessarySimpa false
namespace Go.Proofs.YticpjjmacmmpjaaGreatDoor
open Go.RowKit
variable {w w' : World} {p g cap a d c : Nat} {T : List LT}
set_option maxRecDepth 100000 in
set_option maxHeartbeats 4000000 in
theorem prAtom_any (h : PrAt w p T g cap a d c) (hF : TFine T) (hE : EnvP w) (k : Nat) (hk : d + k = 60) (rec : List LT → Nat → PR.Res TA) (hrec : d < 60 → RecC p T g cap d rec) :
    Calls Tryz.prog 159 #[ptr p] w (PqPost p T g cap a d w (TmV w) (PR.atom k rec (T.drop a) c)) := by
  have HH := Lib.hid h
  have HFN := Lib.hid hF
  have HEN := Lib.hid hE
  have HREC := Lib.hid hrec
  have HN := Lib.hid (prNext_any h)
  have HPL := Lib.hid h.plt
  have HGL := Lib.hid h.glt
  have HA : Hid (PR.atom k rec (T.drop a) c = if (T.getD a lt0).kind = 1 then PR.word k rec (T.drop a) c
      else if (T.getD a lt0).kind = 4 then (PR.cnt (T.getD a lt0).at_ (T.drop a) c).bind fun _ ts1 c => (PR.expr ts1 c).bind fun r ts2 c => .ok (TA.node 0 1 ((T.getD a lt0).at_ : Nat) [] r [] [] []) ts2 c
      else if PR.isT (T.drop a) 2 [40] = true then (PR.opn k (T.drop a) c).bind fun _ ts c => (rec ts c).bind fun x ts c => (PR.want [41] ts c).bind fun _ ts c => .ok x ts c
      else .bad 2 (T.getD a lt0).at_) := by
    show _ = _; unfold PR.atom PR.form; rw [hd_drop h.lt]
  have HWD := Lib.hid (fun po (hk1 : (T.getD a lt0).kind = 1) W (hb : Below w.heap.size w W) => prWord_any (h.later hb) hF (hE.later hb) k hk rec hrec po hk1)
  obtain ⟨OUT, hOUT⟩ : ∃ OUT, PR.atom k rec (T.drop a) c = OUT := ⟨_, rfl⟩
  rw [hOUT]
  rw [HA.out] at hOUT
  clear h hF hE hrec HA
  generalize ht : T.getD a lt0 = t at *
  have HT := Lib.hid ht
  clear ht
  obtain ⟨kd, tx, ro, pa⟩ := t
  simp only at hOUT HWD
  have hfd0 := tk_f0; have hfd1 := tk_f1; have hfd2 := tk_f2; have hfd3 := tk_f3
  by_cases hk1 : kd = 1
  · rw [if_pos hk1] at hOUT
    have HMM := Lib.hid hOUT
    have HW1 := Lib.hid (fun po W hb => HWD.out po hk1 W hb)
    have e1 : (((kd : Nat) : Int) == 1) = true := by rw [hk1]; rfl
    clear hOUT hk1 HWD
    generalize hTX : (⟨tx.toArray⟩ : ByteArray) = TX at *
    have HTX := Lib.hid hTX
    clear hTX
    go_enter Tryz.func159, Tryz.ntmps159
    go_wp2_with fail
    refine HN.out.mono ?_
    rintro e w1 ⟨po, rfl, _, hb1⟩
    simp only [tkV, HTX.out]
    have HB2 := Lib.hid (ext_alloc hb1 (.cells #[.int .i64 (kd : Nat), .string TX, .pointer po, .int .i64 (pa : Nat)] 40))
    have HF3 := Lib.hid (Far.below (p := p) HB2.out)
    have HWX := Lib.hid (HW1.out po _ HB2.out)
    simp only [tkV, HTX.out] at HWX
    clear hb1 HW1
    go_wp2_with fail
    refine (HWX.out).mono ?_
    intro e w9 hr9
    have hr9 := hr9.from (a := a) HF3.out (Nat.le_refl a)
    rw [HMM.out] at hr9
    obtain ⟨hf9, hres⟩ := hr9
    cases OUT with
    | bad en x =>
      have hres : e = faultV en x := hres
      subst hres
      exact ⟨rfl, hf9, rfl⟩
    | ok x9 ts9 c9 =>
      obtain ⟨v9, a9, rfl, hrest⟩ := hres
      go_wp2_with fail
      go_ret
      exact ⟨hf9, _, a9, rfl, hrest⟩
  · rw [if_neg hk1] at hOUT
    have e1 : (((kd : Nat) : Int) == 1) = false := by rw [beq_eq_false_iff_ne]; omega
    clear HWD hk1
    by_cases hk4 : kd = 4
    · rw [if_pos hk4] at hOUT
      have HM := Lib.hid hOUT
      have e4 : (((kd : Nat) : Int) == 4) = true := by rw [hk4]; rfl
      clear hOUT hk4
      generalize hTX : (⟨tx.toArray⟩ : ByteArray) = TX at *
      have HTX := Lib.hid hTX
      clear hTX
      go_enter Tryz.func159, Tryz.ntmps159
      go_wp2_with fail
      refine HN.out.mono ?_
      rintro e w1 ⟨po, rfl, _, hb1⟩
      simp only [tkV, HTX.out]
      have hb2 := ext_alloc hb1 (.cells #[.int .i64 (kd : Nat), .string TX, .pointer po, .int .i64 (pa : Nat)] 40)
      have HP2 := Lib.hid (HH.out.later hb2)
      have HE2 := Lib.hid (HEN.out.later hb2)
      have HNW := Lib.hid (prNew2_any HP2.out w (Far.below hb2) 1 pa (by omega))
      clear hb1 hb2
      go_wp2_with fail
      refine HNW.out.mono ?_
      rintro e w3 ⟨hf32, hf3, hr3⟩
      generalize PR.cnt pa (T.drop a) c = R3 at hr3 HM
      cases R3 with
      | bad en x =>
        have hr3 : e = faultV en x := hr3
        subst hr3
        have ho : OUT = .bad en x := HM.out.symm
        exact ⟨rfl, by rw [ho]; exact ⟨hf3, rfl⟩⟩
      | ok u ts3 c3 =>
        obtain ⟨b, rfl, rfl, hp3, ht3⟩ := hr3
        have hm := HM.out
        simp only [PR.bind_ok] at hm
        replace HM := Lib.hid hm
        have HP3 := Lib.hid hp3
        have HT3 := Lib.hid ht3
        have HF3 := Lib.hid hf3
        have HE3 := Lib.hid (HE2.out.farP HP2.out hf32)
        clear hm hp3 ht3 hf3 hf32
        go_wp2_with fail
        refine (prExpr_any HP3.out HFN.out HE3.out.tab).mono ?_
        rintro e w4 ⟨hf4, hr4⟩
        generalize PR.expr (T.drop a) c3 = R4 at hr4 HM
        cases R4 with
        | bad en x =>
          have hr4 : e = faultV en x := hr4
          subst hr4
          have ho : OUT = .bad en x := HM.out.symm
          exact ⟨rfl, by rw [ho]; exact ⟨HF3.out.trans hf4, rfl⟩⟩
        | ok r ts4 c4 =>
          obtain ⟨v, a4, rfl, ha4, rfl, hp4, hv⟩ := hr4
          obtain ⟨pv, rfl⟩ := reO_ptr hv
          have hm := HM.out
          simp only [PR.bind_ok] at hm
          have ho : OUT = _ := hm.symm
          have HO := Lib.hid ho
          have ht4 := HT3.out.farP HP3.out hf4
          obtain ⟨⟨rv, kp, cp, hn⟩, _⟩ := ht4.is.open
          have c3' : w4.cell? ⟨b, 3, none⟩ = some rv := hn.cells.2.2.2.1
          have fz : w4.frozen? ⟨b, 3, none⟩ = false := frozen_of_row _ _ 3 _ _ hn.1
          have HT5 := Lib.hid (ht4.put 3 (.pointer pv) (r' := r) (fun _ => .pointer pv) (fun _ _ => rfl) (fun _ _ => hv))
          have HP5 := Lib.hid (hp4.putB (t := TA.node b 1 (pa : Nat) [] none [] [] []) (j := 3) (v := .pointer pv) ht4 HGL.out)
          have HF5 := Lib.hid ((HF3.out.trans hf4).setNewP (j := 3) (v := .pointer pv) ht4.lo.1)
          clear hm ho hn ht4 hp4 hf4 hv
          go_wp2_with fail
          go_ret
          rw [HO.out]
          exact ⟨HF5.out, _, a4, rfl, ha4, rfl, HP5.out, HT5.out.v⟩
    · rw [if_neg hk4] at hOUT
      have e4 : (((kd : Nat) : Int) == 4) = false := by rw [beq_eq_false_iff_ne]; omega
      clear hk4
      generalize hTX : (⟨tx.toArray⟩ : ByteArray) = TX at *
      have HTX := Lib.hid hTX
      clear hTX
      by_cases hsg : PR.isT (T.drop a) 2 [40] = true
      · rw [if_pos hsg] at hOUT
        have HM := Lib.hid hOUT
        clear hOUT
        go_enter Tryz.func159, Tryz.ntmps159
        go_wp2_with fail
        refine HN.out.mono ?_
        rintro e w1 ⟨po, rfl, _, hb1⟩
        simp only [tkV, HTX.out]
        have hb2 := ext_alloc hb1 (.cells #[.int .i64 (kd : Nat), .string TX, .pointer po, .int .i64 (pa : Nat)] 40)
        have HP2 := Lib.hid (HH.out.later hb2)
        have HE2 := Lib.hid (HEN.out.later hb2)
        have HB2 := Lib.hid hb2
        have HIS := Lib.hid (prIs_any HP2.out 2 [40])
        rw [hsg] at HIS
        clear hb1 hb2 hsg
        go_wp2_with fail
        refine HIS.out.mono ?_
        rintro e w3 ⟨rfl, hb3⟩
        have HP3 := Lib.hid (HP2.out.later hb3)
        have HE3 := Lib.hid (HE2.out.later hb3)
        have HB3 := Lib.hid (ext_step HB2.out hb3)
        clear hb3
        go_wp2_with fail
        refine (prOpen_any HP3.out HFN.out k hk).mono ?_
        rintro e w4 ⟨hf4, hr4⟩
        by_cases hd : d < 60
        · generalize PR.opn k (T.drop a) c = R4 at hr4 HM
          cases R4 with
          | bad en x =>
            have hr4 : e = faultV en x := hr4
            subst hr4
            have ho : OUT = .bad en x := HM.out.symm
            exact ⟨rfl, by rw [ho]; exact ⟨(Far.below HB3.out).trans hf4, rfl⟩⟩
          | ok v4 ts4 c4 =>
            have hm := HM.out
            simp only [PR.bind_ok] at hm
            replace HM := Lib.hid hm
            obtain ⟨_, a4, rfl, ha4, rfl, hp4, rfl⟩ := hr4
            have HP4 := Lib.hid hp4
            have HE4 := Lib.hid (HE3.out.farP HP3.out hf4)
            have HF4 := Lib.hid ((Far.below HB3.out).trans hf4)
            have HRC := Lib.hid (HREC.out hd _ _ _ HP4.out HE4.out)
            clear hm hp4 hf4
            go_wp2_with fail
            refine HRC.out.mono ?_
            rintro e w5 ⟨hf5, hr5⟩
            generalize rec (T.drop a4) c4 = R5 at hr5 HM
            cases R5 with
            | bad en x =>
              have hr5 : e = faultV en x := hr5
              subst hr5
              have ho : OUT = .bad en x := HM.out.symm
              exact ⟨rfl, by rw [ho]; exact ⟨HF4.out.trans hf5, rfl⟩⟩
            | ok x5 ts5 c5 =>
              have hm := HM.out
              simp only [PR.bind_ok] at hm
              replace HM := Lib.hid hm
              obtain ⟨_, a5, rfl, ha5, rfl, hp5, hv5⟩ := hr5
              obtain ⟨y, rfl, hy, hyz⟩ := hv5.open
              have HP5 := Lib.hid hp5
              have HF5 := Lib.hid (HF4.out.trans hf5)
              have HY5 := Lib.hid (hy.up (w0 := w) HF4.out.size)
              have HYZ := Lib.hid hyz
              clear hm hp5 hf5 hv5 hy hyz HRC
              go_wp2_with fail
              refine (prShut_any HP5.out HFN.out).mono ?_
              rintro e w6 ⟨hf6, hr6⟩
              generalize PR.want [41] (T.drop a5) c5 = R6 at hr6 HM
              cases R6 with
              | bad en x =>
                have hr6 : e = faultV en x := hr6
                subst hr6
                have ho : OUT = .bad en x := HM.out.symm
                exact ⟨rfl, by rw [ho]; exact ⟨HF5.out.trans hf6, rfl⟩⟩
              | ok v6 ts6 c6 =>
                have hm := HM.out
                simp only [PR.bind_ok] at hm
                obtain ⟨_, a6, rfl, ha6, rfl, hp6, rfl⟩ := hr6
                have ho : OUT = _ := hm.symm
                have HO := Lib.hid ho
                have HP6 := Lib.hid hp6
                have HY6 := Lib.hid (HY5.out.farP HP5.out hf6)
                have HF6 := Lib.hid (HF5.out.trans hf6)
                clear hm hp6 hf6 ho
                go_wp2_with fail
                go_ret
                rw [HO.out]
                exact ⟨HF6.out, _, a6, rfl, by omega, rfl, HP6.out, by rw [← HYZ.out]; exact HY6.out.v⟩
        · obtain ⟨en, x, hb⟩ := opn_bad (show k = 0 by omega) (T.drop a) c
          rw [hb] at hr4
          have hm := HM.out
          rw [hb] at hm
          have hr4 : e = faultV en x := hr4
          subst hr4
          have ho : OUT = .bad en x := hm.symm
          exact ⟨rfl, by rw [ho]; exact ⟨(Far.below HB3.out).trans hf4, rfl⟩⟩
      · rw [if_neg hsg] at hOUT
        have HO := Lib.hid hOUT.symm
        have hsg' : PR.isT (T.drop a) 2 [40] = false := by simpa using hsg
        clear hOUT hsg
        go_enter Tryz.func159, Tryz.ntmps159
        go_wp2_with fail
        refine HN.out.mono ?_
        rintro e w1 ⟨po, rfl, _, hb1⟩
        simp only [tkV, HTX.out]
        have hb2 := ext_alloc hb1 (.cells #[.int .i64 (kd : Nat), .string TX, .pointer po, .int .i64 (pa : Nat)] 40)
        have HP2 := Lib.hid (HH.out.later hb2)
        have HB2 := Lib.hid hb2
        have HIS := Lib.hid (prIs_any HP2.out 2 [40])
        rw [hsg'] at HIS
        clear hb1 hb2 hsg'
        go_wp2_with fail
        refine HIS.out.mono ?_
        rintro e w3 ⟨rfl, hb3⟩
        have HP3 := Lib.hid (HP2.out.later hb3)
        have HB3 := Lib.hid (ext_step HB2.out hb3)
        have HFO := Lib.hid (prForm_any HP3.out)
        rw [HT.out] at HFO
        clear hb3
        go_wp2_with fail
        refine HFO.out.mono ?_
        rintro e w4 ⟨rfl, hb4⟩
        exact ⟨rfl, by rw [HO.out]; exact ⟨Far.below (ext_step HB3.out hb4), rfl⟩⟩
end Go.Proofs.YticpjjmacmmpjaaGreatDoor
namespace Go.Proofs.YticpjjmacmmpjaaGreatDoor
open Go.RowKit
variable {w w' : World} {p g cap a d c : Nat} {T : List LT}
theorem isT_ne {h : a < T.length} {s : List UInt8} (hh : PR.isT (T.drop a) 2 s = true) : (T.getD a lt0).kind ≠ 0 := by
  have := (isT_kind hh).1
  rw [hd_drop h] at this
  omega
/-- what a term over one leaves -/
def StarPost (p : Nat) (T : List LT) (g cap a d : Nat) (w0 : World) (q : Nat) (t : TA) (R : PR.Res Unit) (e : Ending) (w' : World) : Prop := Far p w0 w' ∧ match R with
    | .ok _ ts c' => ∃ t' : TA, e = .returned (ptr t'.b) ∧ ts = T.drop a ∧ PrAt w' p T g cap a d c' ∧ TmB w0 w' t' ∧ t'.zero = TA.node 0 9 (q : Nat) [] none [] [] [t.zero]
    | .bad en x => e = faultV en x
theorem prTerm1_any (h : PrAt w p T g cap a d c) (w0 : World) (hf0 : Far p w0 w) (hg0 : g < w0.heap.size) (G : Nat) (t : TA) (hG : w.heap[G]? = some (.cells #[ptr t.b] 56 (0, 0))) (ht : TmB w0 w t) (q : Nat) : Calls Tryz.prog 146 #[ptr p, .int .i64 9, .int .i64 (q : Nat), .slice (some ⟨G, 0, none⟩) 1 1] w (StarPost p T g cap a d w0 q t (PR.cnt q (T.drop a) c)) :=
  prTerm1 h w0 hf0.size hf0 hg0 G t hG ht q
def StarLp (p : Nat) (T : List LT) (g cap a0 d : Nat) (w : World) (OUT : PR.Res TA) (f : Nat) (v : Value) (wr : World) : Prop :=
  ∃ (n : Nat) (t : TA) (a c : Nat), f = n + 1 ∧ T.length - a ≤ n ∧ v = ptr t.b ∧ a0 ≤ a ∧ Hid (PR.starGo n t.zero (T.drop a) c = OUT) ∧ Hid (PrAt wr p T g cap a d c) ∧ Hid (TmB w wr t) ∧ Hid (Far p w wr)
set_option maxRecDepth 100000 in
set_option maxHeartbeats 4000000 in
theorem prStar_any (h : PrAt w p T g cap a d c) (hF : TFine T) (hE : EnvP w) (k : Nat) (hk : d + k = 60) (rec : List LT → Nat → PR.Res TA) (hrec : d < 60 → RecC p T g cap d rec) :
    Calls Tryz.prog 145 #[ptr p] w (PqPost p T g cap a d w (TmV w) (PR.star k rec (T.drop a) c)) := by
  have HFN := Lib.hid hF
  have HAT := Lib.hid (prAtom_any h hF hE k hk rec hrec)
  have HGL := Lib.hid h.glt
  have HS : Hid (PR.star k rec (T.drop a) c = (PR.atom k rec (T.drop a) c).bind fun t ts c => PR.starGo ts.length t ts c) := rfl
  obtain ⟨OUT, hOUT⟩ : ∃ OUT, PR.star k rec (T.drop a) c = OUT := ⟨_, rfl⟩
  rw [hOUT]
  rw [HS.out] at hOUT
  have HM := Lib.hid hOUT
  clear h hF hE hrec HS hOUT
  have hfd0 := tk_f0; have hfd1 := tk_f1; have hfd2 := tk_f2; have hfd3 := tk_f3
  go_enter Tryz.func145, Tryz.ntmps145
  go_wp2_with fail
  refine HAT.out.mono ?_
  rintro e w1 ⟨hf1, hr1⟩
  generalize PR.atom k rec (T.drop a) c = R1 at hr1 HM
  cases R1 with
  | bad en x =>
    have hr1 : e = faultV en x := hr1
    subst hr1
    have ho : OUT = .bad en x := HM.out.symm
    exact ⟨rfl, by rw [ho]; exact ⟨hf1, rfl⟩⟩
  | ok x1 ts1 c1 =>
    have hm := HM.out
    simp only [PR.bind_ok] at hm
    obtain ⟨_, a1, rfl, ha1, rfl, hp1, hv1⟩ := hr1
    obtain ⟨t1, rfl, ht1, hz1⟩ := hv1.open
    rw [← hz1] at hm
    replace HM := Lib.hid hm
    have HP1 := Lib.hid hp1
    have HT1 := Lib.hid ht1
    have HF1 := Lib.hid hf1
    clear hm hp1 hv1 hf1 HAT
    go_wp2_with fail
    go_loopg [3] ((T.drop a1).length + 1) (fun f v wr => StarLp p T g cap a d w OUT f v wr)
    case atStart => exact ⟨(T.drop a1).length, t1, a1, c1, rfl, by simp, rfl, ha1, HM.out, HP1.out, HT1.out, HF1.out⟩
    case round =>
      clear HM HP1 HT1 HF1 ht1 ha1 hz1
      obtain ⟨n, t, a2, c2, hgk, hn, rfl, ha2, hgo, HP2, HT2, HF2⟩ := hrel
      cases gk with
      | zero => omega
      | succ f =>
        obtain rfl : n = f := by omega
        have hl2 := HP2.out.lt
        obtain ⟨m, rfl⟩ : ∃ m, n = m + 1 := ⟨n - 1, by omega⟩
        have HIS := Lib.hid (prIs_any HP2.out 2 [42])
        by_cases hsg : PR.isT (T.drop a2) 2 [42] = true
        · have hgo2 := hgo.out
          rw [PR.starGo, if_pos hsg, stp_drop hl2 (isT_ne (h := hl2) hsg), hd_drop hl2] at hgo2
          have HM := Lib.hid hgo2
          have HST := Lib.hid (fun W (hb : Below wr.heap.size wr W) => prStep_any (HP2.out.later hb) HFN.out (isT_ne (h := hl2) hsg))
          rw [hsg] at HIS
          clear hgo2 hgo hsg
          generalize T.getD a2 lt0 = tk at *
          obtain ⟨kd, tx, ro, pa⟩ := tk
          simp only at HM
          go_wp2_with fail
          refine HIS.out.mono ?_
          rintro e w3 ⟨rfl, hb3⟩
          go_wp2_with fail
          refine (HST.out _ hb3).mono ?_
          rintro e w4 ⟨po4, rfl, _, hp4, hf4⟩
          simp only [tkV]
          have hx5 := re_alloc w4 (.cells #[ptr t.b] 56)
          have ht4 := (HT2.out.later hb3).farP (HP2.out.later hb3) hf4
          have hf5 := ((HF2.out.trans (Far.below hb3)).trans hf4).trans (Far.below hx5)
          have HTE := Lib.hid (prTerm1_any (hp4.later hx5) w hf5 HGL.out w4.heap.size t (heap_alloc_last w4 _) (ht4.later hx5) pa)
          clear hb3 hx5 ht4 hf5 hp4 hf4 HIS HST
          go_wp2_with fail
          refine HTE.out.mono ?_
          rintro e w6 ⟨hf6, hr6⟩
          generalize PR.cnt pa (T.drop (a2 + 1)) c2 = R6 at hr6 HM
          cases R6 with
          | bad en x =>
            have hr6 : e = faultV en x := hr6
            subst hr6
            have ho : OUT = .bad en x := HM.out.symm
            exact ⟨rfl, by rw [ho]; exact ⟨hf6, rfl⟩⟩
          | ok u ts6 c6 =>
            obtain ⟨t', rfl, rfl, hp6, ht6, hz6⟩ := hr6
            have hm := HM.out
            simp only [PR.bind_ok] at hm
            rw [← hz6] at hm
            have HM6 := Lib.hid hm
            have HP6 := Lib.hid hp6
            have HT6 := Lib.hid ht6
            have HF6 := Lib.hid hf6
            clear hm hp6 ht6 hf6 HTE
            go_wp2_with fail
            go_roundg (m + 1)
            case measure => omega
            case rel => exact ⟨m, t', a2 + 1, c6, rfl, by omega, rfl, by omega, HM6.out, HP6.out, HT6.out, HF6.out⟩
        · have hgo2 := hgo.out
          rw [PR.starGo, if_neg hsg] at hgo2
          have hsg' : PR.isT (T.drop a2) 2 [42] = false := by simpa using hsg
          rw [hsg'] at HIS
          have HO := Lib.hid hgo2.symm
          clear hgo2 hgo hsg hsg'
          go_wp2_with fail
          refine HIS.out.mono ?_
          rintro e w3 ⟨rfl, hb3⟩
          have HP3 := Lib.hid (HP2.out.later hb3)
          have HT3 := Lib.hid (HT2.out.later hb3)
          have HF3 := Lib.hid (HF2.out.trans (Far.below hb3))
          clear hb3 HIS
          go_wp2_with fail
          go_ret
          rw [HO.out]
          exact ⟨HF3.out, _, a2, rfl, ha2, rfl, HP3.out, HT3.out.v⟩
end Go.Proofs.YticpjjmacmmpjaaGreatDoor
namespace Go.Proofs.YticpjjmacmmpjaaGreatDoor
open Go.RowKit
variable {w w' : World} {p g cap a d c : Nat} {T : List LT}
abbrev signRow : Array Value := #[.string ⟨#[124]⟩, .string ⟨#[46]⟩, .string ⟨#[59]⟩]
abbrev opsRow : Array Value := #[.int .i64 7, .int .i64 8, .int .i64 11]
theorem TmB.kids2 {w0 W : World} {b o q : Nat} {x y : TA} (h : TmB w0 W (TA.node b o q [] none [] [] [])) (hx : TmB w0 W x) (hy : TmB w0 W y) (hn : (b :: (x.blocks ++ y.blocks)).Nodup) :
    TmB w0 ((W.alloc (.cells #[ptr x.b, ptr y.b] 56)).setCell ⟨b, 6, none⟩ (.slice (some ⟨W.heap.size, 0, none⟩) 2 2)) (TA.node b o q [] none [] [] [x, y]) := by
  have hk : KidsV (W.alloc (.cells #[ptr x.b, ptr y.b] 56)) (.slice (some ⟨W.heap.size, 0, none⟩) 2 2) [x, y] (some W.heap.size) := KidsV.lit W [x, y] (by simp [maxLen])
  have hb := re_alloc W (.cells #[ptr x.b, ptr y.b] 56)
  refine (h.later hb).kids hk (fun z hz => ?_) (by simpa [TA.blockss] using hn)
  simp only [List.mem_cons, List.not_mem_nil, or_false] at hz
  rcases hz with rfl | rfl
  · exact hx.later hb
  · exact hy.later hb
theorem EnvP.putB {w0 W : World} {t : TA} {j : Nat} {v : Value} (h : EnvP W) (ht : TmB w0 W t) : EnvP (W.setCell ⟨t.b, j, none⟩ v) := by
  obtain ⟨⟨rv, kp, cp, hn⟩, _⟩ := ht.is.open
  have hcb := hn.cells.1
  have key : ∀ (x i : Nat) (u u0 : Value), W.cell? ⟨x, i, none⟩ = some u → W.cell? ⟨x, 0, none⟩ = some u0 → u0 ≠ .int .i64 (t.op : Nat) → (W.setCell ⟨t.b, j, none⟩ v).cell? ⟨x, i, none⟩ = some u := fun x i u u0 hu hu0 hne => by
    refine (World.cell?_of_block (w := W) (w' := W.setCell ⟨t.b, j, none⟩ v) (a := ⟨x, i, none⟩) (Below.heap_setCell _ _ _ _ (fun e => ?_))).trans hu
    have e : x = t.b := e
    rw [e, hcb] at hu0
    exact hne (Option.some.inj hu0).symm
  exact ⟨fun i hi => key _ i _ _ (h.tab i hi) (h.tab 0 (by omega)) (fun e => by cases e), fun i hi => key _ i _ _ (h.wo i hi) (h.wo 0 (by omega)) (fun e => by cases e)⟩
theorem prNew3_any {w : World} (h : PrAt w p T g cap a d c) (w0 : World) (hf0 : Far p w0 w) (o q : Nat) (ho : o < 20) : Calls Tryz.prog 146 #[ptr p, .int .i64 (o : Nat), .int .i64 (q : Nat), .slice none 0 0] w fun e w' => Far p w w' ∧ (∀ b, e = .returned (ptr b) → w.heap.size ≤ b) ∧ NewPost p T g cap a d w0 o q (PR.cnt q (T.drop a) c) e w' := by
  refine (prNew_any h w (Far.refl p w) o q ho).mono ?_
  rintro e w' ⟨hf, hr⟩
  generalize PR.cnt q (T.drop a) c = R at *
  cases R with
  | bad en x =>
    have hr : e = faultV en x := hr
    subst hr
    exact ⟨hf, fun b hb => (by cases hb), hf0.trans hf, rfl⟩
  | ok u ts c' =>
    obtain ⟨b, rfl, h2, h3, h4⟩ := hr
    refine ⟨hf, fun b' hb' => ?_, hf0.trans hf, b, rfl, h2, h3, h4.up hf0.size⟩
    injection hb' with hb'
    injection hb' with hb'
    injection hb' with hb'
    injection hb' with hb'
    rw [← hb']; exact h4.lo.1
def ChLoop (p : Nat) (T : List LT) (g cap a0 d : Nat) (w : World) (sg : UInt8) (o : Nat) (nx : List LT → Nat → PR.Res TA) (OUT : PR.Res TA) (f : Nat) (v : Value) (wr : World) : Prop :=
  ∃ (n : Nat) (t : TA) (a c : Nat), f = n + 1 ∧ T.length - a ≤ n ∧ v = ptr t.b ∧ a0 ≤ a ∧ Hid (PR.chGo sg o nx n t.zero (T.drop a) c = OUT) ∧ Hid (PrAt wr p T g cap a d c) ∧ Hid (TmB w wr t) ∧ Hid (Far p w wr) ∧ Hid (EnvP wr) ∧
    Hid (wr.heap[w.heap.size]? = some (.cells signRow 184 (0, 0))) ∧ Hid (wr.heap[w.heap.size + 1]? = some (.cells opsRow 185 (0, 0)))
set_option maxRecDepth 100000 in
set_option maxHeartbeats 4000000 in
theorem prChain_step (hF : TFine T) (k : Nat) (hk : d + k = 60) (nx : List LT → Nat → PR.Res TA) (l : Nat) (hl : l < 3)
    (hnx : ∀ W a c, PrAt W p T g cap a d c → EnvP W → Calls Tryz.prog 115 #[ptr p, .int .i64 ((l : Int) + 1)] W (PqPost p T g cap a d W (TmV W) (nx (T.drop a) c)))
    (h : PrAt w p T g cap a d c) (hE : EnvP w) :
    Calls Tryz.prog 115 #[ptr p, .int .i64 (l : Nat)] w (PqPost p T g cap a d w (TmV w) (PR.chL (PR.sgn l) (PR.opc l) nx (T.drop a) c)) := by
  have HFN := Lib.hid hF
  have HNX := Lib.hid hnx
  have HGL := Lib.hid h.glt
  have HPL := Lib.hid h.plt
  have HS : Hid (PR.chL (PR.sgn l) (PR.opc l) nx (T.drop a) c = (nx (T.drop a) c).bind fun t ts c => PR.chGo (PR.sgn l) (PR.opc l) nx ts.length t ts c) := rfl
  obtain ⟨OUT, hOUT⟩ : ∃ OUT, PR.chL (PR.sgn l) (PR.opc l) nx (T.drop a) c = OUT := ⟨_, rfl⟩
  rw [hOUT]
  rw [HS.out] at hOUT
  have HM := Lib.hid hOUT
  have hl3 : ((l : Int) == 3) = false := by rw [beq_eq_false_iff_ne]; omega
  have hx : Below w.heap.size w ((w.alloc (.cells signRow 184)).alloc (.cells opsRow 185)) := ext_alloc (re_alloc w _) _
  have HP1 := Lib.hid (h.later hx)
  have HE1 := Lib.hid (hE.later hx)
  have HX := Lib.hid hx
  clear h hF hE hOUT hnx hx HS
  have hfd0 := tk_f0; have hfd1 := tk_f1; have hfd2 := tk_f2; have hfd3 := tk_f3
  go_enter Tryz.func115, Tryz.ntmps115
  go_wp2_with fail
  refine (HNX.out _ _ _ HP1.out HE1.out).mono ?_
  rintro e w1 ⟨hf1, hr1⟩
  generalize nx (T.drop a) c = R1 at hr1 HM
  have HF1 := Lib.hid ((Far.below HX.out).trans hf1)
  cases R1 with
  | bad en x =>
    have hr1 : e = faultV en x := hr1
    subst hr1
    have ho : OUT = .bad en x := HM.out.symm
    exact ⟨rfl, by rw [ho]; exact ⟨HF1.out, rfl⟩⟩
  | ok x1 ts1 c1 =>
    have hm := HM.out
    simp only [PR.bind_ok] at hm
    obtain ⟨_, a1, rfl, ha1, rfl, hp1, hv1⟩ := hr1
    obtain ⟨t1, rfl, ht1, hz1⟩ := hv1.open
    rw [← hz1] at hm
    replace HM := Lib.hid hm
    have HPX := Lib.hid hp1
    have HT1 := Lib.hid (ht1.up (w0 := w) HX.out.size)
    have HE2 := Lib.hid (HE1.out.farP HP1.out hf1)
    have hr00 : ((w.alloc (.cells signRow 184)).alloc (.cells opsRow 185)).heap[w.heap.size]? = some (.cells signRow 184 (0, 0)) := heap_in (heap_alloc_last w _) (re_alloc _ _)
    have hr01 : ((w.alloc (.cells signRow 184)).alloc (.cells opsRow 185)).heap[w.heap.size + 1]? = some (.cells opsRow 185 (0, 0)) := by
      have := heap_alloc_last (w.alloc (.cells signRow 184)) (.cells opsRow 185)
      rw [show (w.alloc (.cells signRow 184)).heap.size = w.heap.size + 1 by simp] at this
      exact this
    have HR0 := Lib.hid ((hf1.block _ (Array.getElem?_eq_some_iff.1 hr00).1 (fun e => by have e := Option.some.inj e; have := HPL.out; omega)).trans hr00)
    have HR1 := Lib.hid ((hf1.block _ (Array.getElem?_eq_some_iff.1 hr01).1 (fun e => by have e := Option.some.inj e; have := HPL.out; omega)).trans hr01)
    clear hm hp1 hv1 hf1 hr00 hr01 ht1 hz1
    go_wp2_with fail
    go_loopg [7] ((T.drop a1).length + 1) (fun f v wr => ChLoop p T g cap a d w (PR.sgn l) (PR.opc l) nx OUT f v wr)
    case atStart => exact ⟨(T.drop a1).length, t1, a1, c1, rfl, by simp, rfl, ha1, HM.out, HPX.out, HT1.out, HF1.out, HE2.out, HR0.out, HR1.out⟩
    case round =>
      clear HM HPX HT1 HF1 HE2 HR0 HR1 ha1 HP1 HE1 HX
      obtain ⟨n, t, a2, c2, hgk, hn, rfl, ha2, hgo, HP2, HT2, HF2, HE2, HR0, HR1⟩ := hrel
      cases gk with
      | zero => omega
      | succ f =>
        obtain rfl : n = f := by omega
        have hl2 := HP2.out.lt
        obtain ⟨m, rfl⟩ : ∃ m, n = m + 1 := ⟨n - 1, by omega⟩
        have HIS := Lib.hid (fun W (hb : Below wr.heap.size wr W) => prIs_any (HP2.out.later hb) 2 [PR.sgn l])
        have hsc : ∀ W : World, W.heap[w.heap.size]? = some (.cells signRow 184 (0, 0)) → W.cell? ⟨w.heap.size, l, none⟩ = some (.string ⟨[PR.sgn l].toArray⟩) := fun W hW => by
          rw [cell_of_row _ _ _ _ _ _ hW]
          have : l = 0 ∨ l = 1 ∨ l = 2 := by omega
          rcases this with rfl | rfl | rfl <;> rfl
        have hoc : ∀ W : World, W.heap[w.heap.size + 1]? = some (.cells opsRow 185 (0, 0)) → W.cell? ⟨w.heap.size + 1, l, none⟩ = some (.int .i64 (PR.opc l : Nat)) := fun W hW => by
          rw [cell_of_row _ _ _ _ _ _ hW]
          have : l = 0 ∨ l = 1 ∨ l = 2 := by omega
          rcases this with rfl | rfl | rfl <;> rfl
        have HOC := Lib.hid hoc
        have q0 := hsc _ HR0.out
        have hl0 : (0 : Int) ≤ (l : Int) ∧ (l : Int) < 3 := by omega
        clear hsc hoc
        by_cases hsg : PR.isT (T.drop a2) 2 [PR.sgn l] = true
        · have hgo2 := hgo.out
          rw [PR.chGo, if_pos hsg, stp_drop hl2 (isT_ne (h := hl2) hsg), hd_drop hl2] at hgo2
          have HM := Lib.hid hgo2
          have HST := Lib.hid (fun W (hb : Below wr.heap.size wr W) => prStep_any (HP2.out.later hb) HFN.out (isT_ne (h := hl2) hsg))
          rw [hsg] at HIS
          have hopc : PR.opc l < 20 := by unfold PR.opc; split <;> (try split) <;> omega
          clear hgo2 hgo hsg
          generalize T.getD a2 lt0 = tk at *
          obtain ⟨kd, tx, ro, pa⟩ := tk
          simp only at HM
          generalize PR.sgn l = sg at *
          generalize PR.opc l = o at *
          go_wp2_with fail
          refine (HIS.out _ (Below.refl _ _)).mono ?_
          rintro e w3 ⟨rfl, hb3⟩
          go_wp2_with fail
          refine (HST.out _ hb3).mono ?_
          rintro e w4 ⟨po4, rfl, _, hp4, hf4⟩
          simp only [tkV]
          have hp3 := HP2.out.later hb3
          have ht4 := (HT2.out.later hb3).farP hp3 hf4
          have he4 := (HE2.out.later hb3).farP hp3 hf4
          have hf24 := (HF2.out.trans (Far.below hb3)).trans hf4
          have hr40 := (hf4.block _ (Array.getElem?_eq_some_iff.1 (heap_in HR0.out hb3)).1 (fun e => by have e := Option.some.inj e; have := HPL.out; omega)).trans (heap_in HR0.out hb3)
          have hr41 := (hf4.block _ (Array.getElem?_eq_some_iff.1 (heap_in HR1.out hb3)).1 (fun e => by have e := Option.some.inj e; have := HPL.out; omega)).trans (heap_in HR1.out hb3)
          have q1 := HOC.out _ hr41
          have HTE := Lib.hid (prNew3_any hp4 w hf24 o pa hopc)
          have HP4 := Lib.hid hp4
          have HT4 := Lib.hid ht4
          have HE4 := Lib.hid he4
          have HR40 := Lib.hid hr40
          have HR41 := Lib.hid hr41
          have HF24 := Lib.hid hf24
          have HS4 : Hid (w.heap.size + 1 < w4.heap.size) := (Array.getElem?_eq_some_iff.1 HR41.out).1
          clear hb3 ht4 he4 hf24 hp4 hf4 hp3 hr40 hr41 HIS HST HOC
          go_wp2_with fail
          refine HTE.out.mono ?_
          rintro e w6 ⟨hf46, hb6, hf6, hr6⟩
          generalize PR.cnt pa (T.drop (a2 + 1)) c2 = R6 at hr6 HM
          cases R6 with
          | bad en x =>
            have hr6 : e = faultV en x := hr6
            subst hr6
            have ho : OUT = .bad en x := HM.out.symm
            exact ⟨rfl, by rw [ho]; exact ⟨hf6, rfl⟩⟩
          | ok u ts6 c6 =>
            obtain ⟨b, rfl, rfl, hp6, ht6⟩ := hr6
            have hm := HM.out
            simp only [PR.bind_ok] at hm
            replace HM := Lib.hid hm
            have HP6 := Lib.hid hp6
            have HT6 := Lib.hid ht6
            have HF6 := Lib.hid hf6
            have HX6 := Lib.hid (HT4.out.farP HP4.out hf46)
            have HE6 := Lib.hid (HE4.out.farP HP4.out hf46)
            have HR60 := Lib.hid ((hf46.block _ (Array.getElem?_eq_some_iff.1 HR40.out).1 (fun e => by have e := Option.some.inj e; have := HPL.out; omega)).trans HR40.out)
            have HR61 := Lib.hid ((hf46.block _ (Array.getElem?_eq_some_iff.1 HR41.out).1 (fun e => by have e := Option.some.inj e; have := HPL.out; omega)).trans HR41.out)
            have hbn : w4.heap.size ≤ b := hb6 b rfl
            have HBN := Lib.hid hbn
            have HNX6 := Lib.hid (HNX.out _ _ _ hp6 HE6.out)
            clear hm hp6 ht6 hf6 hf46 HTE HR40 HR41 hbn hb6
            go_wp2_with fail
            refine HNX6.out.mono ?_
            rintro e w7 ⟨hf7, hr7⟩
            generalize nx (T.drop (a2 + 1)) c6 = R7 at hr7 HM
            have HF7 := Lib.hid (HF6.out.trans hf7)
            cases R7 with
            | bad en x =>
              have hr7 : e = faultV en x := hr7
              subst hr7
              have ho : OUT = .bad en x := HM.out.symm
              exact ⟨rfl, by rw [ho]; exact ⟨HF7.out, rfl⟩⟩
            | ok y7 ts7 c7 =>
              obtain ⟨_, a7, rfl, ha7, rfl, hp7, hv7⟩ := hr7
              obtain ⟨y, rfl, hy, hyz⟩ := hv7.open
              have hm := HM.out
              simp only [PR.bind_ok] at hm
              rw [← hyz] at hm
              have HM7 := Lib.hid hm
              have hb7 := HT6.out.farP HP6.out hf7
              have hx7 := HX6.out.farP HP6.out hf7
              have hy7 := hy.up (w0 := w) HF6.out.size
              have hnod : (b :: (t.blocks ++ y.blocks)).Nodup := by
                refine List.nodup_cons.2 ⟨fun hbm => ?_, List.nodup_append.2 ⟨hx7.nod, hy7.nod, fun z1 h1 z2 h2 e => ?_⟩⟩
                · rcases List.mem_append.1 hbm with h1 | h1
                  · have := (HT4.out.blk b h1).2
                    have := HBN.out
                    omega
                  · have h2 := (hy.blk b h1).1
                    have h3 : b < w6.heap.size := HT6.out.lo.2
                    omega
                · subst e
                  have h3 := (HX6.out.blk z1 h1).2
                  have h4 := (hy.blk z1 h2).1
                  omega
              have HFIN := Lib.hid (hb7.kids2 hx7 hy7 hnod)
              have hal := re_alloc w7 (.cells #[ptr t.b, ptr y.b] 56)
              obtain ⟨⟨rv7, kp7, cp7, hn7⟩, _⟩ := (hb7.later hal).is.open
              have cz : (w7.alloc (.cells #[ptr t.b, ptr y.b] 56)).cell? ⟨b, 6, none⟩ = some (.slice kp7 0 cp7) := hn7.cells.2.2.2.2.2.2
              have fz : (w7.alloc (.cells #[ptr t.b, ptr y.b] 56)).frozen? ⟨b, 6, none⟩ = false := frozen_of_row _ _ 6 _ _ hn7.1
              have HP8 := Lib.hid ((hp7.later hal).putB (t := TA.node b o (pa : Nat) [] none [] [] []) (j := 6) (v := .slice (some ⟨w7.heap.size, 0, none⟩) 2 2) (hb7.later hal) HGL.out)
              have HF8 := Lib.hid ((HF7.out.trans (Far.below hal)).setNewP (j := 6) (v := .slice (some ⟨w7.heap.size, 0, none⟩) 2 2) (hb7.later hal).lo.1)
              have HE8 : Hid (EnvP ((w7.alloc (.cells #[ptr t.b, ptr y.b] 56)).setCell ⟨b, 6, none⟩ (.slice (some ⟨w7.heap.size, 0, none⟩) 2 2))) := EnvP.putB (t := TA.node b o (pa : Nat) [] none [] [] []) ((HE6.out.farP HP6.out hf7).later hal) (hb7.later hal)
              have hbs : w.heap.size + 1 < b := by have := HBN.out; have := HS4.out; omega
              have hrk : ∀ (x : Nat) (u : Obj), w6.heap[x]? = some u → x ≠ b → x ≠ p → ((w7.alloc (.cells #[ptr t.b, ptr y.b] 56)).setCell ⟨b, 6, none⟩ (.slice (some ⟨w7.heap.size, 0, none⟩) 2 2)).heap[x]? = some u := fun x u hu h1 h2 => by
                refine (Below.heap_setCell _ _ _ _ (by show x ≠ b; exact h1)).trans ?_
                have hu7 := (hf7.block x (Array.getElem?_eq_some_iff.1 hu).1 (fun e => h2 (Option.some.inj e))).trans hu
                exact (hal.block x (Array.getElem?_eq_some_iff.1 hu7).1).trans hu7
              have HR80 : Hid (((w7.alloc (.cells #[ptr t.b, ptr y.b] 56)).setCell ⟨b, 6, none⟩ (.slice (some ⟨w7.heap.size, 0, none⟩) 2 2)).heap[w.heap.size]? = some (.cells signRow 184 (0, 0))) := hrk _ _ HR60.out (by omega) (by have := HPL.out; omega)
              have HR81 : Hid (((w7.alloc (.cells #[ptr t.b, ptr y.b] 56)).setCell ⟨b, 6, none⟩ (.slice (some ⟨w7.heap.size, 0, none⟩) 2 2)).heap[w.heap.size + 1]? = some (.cells opsRow 185 (0, 0))) := hrk _ _ HR61.out (by omega) (by have := HPL.out; omega)
              clear hm hp7 hv7 hf7 hy hyz hb7 hx7 hy7 hnod hal hn7 hrk hbs
              go_wp2_with fail
              go_roundg (m + 1)
              case measure => omega
              case rel => exact ⟨m, TA.node b o (pa : Nat) [] none [] [] [t, y], a7, c7, rfl, by omega, rfl, by omega, by show _ = _; simp only [TA.zero, TA.zeros]; exact HM7.out, HP8.out, HFIN.out, HF8.out, HE8.out, HR80.out, HR81.out⟩
        · have hgo2 := hgo.out
          rw [PR.chGo, if_neg hsg] at hgo2
          have hsg' : PR.isT (T.drop a2) 2 [PR.sgn l] = false := by simpa using hsg
          rw [hsg'] at HIS
          have HO := Lib.hid hgo2.symm
          clear hgo2 hgo hsg hsg'
          generalize PR.sgn l = sg at *
          go_wp2_with fail
          refine (HIS.out _ (Below.refl _ _)).mono ?_
          rintro e w3 ⟨rfl, hb3⟩
          have HP3 := Lib.hid (HP2.out.later hb3)
          have HT3 := Lib.hid (HT2.out.later hb3)
          have HF3 := Lib.hid (HF2.out.trans (Far.below hb3))
          clear hb3 HIS
          go_wp2_with fail
          go_ret
          rw [HO.out]
          exact ⟨HF3.out, _, a2, rfl, ha2, rfl, HP3.out, HT3.out.v⟩
/-- a chain of terms, from so many levels on, at any depth -/
theorem prChain_lev (hF : TFine T) (k : Nat) (hk : d + k = 60) (rec : List LT → Nat → PR.Res TA) (hrec : d < 60 → RecC p T g cap d rec) : ∀ (m : Nat), m ≤ 3 → ∀ W a c, PrAt W p T g cap a d c → EnvP W →
    Calls Tryz.prog 115 #[ptr p, .int .i64 ((3 - m : Nat) : Int)] W (PqPost p T g cap a d W (TmV W) (PR.chN k rec m (T.drop a) c)) := by
  intro m
  induction m with
  | zero =>
    intro _ W a c h hE
    have HST := Lib.hid (prStar_any h hF hE k hk rec hrec)
    show Calls Tryz.prog 115 #[ptr p, .int .i64 3] W (PqPost p T g cap a d W (TmV W) (PR.star k rec (T.drop a) c))
    generalize PR.star k rec (T.drop a) c = OUT at *
    clear h hF hE hrec
    go_enter Tryz.func115, Tryz.ntmps115
    go_wp2_with fail
    refine HST.out.mono ?_
    rintro e w9 ⟨hf9, hres⟩
    cases OUT with
    | bad en x =>
      have hres : e = faultV en x := hres
      subst hres
      exact ⟨rfl, hf9, rfl⟩
    | ok x9 ts9 c9 =>
      obtain ⟨v9, a9, rfl, hrest⟩ := hres
      go_wp2_with fail
      go_ret
      exact ⟨hf9, _, a9, rfl, hrest⟩
  | succ m ih =>
    intro hm W a c h hE
    refine prChain_step (d := d) hF k hk (PR.chN k rec m) (3 - (m + 1)) (by omega) (fun W a c h hE => ?_) h hE |>.mono ?_
    · have := ih (by omega) W a c h hE
      rw [show ((3 - m : Nat) : Int) = ((3 - (m + 1) : Nat) : Int) + 1 by omega] at this
      exact this
    · intro e w' h
      have e1 : 3 - (m + 1) = 2 - m := by omega
      rw [e1] at h
      exact h
theorem prChain_any (hF : TFine T) : ∀ (k d : Nat), d + k = 60 → ∀ W a c, PrAt W p T g cap a d c → EnvP W → Calls Tryz.prog 115 #[ptr p, .int .i64 0] W (PqPost p T g cap a d W (TmV W) (PR.chain k (T.drop a) c)) := by
  intro k
  induction k with
  | zero =>
    intro d hd W a c h hE
    exact prChain_lev hF 0 hd _ (fun hh => by omega) 3 (by omega) W a c h hE
  | succ k ih =>
    intro d hd W a c h hE
    exact prChain_lev hF (k + 1) hd (PR.chain k) (fun _ W a c h hE => ih (d + 1) (by omega) W a c h hE) 3 (by omega) W a c h hE
end Go.Proofs.YticpjjmacmmpjaaGreatDoor
