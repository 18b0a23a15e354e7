/-
  Terms with signs between: walked through the program. parse.Read at every text: walked through the program. ParseErrors, plain: texts that can't go on, and where that is; the document's example. The parser's law: the head; ParseLexed: walked through the program. Terms as plans: how many parts a plan has, walked through the program. Terms made of plans, walked through the program: whatever plan. Terms as they are written, whatever terms; their size; a nil term. Texts made of tokens, one behind the other, with gaps between: what the lexer makes of them, plain.
-/
import Derived.Defers
import Derived.Recover
import Derived.Test.YtgamknphlmcgnaaGreatDoorRows
import Derived.Deep.Slices
import Derived.Deep.Fields
import Derived.ChangeSame
import Derived.ChangeArms
import Derived.DataReads
import Derived.WalkKit
import Derived.Below
import Derived.Test.YtgamknphlmcgnaaGreatDoorZlA
import Derived.Test.YtgamknphlmcgnaaGreatDoorZlB
import Derived.Test.YtgamknphlmcgnaaGreatDoorZlC
import Derived.Test.YtgamknphlmcgnaaGreatDoorZlD
import Derived.Test.YtgamknphlmcgnaaGreatDoorZlE
import Derived.Test.YtgamknphlmcgnaaGreatDoorZlF
import Derived.Test.YtgamknphlmcgnaaGreatDoorZlG
import Derived.Test.YtgamknphlmcgnaaGreatDoorZlH
import Derived.Test.YtgamknphlmcgnaaGreatDoorZlI
import Derived.Test.YtgamknphlmcgnaaGreatDoorZlJ
import Derived.Test.YtgamknphlmcgnaaGreatDoorZlK
section
set_option linter.unusedSimpArgs false
set_option linter.unusedVariables false
set_option maxRecDepth 100000
set_option linter.unnecessarySimpa false
namespace Go.Proofs.YtgamknphlmcgnaaGreatDoor
open Go.RowKit
variable {w w' : World} {p g cap a d c : Nat} {T : List LT}
set_option maxRecDepth 100000 in
set_option maxHeartbeats 4000000 in
theorem prAtom_any (h : PrAt w p T g cap a d c) (hF : TFine T) (hE : EnvP w) (k : Nat) (hk : d + k = 60) (rec : List LT → Nat → PR.Res TA) (hrec : d < 60 → RecC p T g cap d rec) :
    Calls Tryz.prog 168 #[ptr p] w (PqPost p T g cap a d w (TmV w) (PR.atom k rec (T.drop a) c)) := by
  have HH := Lib.hid h
  have HFN := Lib.hid hF
  have HEN := Lib.hid hE
  have HREC := Lib.hid hrec
  have HN := Lib.hid (prNext_any h)
  have HPL := Lib.hid h.plt
  have HGL := Lib.hid h.glt
  have HA : Hid (PR.atom k rec (T.drop a) c = if (T.getD a lt0).kind = 1 then PR.word k rec (T.drop a) c
      else if (T.getD a lt0).kind = 4 then (PR.cnt (T.getD a lt0).at_ (T.drop a) c).bind fun _ ts1 c => (PR.expr ts1 c).bind fun r ts2 c => .ok (TA.node 0 1 ((T.getD a lt0).at_ : Nat) [] r [] [] []) ts2 c
      else if PR.isT (T.drop a) 2 [40] = true then (PR.opn k (T.drop a) c).bind fun _ ts c => (rec ts c).bind fun x ts c => (PR.want [41] ts c).bind fun _ ts c => .ok x ts c
      else .bad 2 (T.getD a lt0).at_) := by
    show _ = _; unfold PR.atom PR.form; rw [hd_drop h.lt]
  have HWD := Lib.hid (fun po (hk1 : (T.getD a lt0).kind = 1) W (hb : Below w.heap.size w W) => prWord_any (h.later hb) hF (hE.later hb) k hk rec hrec po hk1)
  obtain ⟨OUT, hOUT⟩ : ∃ OUT, PR.atom k rec (T.drop a) c = OUT := ⟨_, rfl⟩
  rw [hOUT]
  rw [HA.out] at hOUT
  clear h hF hE hrec HA
  generalize ht : T.getD a lt0 = t at *
  have HT := Lib.hid ht
  clear ht
  obtain ⟨kd, tx, ro, pa⟩ := t
  simp only at hOUT HWD
  have hfd0 := tk_f0; have hfd1 := tk_f1; have hfd2 := tk_f2; have hfd3 := tk_f3
  by_cases hk1 : kd = 1
  · rw [if_pos hk1] at hOUT
    have HMM := Lib.hid hOUT
    have HW1 := Lib.hid (fun po W hb => HWD.out po hk1 W hb)
    have e1 : (((kd : Nat) : Int) == 1) = true := by rw [hk1]; rfl
    clear hOUT hk1 HWD
    generalize hTX : (⟨tx.toArray⟩ : ByteArray) = TX at *
    have HTX := Lib.hid hTX
    clear hTX
    go_enter Tryz.func168, Tryz.ntmps168
    go_wp2_with fail
    refine HN.out.mono ?_
    rintro e w1 ⟨po, rfl, _, hb1⟩
    simp only [tkV, HTX.out]
    have HB2 := Lib.hid (ext_alloc hb1 (.cells #[.int .i64 (kd : Nat), .string TX, .pointer po, .int .i64 (pa : Nat)] 47))
    have HF3 := Lib.hid (Far.below (p := p) HB2.out)
    have HWX := Lib.hid (HW1.out po _ HB2.out)
    simp only [tkV, HTX.out] at HWX
    clear hb1 HW1
    go_wp2_with fail
    refine (HWX.out).mono ?_
    intro e w9 hr9
    have hr9 := hr9.from (a := a) HF3.out (Nat.le_refl a)
    rw [HMM.out] at hr9
    obtain ⟨hf9, hres⟩ := hr9
    cases OUT with
    | bad en x =>
      have hres : e = faultV en x := hres
      subst hres
      exact ⟨rfl, hf9, rfl⟩
    | ok x9 ts9 c9 =>
      obtain ⟨v9, a9, rfl, hrest⟩ := hres
      go_wp2_with fail
      go_ret
      exact ⟨hf9, _, a9, rfl, hrest⟩
  · rw [if_neg hk1] at hOUT
    have e1 : (((kd : Nat) : Int) == 1) = false := by rw [beq_eq_false_iff_ne]; omega
    clear HWD hk1
    by_cases hk4 : kd = 4
    · rw [if_pos hk4] at hOUT
      have HM := Lib.hid hOUT
      have e4 : (((kd : Nat) : Int) == 4) = true := by rw [hk4]; rfl
      clear hOUT hk4
      generalize hTX : (⟨tx.toArray⟩ : ByteArray) = TX at *
      have HTX := Lib.hid hTX
      clear hTX
      go_enter Tryz.func168, Tryz.ntmps168
      go_wp2_with fail
      refine HN.out.mono ?_
      rintro e w1 ⟨po, rfl, _, hb1⟩
      simp only [tkV, HTX.out]
      have hb2 := ext_alloc hb1 (.cells #[.int .i64 (kd : Nat), .string TX, .pointer po, .int .i64 (pa : Nat)] 47)
      have HP2 := Lib.hid (HH.out.later hb2)
      have HE2 := Lib.hid (HEN.out.later hb2)
      have HNW := Lib.hid (prNew2_any HP2.out w (Far.below hb2) 1 pa (by omega))
      clear hb1 hb2
      go_wp2_with fail
      refine HNW.out.mono ?_
      rintro e w3 ⟨hf32, hf3, hr3⟩
      generalize PR.cnt pa (T.drop a) c = R3 at hr3 HM
      cases R3 with
      | bad en x =>
        have hr3 : e = faultV en x := hr3
        subst hr3
        have ho : OUT = .bad en x := HM.out.symm
        exact ⟨rfl, by rw [ho]; exact ⟨hf3, rfl⟩⟩
      | ok u ts3 c3 =>
        obtain ⟨b, rfl, rfl, hp3, ht3⟩ := hr3
        have hm := HM.out
        simp only [PR.bind_ok] at hm
        replace HM := Lib.hid hm
        have HP3 := Lib.hid hp3
        have HT3 := Lib.hid ht3
        have HF3 := Lib.hid hf3
        have HE3 := Lib.hid (HE2.out.farP HP2.out hf32)
        clear hm hp3 ht3 hf3 hf32
        go_wp2_with fail
        refine (prExpr_any HP3.out HFN.out HE3.out.tab).mono ?_
        rintro e w4 ⟨hf4, hr4⟩
        generalize PR.expr (T.drop a) c3 = R4 at hr4 HM
        cases R4 with
        | bad en x =>
          have hr4 : e = faultV en x := hr4
          subst hr4
          have ho : OUT = .bad en x := HM.out.symm
          exact ⟨rfl, by rw [ho]; exact ⟨HF3.out.trans hf4, rfl⟩⟩
        | ok r ts4 c4 =>
          obtain ⟨v, a4, rfl, ha4, rfl, hp4, hv⟩ := hr4
          obtain ⟨pv, rfl⟩ := reO_ptr hv
          have hm := HM.out
          simp only [PR.bind_ok] at hm
          have ho : OUT = _ := hm.symm
          have HO := Lib.hid ho
          have ht4 := HT3.out.farP HP3.out hf4
          obtain ⟨⟨rv, kp, cp, hn⟩, _⟩ := ht4.is.open
          have c3' : w4.cell? ⟨b, 3, none⟩ = some rv := hn.cells.2.2.2.1
          have fz : w4.frozen? ⟨b, 3, none⟩ = false := frozen_of_row _ _ 3 _ _ hn.1
          have HT5 := Lib.hid (ht4.put 3 (.pointer pv) (r' := r) (fun _ => .pointer pv) (fun _ _ => rfl) (fun _ _ => hv))
          have HP5 := Lib.hid (hp4.putB (t := TA.node b 1 (pa : Nat) [] none [] [] []) (j := 3) (v := .pointer pv) ht4 HGL.out)
          have HF5 := Lib.hid ((HF3.out.trans hf4).setNewP (j := 3) (v := .pointer pv) ht4.lo.1)
          clear hm ho hn ht4 hp4 hf4 hv
          go_wp2_with fail
          go_ret
          rw [HO.out]
          exact ⟨HF5.out, _, a4, rfl, ha4, rfl, HP5.out, HT5.out.v⟩
    · rw [if_neg hk4] at hOUT
      have e4 : (((kd : Nat) : Int) == 4) = false := by rw [beq_eq_false_iff_ne]; omega
      clear hk4
      generalize hTX : (⟨tx.toArray⟩ : ByteArray) = TX at *
      have HTX := Lib.hid hTX
      clear hTX
      by_cases hsg : PR.isT (T.drop a) 2 [40] = true
      · rw [if_pos hsg] at hOUT
        have HM := Lib.hid hOUT
        clear hOUT
        go_enter Tryz.func168, Tryz.ntmps168
        go_wp2_with fail
        refine HN.out.mono ?_
        rintro e w1 ⟨po, rfl, _, hb1⟩
        simp only [tkV, HTX.out]
        have hb2 := ext_alloc hb1 (.cells #[.int .i64 (kd : Nat), .string TX, .pointer po, .int .i64 (pa : Nat)] 47)
        have HP2 := Lib.hid (HH.out.later hb2)
        have HE2 := Lib.hid (HEN.out.later hb2)
        have HB2 := Lib.hid hb2
        have HIS := Lib.hid (prIs_any HP2.out 2 [40])
        rw [hsg] at HIS
        clear hb1 hb2 hsg
        go_wp2_with fail
        refine HIS.out.mono ?_
        rintro e w3 ⟨rfl, hb3⟩
        have HP3 := Lib.hid (HP2.out.later hb3)
        have HE3 := Lib.hid (HE2.out.later hb3)
        have HB3 := Lib.hid (ext_step HB2.out hb3)
        clear hb3
        go_wp2_with fail
        refine (prOpen_any HP3.out HFN.out k hk).mono ?_
        rintro e w4 ⟨hf4, hr4⟩
        by_cases hd : d < 60
        · generalize PR.opn k (T.drop a) c = R4 at hr4 HM
          cases R4 with
          | bad en x =>
            have hr4 : e = faultV en x := hr4
            subst hr4
            have ho : OUT = .bad en x := HM.out.symm
            exact ⟨rfl, by rw [ho]; exact ⟨(Far.below HB3.out).trans hf4, rfl⟩⟩
          | ok v4 ts4 c4 =>
            have hm := HM.out
            simp only [PR.bind_ok] at hm
            replace HM := Lib.hid hm
            obtain ⟨_, a4, rfl, ha4, rfl, hp4, rfl⟩ := hr4
            have HP4 := Lib.hid hp4
            have HE4 := Lib.hid (HE3.out.farP HP3.out hf4)
            have HF4 := Lib.hid ((Far.below HB3.out).trans hf4)
            have HRC := Lib.hid (HREC.out hd _ _ _ HP4.out HE4.out)
            clear hm hp4 hf4
            go_wp2_with fail
            refine HRC.out.mono ?_
            rintro e w5 ⟨hf5, hr5⟩
            generalize rec (T.drop a4) c4 = R5 at hr5 HM
            cases R5 with
            | bad en x =>
              have hr5 : e = faultV en x := hr5
              subst hr5
              have ho : OUT = .bad en x := HM.out.symm
              exact ⟨rfl, by rw [ho]; exact ⟨HF4.out.trans hf5, rfl⟩⟩
            | ok x5 ts5 c5 =>
              have hm := HM.out
              simp only [PR.bind_ok] at hm
              replace HM := Lib.hid hm
              obtain ⟨_, a5, rfl, ha5, rfl, hp5, hv5⟩ := hr5
              obtain ⟨y, rfl, hy, hyz⟩ := hv5.open
              have HP5 := Lib.hid hp5
              have HF5 := Lib.hid (HF4.out.trans hf5)
              have HY5 := Lib.hid (hy.up (w0 := w) HF4.out.size)
              have HYZ := Lib.hid hyz
              clear hm hp5 hf5 hv5 hy hyz HRC
              go_wp2_with fail
              refine (prShut_any HP5.out HFN.out).mono ?_
              rintro e w6 ⟨hf6, hr6⟩
              generalize PR.want [41] (T.drop a5) c5 = R6 at hr6 HM
              cases R6 with
              | bad en x =>
                have hr6 : e = faultV en x := hr6
                subst hr6
                have ho : OUT = .bad en x := HM.out.symm
                exact ⟨rfl, by rw [ho]; exact ⟨HF5.out.trans hf6, rfl⟩⟩
              | ok v6 ts6 c6 =>
                have hm := HM.out
                simp only [PR.bind_ok] at hm
                obtain ⟨_, a6, rfl, ha6, rfl, hp6, rfl⟩ := hr6
                have ho : OUT = _ := hm.symm
                have HO := Lib.hid ho
                have HP6 := Lib.hid hp6
                have HY6 := Lib.hid (HY5.out.farP HP5.out hf6)
                have HF6 := Lib.hid (HF5.out.trans hf6)
                clear hm hp6 hf6 ho
                go_wp2_with fail
                go_ret
                rw [HO.out]
                exact ⟨HF6.out, _, a6, rfl, by omega, rfl, HP6.out, by rw [← HYZ.out]; exact HY6.out.v⟩
        · obtain ⟨en, x, hb⟩ := opn_bad (show k = 0 by omega) (T.drop a) c
          rw [hb] at hr4
          have hm := HM.out
          rw [hb] at hm
          have hr4 : e = faultV en x := hr4
          subst hr4
          have ho : OUT = .bad en x := hm.symm
          exact ⟨rfl, by rw [ho]; exact ⟨(Far.below HB3.out).trans hf4, rfl⟩⟩
      · rw [if_neg hsg] at hOUT
        have HO := Lib.hid hOUT.symm
        have hsg' : PR.isT (T.drop a) 2 [40] = false := by simpa using hsg
        clear hOUT hsg
        go_enter Tryz.func168, Tryz.ntmps168
        go_wp2_with fail
        refine HN.out.mono ?_
        rintro e w1 ⟨po, rfl, _, hb1⟩
        simp only [tkV, HTX.out]
        have hb2 := ext_alloc hb1 (.cells #[.int .i64 (kd : Nat), .string TX, .pointer po, .int .i64 (pa : Nat)] 47)
        have HP2 := Lib.hid (HH.out.later hb2)
        have HB2 := Lib.hid hb2
        have HIS := Lib.hid (prIs_any HP2.out 2 [40])
        rw [hsg'] at HIS
        clear hb1 hb2 hsg'
        go_wp2_with fail
        refine HIS.out.mono ?_
        rintro e w3 ⟨rfl, hb3⟩
        have HP3 := Lib.hid (HP2.out.later hb3)
        have HB3 := Lib.hid (ext_step HB2.out hb3)
        have HFO := Lib.hid (prForm_any HP3.out)
        rw [HT.out] at HFO
        clear hb3
        go_wp2_with fail
        refine HFO.out.mono ?_
        rintro e w4 ⟨rfl, hb4⟩
        exact ⟨rfl, by rw [HO.out]; exact ⟨Far.below (ext_step HB3.out hb4), rfl⟩⟩
end Go.Proofs.YtgamknphlmcgnaaGreatDoor
namespace Go.Proofs.YtgamknphlmcgnaaGreatDoor
open Go.RowKit
variable {w w' : World} {p g cap a d c : Nat} {T : List LT}
theorem isT_ne {h : a < T.length} {s : List UInt8} (hh : PR.isT (T.drop a) 2 s = true) : (T.getD a lt0).kind ≠ 0 := by
  have := (isT_kind hh).1
  rw [hd_drop h] at this
  omega
/-- what a term over one leaves -/
def StarPost (p : Nat) (T : List LT) (g cap a d : Nat) (w0 : World) (q : Nat) (t : TA) (R : PR.Res Unit) (e : Ending) (w' : World) : Prop := Far p w0 w' ∧ match R with
    | .ok _ ts c' => ∃ t' : TA, e = .returned (ptr t'.b) ∧ ts = T.drop a ∧ PrAt w' p T g cap a d c' ∧ TmB w0 w' t' ∧ t'.zero = TA.node 0 9 (q : Nat) [] none [] [] [t.zero]
    | .bad en x => e = faultV en x
theorem prTerm1_any (h : PrAt w p T g cap a d c) (w0 : World) (hf0 : Far p w0 w) (hg0 : g < w0.heap.size) (G : Nat) (t : TA) (hG : w.heap[G]? = some (.cells #[ptr t.b] 62 (0, 0))) (ht : TmB w0 w t) (q : Nat) : Calls Tryz.prog 143 #[ptr p, .int .i64 9, .int .i64 (q : Nat), .slice (some ⟨G, 0, none⟩) 1 1] w (StarPost p T g cap a d w0 q t (PR.cnt q (T.drop a) c)) :=
  prTerm1 h w0 hf0.size hf0 hg0 G t hG ht q
def StarLp (p : Nat) (T : List LT) (g cap a0 d : Nat) (w : World) (OUT : PR.Res TA) (f : Nat) (v : Value) (wr : World) : Prop :=
  ∃ (n : Nat) (t : TA) (a c : Nat), f = n + 1 ∧ T.length - a ≤ n ∧ v = ptr t.b ∧ a0 ≤ a ∧ Hid (PR.starGo n t.zero (T.drop a) c = OUT) ∧ Hid (PrAt wr p T g cap a d c) ∧ Hid (TmB w wr t) ∧ Hid (Far p w wr)
set_option maxRecDepth 100000 in
set_option maxHeartbeats 4000000 in
theorem prStar_any (h : PrAt w p T g cap a d c) (hF : TFine T) (hE : EnvP w) (k : Nat) (hk : d + k = 60) (rec : List LT → Nat → PR.Res TA) (hrec : d < 60 → RecC p T g cap d rec) :
    Calls Tryz.prog 142 #[ptr p] w (PqPost p T g cap a d w (TmV w) (PR.star k rec (T.drop a) c)) := by
  have HFN := Lib.hid hF
  have HAT := Lib.hid (prAtom_any h hF hE k hk rec hrec)
  have HGL := Lib.hid h.glt
  have HS : Hid (PR.star k rec (T.drop a) c = (PR.atom k rec (T.drop a) c).bind fun t ts c => PR.starGo ts.length t ts c) := rfl
  obtain ⟨OUT, hOUT⟩ : ∃ OUT, PR.star k rec (T.drop a) c = OUT := ⟨_, rfl⟩
  rw [hOUT]
  rw [HS.out] at hOUT
  have HM := Lib.hid hOUT
  clear h hF hE hrec HS hOUT
  have hfd0 := tk_f0; have hfd1 := tk_f1; have hfd2 := tk_f2; have hfd3 := tk_f3
  go_enter Tryz.func142, Tryz.ntmps142
  go_wp2_with fail
  refine HAT.out.mono ?_
  rintro e w1 ⟨hf1, hr1⟩
  generalize PR.atom k rec (T.drop a) c = R1 at hr1 HM
  cases R1 with
  | bad en x =>
    have hr1 : e = faultV en x := hr1
    subst hr1
    have ho : OUT = .bad en x := HM.out.symm
    exact ⟨rfl, by rw [ho]; exact ⟨hf1, rfl⟩⟩
  | ok x1 ts1 c1 =>
    have hm := HM.out
    simp only [PR.bind_ok] at hm
    obtain ⟨_, a1, rfl, ha1, rfl, hp1, hv1⟩ := hr1
    obtain ⟨t1, rfl, ht1, hz1⟩ := hv1.open
    rw [← hz1] at hm
    replace HM := Lib.hid hm
    have HP1 := Lib.hid hp1
    have HT1 := Lib.hid ht1
    have HF1 := Lib.hid hf1
    clear hm hp1 hv1 hf1 HAT
    go_wp2_with fail
    go_loopg [3] ((T.drop a1).length + 1) (fun f v wr => StarLp p T g cap a d w OUT f v wr)
    case atStart => exact ⟨(T.drop a1).length, t1, a1, c1, rfl, by simp, rfl, ha1, HM.out, HP1.out, HT1.out, HF1.out⟩
    case round =>
      clear HM HP1 HT1 HF1 ht1 ha1 hz1
      obtain ⟨n, t, a2, c2, hgk, hn, rfl, ha2, hgo, HP2, HT2, HF2⟩ := hrel
      cases gk with
      | zero => omega
      | succ f =>
        obtain rfl : n = f := by omega
        have hl2 := HP2.out.lt
        obtain ⟨m, rfl⟩ : ∃ m, n = m + 1 := ⟨n - 1, by omega⟩
        have HIS := Lib.hid (prIs_any HP2.out 2 [42])
        by_cases hsg : PR.isT (T.drop a2) 2 [42] = true
        · have hgo2 := hgo.out
          rw [PR.starGo, if_pos hsg, stp_drop hl2 (isT_ne (h := hl2) hsg), hd_drop hl2] at hgo2
          have HM := Lib.hid hgo2
          have HST := Lib.hid (fun W (hb : Below wr.heap.size wr W) => prStep_any (HP2.out.later hb) HFN.out (isT_ne (h := hl2) hsg))
          rw [hsg] at HIS
          clear hgo2 hgo hsg
          generalize T.getD a2 lt0 = tk at *
          obtain ⟨kd, tx, ro, pa⟩ := tk
          simp only at HM
          go_wp2_with fail
          refine HIS.out.mono ?_
          rintro e w3 ⟨rfl, hb3⟩
          go_wp2_with fail
          refine (HST.out _ hb3).mono ?_
          rintro e w4 ⟨po4, rfl, _, hp4, hf4⟩
          simp only [tkV]
          have hx5 := re_alloc w4 (.cells #[ptr t.b] 62)
          have ht4 := (HT2.out.later hb3).farP (HP2.out.later hb3) hf4
          have hf5 := ((HF2.out.trans (Far.below hb3)).trans hf4).trans (Far.below hx5)
          have HTE := Lib.hid (prTerm1_any (hp4.later hx5) w hf5 HGL.out w4.heap.size t (heap_alloc_last w4 _) (ht4.later hx5) pa)
          clear hb3 hx5 ht4 hf5 hp4 hf4 HIS HST
          go_wp2_with fail
          refine HTE.out.mono ?_
          rintro e w6 ⟨hf6, hr6⟩
          generalize PR.cnt pa (T.drop (a2 + 1)) c2 = R6 at hr6 HM
          cases R6 with
          | bad en x =>
            have hr6 : e = faultV en x := hr6
            subst hr6
            have ho : OUT = .bad en x := HM.out.symm
            exact ⟨rfl, by rw [ho]; exact ⟨hf6, rfl⟩⟩
          | ok u ts6 c6 =>
            obtain ⟨t', rfl, rfl, hp6, ht6, hz6⟩ := hr6
            have hm := HM.out
            simp only [PR.bind_ok] at hm
            rw [← hz6] at hm
            have HM6 := Lib.hid hm
            have HP6 := Lib.hid hp6
            have HT6 := Lib.hid ht6
            have HF6 := Lib.hid hf6
            clear hm hp6 ht6 hf6 HTE
            go_wp2_with fail
            go_roundg (m + 1)
            case measure => omega
            case rel => exact ⟨m, t', a2 + 1, c6, rfl, by omega, rfl, by omega, HM6.out, HP6.out, HT6.out, HF6.out⟩
        · have hgo2 := hgo.out
          rw [PR.starGo, if_neg hsg] at hgo2
          have hsg' : PR.isT (T.drop a2) 2 [42] = false := by simpa using hsg
          rw [hsg'] at HIS
          have HO := Lib.hid hgo2.symm
          clear hgo2 hgo hsg hsg'
          go_wp2_with fail
          refine HIS.out.mono ?_
          rintro e w3 ⟨rfl, hb3⟩
          have HP3 := Lib.hid (HP2.out.later hb3)
          have HT3 := Lib.hid (HT2.out.later hb3)
          have HF3 := Lib.hid (HF2.out.trans (Far.below hb3))
          clear hb3 HIS
          go_wp2_with fail
          go_ret
          rw [HO.out]
          exact ⟨HF3.out, _, a2, rfl, ha2, rfl, HP3.out, HT3.out.v⟩
end Go.Proofs.YtgamknphlmcgnaaGreatDoor
namespace Go.Proofs.YtgamknphlmcgnaaGreatDoor
open Go.RowKit
variable {w w' : World} {p g cap a d c : Nat} {T : List LT}
abbrev signRow : Array Value := #[.string ⟨#[124]⟩, .string ⟨#[46]⟩, .string ⟨#[59]⟩]
abbrev opsRow : Array Value := #[.int .i64 7, .int .i64 8, .int .i64 11]
theorem TmB.kids2 {w0 W : World} {b o q : Nat} {x y : TA} (h : TmB w0 W (TA.node b o q [] none [] [] [])) (hx : TmB w0 W x) (hy : TmB w0 W y) (hn : (b :: (x.blocks ++ y.blocks)).Nodup) :
    TmB w0 ((W.alloc (.cells #[ptr x.b, ptr y.b] 62)).setCell ⟨b, 6, none⟩ (.slice (some ⟨W.heap.size, 0, none⟩) 2 2)) (TA.node b o q [] none [] [] [x, y]) := by
  have hk : KidsV (W.alloc (.cells #[ptr x.b, ptr y.b] 62)) (.slice (some ⟨W.heap.size, 0, none⟩) 2 2) [x, y] (some W.heap.size) := KidsV.lit W [x, y] (by simp [maxLen])
  have hb := re_alloc W (.cells #[ptr x.b, ptr y.b] 62)
  refine (h.later hb).kids hk (fun z hz => ?_) (by simpa [TA.blockss] using hn)
  simp only [List.mem_cons, List.not_mem_nil, or_false] at hz
  rcases hz with rfl | rfl
  · exact hx.later hb
  · exact hy.later hb
theorem EnvP.putB {w0 W : World} {t : TA} {j : Nat} {v : Value} (h : EnvP W) (ht : TmB w0 W t) : EnvP (W.setCell ⟨t.b, j, none⟩ v) := by
  obtain ⟨⟨rv, kp, cp, hn⟩, _⟩ := ht.is.open
  have hcb := hn.cells.1
  have key : ∀ (x i : Nat) (u u0 : Value), W.cell? ⟨x, i, none⟩ = some u → W.cell? ⟨x, 0, none⟩ = some u0 → u0 ≠ .int .i64 (t.op : Nat) → (W.setCell ⟨t.b, j, none⟩ v).cell? ⟨x, i, none⟩ = some u := fun x i u u0 hu hu0 hne => by
    refine (World.cell?_of_block (w := W) (w' := W.setCell ⟨t.b, j, none⟩ v) (a := ⟨x, i, none⟩) (Below.heap_setCell _ _ _ _ (fun e => ?_))).trans hu
    have e : x = t.b := e
    rw [e, hcb] at hu0
    exact hne (Option.some.inj hu0).symm
  exact ⟨fun i hi => key _ i _ _ (h.tab i hi) (h.tab 0 (by omega)) (fun e => by cases e), fun i hi => key _ i _ _ (h.wo i hi) (h.wo 0 (by omega)) (fun e => by cases e)⟩
theorem prNew3_any {w : World} (h : PrAt w p T g cap a d c) (w0 : World) (hf0 : Far p w0 w) (o q : Nat) (ho : o < 20) : Calls Tryz.prog 143 #[ptr p, .int .i64 (o : Nat), .int .i64 (q : Nat), .slice none 0 0] w fun e w' => Far p w w' ∧ (∀ b, e = .returned (ptr b) → w.heap.size ≤ b) ∧ NewPost p T g cap a d w0 o q (PR.cnt q (T.drop a) c) e w' := by
  refine (prNew_any h w (Far.refl p w) o q ho).mono ?_
  rintro e w' ⟨hf, hr⟩
  generalize PR.cnt q (T.drop a) c = R at *
  cases R with
  | bad en x =>
    have hr : e = faultV en x := hr
    subst hr
    exact ⟨hf, fun b hb => (by cases hb), hf0.trans hf, rfl⟩
  | ok u ts c' =>
    obtain ⟨b, rfl, h2, h3, h4⟩ := hr
    refine ⟨hf, fun b' hb' => ?_, hf0.trans hf, b, rfl, h2, h3, h4.up hf0.size⟩
    injection hb' with hb'
    injection hb' with hb'
    injection hb' with hb'
    injection hb' with hb'
    rw [← hb']; exact h4.lo.1
def ChLoop (p : Nat) (T : List LT) (g cap a0 d : Nat) (w : World) (sg : UInt8) (o : Nat) (nx : List LT → Nat → PR.Res TA) (OUT : PR.Res TA) (f : Nat) (v : Value) (wr : World) : Prop :=
  ∃ (n : Nat) (t : TA) (a c : Nat), f = n + 1 ∧ T.length - a ≤ n ∧ v = ptr t.b ∧ a0 ≤ a ∧ Hid (PR.chGo sg o nx n t.zero (T.drop a) c = OUT) ∧ Hid (PrAt wr p T g cap a d c) ∧ Hid (TmB w wr t) ∧ Hid (Far p w wr) ∧ Hid (EnvP wr) ∧
    Hid (wr.heap[w.heap.size]? = some (.cells signRow 194 (0, 0))) ∧ Hid (wr.heap[w.heap.size + 1]? = some (.cells opsRow 195 (0, 0)))
set_option maxRecDepth 100000 in
set_option maxHeartbeats 4000000 in
theorem prChain_step (hF : TFine T) (k : Nat) (hk : d + k = 60) (nx : List LT → Nat → PR.Res TA) (l : Nat) (hl : l < 3)
    (hnx : ∀ W a c, PrAt W p T g cap a d c → EnvP W → Calls Tryz.prog 104 #[ptr p, .int .i64 ((l : Int) + 1)] W (PqPost p T g cap a d W (TmV W) (nx (T.drop a) c)))
    (h : PrAt w p T g cap a d c) (hE : EnvP w) :
    Calls Tryz.prog 104 #[ptr p, .int .i64 (l : Nat)] w (PqPost p T g cap a d w (TmV w) (PR.chL (PR.sgn l) (PR.opc l) nx (T.drop a) c)) := by
  have HFN := Lib.hid hF
  have HNX := Lib.hid hnx
  have HGL := Lib.hid h.glt
  have HPL := Lib.hid h.plt
  have HS : Hid (PR.chL (PR.sgn l) (PR.opc l) nx (T.drop a) c = (nx (T.drop a) c).bind fun t ts c => PR.chGo (PR.sgn l) (PR.opc l) nx ts.length t ts c) := rfl
  obtain ⟨OUT, hOUT⟩ : ∃ OUT, PR.chL (PR.sgn l) (PR.opc l) nx (T.drop a) c = OUT := ⟨_, rfl⟩
  rw [hOUT]
  rw [HS.out] at hOUT
  have HM := Lib.hid hOUT
  have hl3 : ((l : Int) == 3) = false := by rw [beq_eq_false_iff_ne]; omega
  have hx : Below w.heap.size w ((w.alloc (.cells signRow 194)).alloc (.cells opsRow 195)) := ext_alloc (re_alloc w _) _
  have HP1 := Lib.hid (h.later hx)
  have HE1 := Lib.hid (hE.later hx)
  have HX := Lib.hid hx
  clear h hF hE hOUT hnx hx HS
  have hfd0 := tk_f0; have hfd1 := tk_f1; have hfd2 := tk_f2; have hfd3 := tk_f3
  go_enter Tryz.func104, Tryz.ntmps104
  go_wp2_with fail
  refine (HNX.out _ _ _ HP1.out HE1.out).mono ?_
  rintro e w1 ⟨hf1, hr1⟩
  generalize nx (T.drop a) c = R1 at hr1 HM
  have HF1 := Lib.hid ((Far.below HX.out).trans hf1)
  cases R1 with
  | bad en x =>
    have hr1 : e = faultV en x := hr1
    subst hr1
    have ho : OUT = .bad en x := HM.out.symm
    exact ⟨rfl, by rw [ho]; exact ⟨HF1.out, rfl⟩⟩
  | ok x1 ts1 c1 =>
    have hm := HM.out
    simp only [PR.bind_ok] at hm
    obtain ⟨_, a1, rfl, ha1, rfl, hp1, hv1⟩ := hr1
    obtain ⟨t1, rfl, ht1, hz1⟩ := hv1.open
    rw [← hz1] at hm
    replace HM := Lib.hid hm
    have HPX := Lib.hid hp1
    have HT1 := Lib.hid (ht1.up (w0 := w) HX.out.size)
    have HE2 := Lib.hid (HE1.out.farP HP1.out hf1)
    have hr00 : ((w.alloc (.cells signRow 194)).alloc (.cells opsRow 195)).heap[w.heap.size]? = some (.cells signRow 194 (0, 0)) := heap_in (heap_alloc_last w _) (re_alloc _ _)
    have hr01 : ((w.alloc (.cells signRow 194)).alloc (.cells opsRow 195)).heap[w.heap.size + 1]? = some (.cells opsRow 195 (0, 0)) := by
      have := heap_alloc_last (w.alloc (.cells signRow 194)) (.cells opsRow 195)
      rw [show (w.alloc (.cells signRow 194)).heap.size = w.heap.size + 1 by simp] at this
      exact this
    have HR0 := Lib.hid ((hf1.block _ (Array.getElem?_eq_some_iff.1 hr00).1 (fun e => by have e := Option.some.inj e; have := HPL.out; omega)).trans hr00)
    have HR1 := Lib.hid ((hf1.block _ (Array.getElem?_eq_some_iff.1 hr01).1 (fun e => by have e := Option.some.inj e; have := HPL.out; omega)).trans hr01)
    clear hm hp1 hv1 hf1 hr00 hr01 ht1 hz1
    go_wp2_with fail
    go_loopg [7] ((T.drop a1).length + 1) (fun f v wr => ChLoop p T g cap a d w (PR.sgn l) (PR.opc l) nx OUT f v wr)
    case atStart => exact ⟨(T.drop a1).length, t1, a1, c1, rfl, by simp, rfl, ha1, HM.out, HPX.out, HT1.out, HF1.out, HE2.out, HR0.out, HR1.out⟩
    case round =>
      clear HM HPX HT1 HF1 HE2 HR0 HR1 ha1 HP1 HE1 HX
      obtain ⟨n, t, a2, c2, hgk, hn, rfl, ha2, hgo, HP2, HT2, HF2, HE2, HR0, HR1⟩ := hrel
      cases gk with
      | zero => omega
      | succ f =>
        obtain rfl : n = f := by omega
        have hl2 := HP2.out.lt
        obtain ⟨m, rfl⟩ : ∃ m, n = m + 1 := ⟨n - 1, by omega⟩
        have HIS := Lib.hid (fun W (hb : Below wr.heap.size wr W) => prIs_any (HP2.out.later hb) 2 [PR.sgn l])
        have hsc : ∀ W : World, W.heap[w.heap.size]? = some (.cells signRow 194 (0, 0)) → W.cell? ⟨w.heap.size, l, none⟩ = some (.string ⟨[PR.sgn l].toArray⟩) := fun W hW => by
          rw [cell_of_row _ _ _ _ _ _ hW]
          have : l = 0 ∨ l = 1 ∨ l = 2 := by omega
          rcases this with rfl | rfl | rfl <;> rfl
        have hoc : ∀ W : World, W.heap[w.heap.size + 1]? = some (.cells opsRow 195 (0, 0)) → W.cell? ⟨w.heap.size + 1, l, none⟩ = some (.int .i64 (PR.opc l : Nat)) := fun W hW => by
          rw [cell_of_row _ _ _ _ _ _ hW]
          have : l = 0 ∨ l = 1 ∨ l = 2 := by omega
          rcases this with rfl | rfl | rfl <;> rfl
        have HOC := Lib.hid hoc
        have q0 := hsc _ HR0.out
        have hl0 : (0 : Int) ≤ (l : Int) ∧ (l : Int) < 3 := by omega
        clear hsc hoc
        by_cases hsg : PR.isT (T.drop a2) 2 [PR.sgn l] = true
        · have hgo2 := hgo.out
          rw [PR.chGo, if_pos hsg, stp_drop hl2 (isT_ne (h := hl2) hsg), hd_drop hl2] at hgo2
          have HM := Lib.hid hgo2
          have HST := Lib.hid (fun W (hb : Below wr.heap.size wr W) => prStep_any (HP2.out.later hb) HFN.out (isT_ne (h := hl2) hsg))
          rw [hsg] at HIS
          have hopc : PR.opc l < 20 := by unfold PR.opc; split <;> (try split) <;> omega
          clear hgo2 hgo hsg
          generalize T.getD a2 lt0 = tk at *
          obtain ⟨kd, tx, ro, pa⟩ := tk
          simp only at HM
          generalize PR.sgn l = sg at *
          generalize PR.opc l = o at *
          go_wp2_with fail
          refine (HIS.out _ (Below.refl _ _)).mono ?_
          rintro e w3 ⟨rfl, hb3⟩
          go_wp2_with fail
          refine (HST.out _ hb3).mono ?_
          rintro e w4 ⟨po4, rfl, _, hp4, hf4⟩
          simp only [tkV]
          have hp3 := HP2.out.later hb3
          have ht4 := (HT2.out.later hb3).farP hp3 hf4
          have he4 := (HE2.out.later hb3).farP hp3 hf4
          have hf24 := (HF2.out.trans (Far.below hb3)).trans hf4
          have hr40 := (hf4.block _ (Array.getElem?_eq_some_iff.1 (heap_in HR0.out hb3)).1 (fun e => by have e := Option.some.inj e; have := HPL.out; omega)).trans (heap_in HR0.out hb3)
          have hr41 := (hf4.block _ (Array.getElem?_eq_some_iff.1 (heap_in HR1.out hb3)).1 (fun e => by have e := Option.some.inj e; have := HPL.out; omega)).trans (heap_in HR1.out hb3)
          have q1 := HOC.out _ hr41
          have HTE := Lib.hid (prNew3_any hp4 w hf24 o pa hopc)
          have HP4 := Lib.hid hp4
          have HT4 := Lib.hid ht4
          have HE4 := Lib.hid he4
          have HR40 := Lib.hid hr40
          have HR41 := Lib.hid hr41
          have HF24 := Lib.hid hf24
          have HS4 : Hid (w.heap.size + 1 < w4.heap.size) := (Array.getElem?_eq_some_iff.1 HR41.out).1
          clear hb3 ht4 he4 hf24 hp4 hf4 hp3 hr40 hr41 HIS HST HOC
          go_wp2_with fail
          refine HTE.out.mono ?_
          rintro e w6 ⟨hf46, hb6, hf6, hr6⟩
          generalize PR.cnt pa (T.drop (a2 + 1)) c2 = R6 at hr6 HM
          cases R6 with
          | bad en x =>
            have hr6 : e = faultV en x := hr6
            subst hr6
            have ho : OUT = .bad en x := HM.out.symm
            exact ⟨rfl, by rw [ho]; exact ⟨hf6, rfl⟩⟩
          | ok u ts6 c6 =>
            obtain ⟨b, rfl, rfl, hp6, ht6⟩ := hr6
            have hm := HM.out
            simp only [PR.bind_ok] at hm
            replace HM := Lib.hid hm
            have HP6 := Lib.hid hp6
            have HT6 := Lib.hid ht6
            have HF6 := Lib.hid hf6
            have HX6 := Lib.hid (HT4.out.farP HP4.out hf46)
            have HE6 := Lib.hid (HE4.out.farP HP4.out hf46)
            have HR60 := Lib.hid ((hf46.block _ (Array.getElem?_eq_some_iff.1 HR40.out).1 (fun e => by have e := Option.some.inj e; have := HPL.out; omega)).trans HR40.out)
            have HR61 := Lib.hid ((hf46.block _ (Array.getElem?_eq_some_iff.1 HR41.out).1 (fun e => by have e := Option.some.inj e; have := HPL.out; omega)).trans HR41.out)
            have hbn : w4.heap.size ≤ b := hb6 b rfl
            have HBN := Lib.hid hbn
            have HNX6 := Lib.hid (HNX.out _ _ _ hp6 HE6.out)
            clear hm hp6 ht6 hf6 hf46 HTE HR40 HR41 hbn hb6
            go_wp2_with fail
            refine HNX6.out.mono ?_
            rintro e w7 ⟨hf7, hr7⟩
            generalize nx (T.drop (a2 + 1)) c6 = R7 at hr7 HM
            have HF7 := Lib.hid (HF6.out.trans hf7)
            cases R7 with
            | bad en x =>
              have hr7 : e = faultV en x := hr7
              subst hr7
              have ho : OUT = .bad en x := HM.out.symm
              exact ⟨rfl, by rw [ho]; exact ⟨HF7.out, rfl⟩⟩
            | ok y7 ts7 c7 =>
              obtain ⟨_, a7, rfl, ha7, rfl, hp7, hv7⟩ := hr7
              obtain ⟨y, rfl, hy, hyz⟩ := hv7.open
              have hm := HM.out
              simp only [PR.bind_ok] at hm
              rw [← hyz] at hm
              have HM7 := Lib.hid hm
              have hb7 := HT6.out.farP HP6.out hf7
              have hx7 := HX6.out.farP HP6.out hf7
              have hy7 := hy.up (w0 := w) HF6.out.size
              have hnod : (b :: (t.blocks ++ y.blocks)).Nodup := by
                refine List.nodup_cons.2 ⟨fun hbm => ?_, List.nodup_append.2 ⟨hx7.nod, hy7.nod, fun z1 h1 z2 h2 e => ?_⟩⟩
                · rcases List.mem_append.1 hbm with h1 | h1
                  · have := (HT4.out.blk b h1).2
                    have := HBN.out
                    omega
                  · have h2 := (hy.blk b h1).1
                    have h3 : b < w6.heap.size := HT6.out.lo.2
                    omega
                · subst e
                  have h3 := (HX6.out.blk z1 h1).2
                  have h4 := (hy.blk z1 h2).1
                  omega
              have HFIN := Lib.hid (hb7.kids2 hx7 hy7 hnod)
              have hal := re_alloc w7 (.cells #[ptr t.b, ptr y.b] 62)
              obtain ⟨⟨rv7, kp7, cp7, hn7⟩, _⟩ := (hb7.later hal).is.open
              have cz : (w7.alloc (.cells #[ptr t.b, ptr y.b] 62)).cell? ⟨b, 6, none⟩ = some (.slice kp7 0 cp7) := hn7.cells.2.2.2.2.2.2
              have fz : (w7.alloc (.cells #[ptr t.b, ptr y.b] 62)).frozen? ⟨b, 6, none⟩ = false := frozen_of_row _ _ 6 _ _ hn7.1
              have HP8 := Lib.hid ((hp7.later hal).putB (t := TA.node b o (pa : Nat) [] none [] [] []) (j := 6) (v := .slice (some ⟨w7.heap.size, 0, none⟩) 2 2) (hb7.later hal) HGL.out)
              have HF8 := Lib.hid ((HF7.out.trans (Far.below hal)).setNewP (j := 6) (v := .slice (some ⟨w7.heap.size, 0, none⟩) 2 2) (hb7.later hal).lo.1)
              have HE8 : Hid (EnvP ((w7.alloc (.cells #[ptr t.b, ptr y.b] 62)).setCell ⟨b, 6, none⟩ (.slice (some ⟨w7.heap.size, 0, none⟩) 2 2))) := EnvP.putB (t := TA.node b o (pa : Nat) [] none [] [] []) ((HE6.out.farP HP6.out hf7).later hal) (hb7.later hal)
              have hbs : w.heap.size + 1 < b := by have := HBN.out; have := HS4.out; omega
              have hrk : ∀ (x : Nat) (u : Obj), w6.heap[x]? = some u → x ≠ b → x ≠ p → ((w7.alloc (.cells #[ptr t.b, ptr y.b] 62)).setCell ⟨b, 6, none⟩ (.slice (some ⟨w7.heap.size, 0, none⟩) 2 2)).heap[x]? = some u := fun x u hu h1 h2 => by
                refine (Below.heap_setCell _ _ _ _ (by show x ≠ b; exact h1)).trans ?_
                have hu7 := (hf7.block x (Array.getElem?_eq_some_iff.1 hu).1 (fun e => h2 (Option.some.inj e))).trans hu
                exact (hal.block x (Array.getElem?_eq_some_iff.1 hu7).1).trans hu7
              have HR80 : Hid (((w7.alloc (.cells #[ptr t.b, ptr y.b] 62)).setCell ⟨b, 6, none⟩ (.slice (some ⟨w7.heap.size, 0, none⟩) 2 2)).heap[w.heap.size]? = some (.cells signRow 194 (0, 0))) := hrk _ _ HR60.out (by omega) (by have := HPL.out; omega)
              have HR81 : Hid (((w7.alloc (.cells #[ptr t.b, ptr y.b] 62)).setCell ⟨b, 6, none⟩ (.slice (some ⟨w7.heap.size, 0, none⟩) 2 2)).heap[w.heap.size + 1]? = some (.cells opsRow 195 (0, 0))) := hrk _ _ HR61.out (by omega) (by have := HPL.out; omega)
              clear hm hp7 hv7 hf7 hy hyz hb7 hx7 hy7 hnod hal hn7 hrk hbs
              go_wp2_with fail
              go_roundg (m + 1)
              case measure => omega
              case rel => exact ⟨m, TA.node b o (pa : Nat) [] none [] [] [t, y], a7, c7, rfl, by omega, rfl, by omega, by show _ = _; simp only [TA.zero, TA.zeros]; exact HM7.out, HP8.out, HFIN.out, HF8.out, HE8.out, HR80.out, HR81.out⟩
        · have hgo2 := hgo.out
          rw [PR.chGo, if_neg hsg] at hgo2
          have hsg' : PR.isT (T.drop a2) 2 [PR.sgn l] = false := by simpa using hsg
          rw [hsg'] at HIS
          have HO := Lib.hid hgo2.symm
          clear hgo2 hgo hsg hsg'
          generalize PR.sgn l = sg at *
          go_wp2_with fail
          refine (HIS.out _ (Below.refl _ _)).mono ?_
          rintro e w3 ⟨rfl, hb3⟩
          have HP3 := Lib.hid (HP2.out.later hb3)
          have HT3 := Lib.hid (HT2.out.later hb3)
          have HF3 := Lib.hid (HF2.out.trans (Far.below hb3))
          clear hb3 HIS
          go_wp2_with fail
          go_ret
          rw [HO.out]
          exact ⟨HF3.out, _, a2, rfl, ha2, rfl, HP3.out, HT3.out.v⟩
/-- a chain of terms, from so many levels on, at any depth -/
theorem prChain_lev (hF : TFine T) (k : Nat) (hk : d + k = 60) (rec : List LT → Nat → PR.Res TA) (hrec : d < 60 → RecC p T g cap d rec) : ∀ (m : Nat), m ≤ 3 → ∀ W a c, PrAt W p T g cap a d c → EnvP W →
    Calls Tryz.prog 104 #[ptr p, .int .i64 ((3 - m : Nat) : Int)] W (PqPost p T g cap a d W (TmV W) (PR.chN k rec m (T.drop a) c)) := by
  intro m
  induction m with
  | zero =>
    intro _ W a c h hE
    have HST := Lib.hid (prStar_any h hF hE k hk rec hrec)
    show Calls Tryz.prog 104 #[ptr p, .int .i64 3] W (PqPost p T g cap a d W (TmV W) (PR.star k rec (T.drop a) c))
    generalize PR.star k rec (T.drop a) c = OUT at *
    clear h hF hE hrec
    go_enter Tryz.func104, Tryz.ntmps104
    go_wp2_with fail
    refine HST.out.mono ?_
    rintro e w9 ⟨hf9, hres⟩
    cases OUT with
    | bad en x =>
      have hres : e = faultV en x := hres
      subst hres
      exact ⟨rfl, hf9, rfl⟩
    | ok x9 ts9 c9 =>
      obtain ⟨v9, a9, rfl, hrest⟩ := hres
      go_wp2_with fail
      go_ret
      exact ⟨hf9, _, a9, rfl, hrest⟩
  | succ m ih =>
    intro hm W a c h hE
    refine prChain_step (d := d) hF k hk (PR.chN k rec m) (3 - (m + 1)) (by omega) (fun W a c h hE => ?_) h hE |>.mono ?_
    · have := ih (by omega) W a c h hE
      rw [show ((3 - m : Nat) : Int) = ((3 - (m + 1) : Nat) : Int) + 1 by omega] at this
      exact this
    · intro e w' h
      have e1 : 3 - (m + 1) = 2 - m := by omega
      rw [e1] at h
      exact h
theorem prChain_any (hF : TFine T) : ∀ (k d : Nat), d + k = 60 → ∀ W a c, PrAt W p T g cap a d c → EnvP W → Calls Tryz.prog 104 #[ptr p, .int .i64 0] W (PqPost p T g cap a d W (TmV W) (PR.chain k (T.drop a) c)) := by
  intro k
  induction k with
  | zero =>
    intro d hd W a c h hE
    exact prChain_lev hF 0 hd _ (fun hh => by omega) 3 (by omega) W a c h hE
  | succ k ih =>
    intro d hd W a c h hE
    exact prChain_lev hF (k + 1) hd (PR.chain k) (fun _ W a c h hE => ih (d + 1) (by omega) W a c h hE) 3 (by omega) W a c h hE
end Go.Proofs.YtgamknphlmcgnaaGreatDoor
end
section
set_option linter.unusedSimpArgs false
set_option linter.unusedVariables false
set_option maxRecDepth 100000
set_option linter.unnecessarySimpa false
namespace Go.Proofs.YtgamknphlmcgnaaGreatDoor
open Go.RowKit
variable {w w' W W' : World} {p g cap a d c : Nat} {T : List LT}
theorem infoLet : (Tryz.prog.info? 88).map (fun i => (i.zero, i.size, i.bytes)) = some (some (.agg #[.string ⟨#[]⟩, .int .i64 0, .pointer none]), 3, 32) := by kernel_rfl
/-- the cells of a name, and what it stands for -/
def cellsLet (x : PR.LetT × TA) : List Value := [.string ⟨x.1.name.toArray⟩, .int .i64 (x.1.at_ : Nat), ptr x.2.b]
/-- names, and what they stand for, in a row of their own -/
structure LetsAt (w0 W : World) (v : Value) (ls : List PR.LetT) (lts : List (PR.LetT × TA)) : Prop where
  fst : lts.map Prod.fst = ls
  own : W.ownsRow w0.heap.size 88 3 v ls.length (lts.flatMap cellsLet)
  tm : ∀ x ∈ lts, TmB w0 W x.2 ∧ x.2.zero = x.1.term
/-- a program in block B -/
structure PgAt (w0 W : World) (B : Nat) (ls : List PR.LetT) (v bv : Value) (lts : List (PR.LetT × TA)) : Prop where
  row : W.heap[B]? = some (.cells #[v, bv] 77 (0, 0))
  lo : w0.heap.size ≤ B
  lets : LetsAt w0 W v ls lts
theorem PgAt.body {w0 : World} {B : Nat} {v bv : Value} {ls : List PR.LetT} {lts : List (PR.LetT × TA)} (h : PgAt w0 W B ls v bv lts) (x : Value) : PgAt w0 (W.setCell ⟨B, 1, none⟩ x) B ls v x lts := by
  refine ⟨by rw [heap_setCell_same _ _ _ _ _ _ h.row]; rfl, h.lo, h.lets.fst, ?_, fun y hy => ⟨⟨IsTa.put h.row (by decide) (by decide) (by decide) (by decide) (fun k hk hne => Below.heap_setCell _ _ _ _ hne) y.2 (h.lets.tm y hy).1.is, fun z hz => by simpa using (h.lets.tm y hy).1.blk z hz, (h.lets.tm y hy).1.nod⟩, (h.lets.tm y hy).2⟩⟩
  rcases h.lets.own with ⟨h1, h2⟩
  refine ⟨h1, ?_⟩
  rcases h2 with h2 | ⟨g', cap', cur, h2, h3, h4, h5⟩
  · exact .inl h2
  · exact .inr ⟨g', cap', cur, h2, h3, (Below.heap_setCell _ _ _ _ (by show g' ≠ B; exact ne_of_ty h4 h.row (by decide))).trans h4, h5⟩
def PgV (w0 W : World) (v : Value) (r : List PR.LetT × TA) : Prop := ∃ (B : Nat) (kv : Value) (lts : List (PR.LetT × TA)) (t : TA), v = ptr B ∧ PgAt w0 W B r.1 kv (ptr t.b) lts ∧ TmB w0 W t ∧ t.zero = r.2
theorem LetsAt.farP {w0 : World} {v : Value} {ls : List PR.LetT} {lts : List (PR.LetT × TA)} (h : LetsAt w0 W v ls lts) (hp : PrAt W p T g cap a d c) (hf : Far p W W') (hpw : p < w0.heap.size) : LetsAt w0 W' v ls lts := by
  refine ⟨h.fst, World.ownsRow.kept h.own hf ?_, fun x hx => ⟨(h.tm x hx).1.farP hp hf, (h.tm x hx).2⟩⟩
  rcases h.own.2 with ⟨rfl, _⟩ | ⟨g', cap', cur, rfl, hbg, _⟩
  · exact .inl rfl
  · refine .inr fun e => ?_
    have : g' = p := by simpa [Value.ownBlock] using e
    omega
theorem LetsAt.later {w0 : World} {v : Value} {ls : List PR.LetT} {lts : List (PR.LetT × TA)} (h : LetsAt w0 W v ls lts) (hb : Below W.heap.size W W') : LetsAt w0 W' v ls lts :=
  ⟨h.fst, World.ownsRow.kept h.own (re_grownBy hb) (by cases v.ownBlock <;> simp), fun x hx => ⟨(h.tm x hx).1.later hb, (h.tm x hx).2⟩⟩
theorem PgAt.farP {w0 : World} {B : Nat} {v bv : Value} {ls : List PR.LetT} {lts : List (PR.LetT × TA)} (h : PgAt w0 W B ls v bv lts) (hp : PrAt W p T g cap a d c) (hf : Far p W W') (hpw : p < w0.heap.size) : PgAt w0 W' B ls v bv lts :=
  ⟨(hf.block _ (Array.getElem?_eq_some_iff.1 h.row).1 (fun e => by have e := Option.some.inj e; have := h.lo; omega)).trans h.row, h.lo, h.lets.farP hp hf hpw⟩
theorem PgAt.later {w0 : World} {B : Nat} {v bv : Value} {ls : List PR.LetT} {lts : List (PR.LetT × TA)} (h : PgAt w0 W B ls v bv lts) (hb : Below W.heap.size W W') : PgAt w0 W' B ls v bv lts :=
  ⟨(hb.block _ (Array.getElem?_eq_some_iff.1 h.row).1).trans h.row, h.lo, h.lets.later hb⟩
theorem PgAt.cells {w0 : World} {B : Nat} {v bv : Value} {ls : List PR.LetT} {lts : List (PR.LetT × TA)} (h : PgAt w0 W B ls v bv lts) : W.cell? ⟨B, 0, none⟩ = some v ∧ W.cell? ⟨B, 1, none⟩ = some bv := ⟨by rw [cell_of_row _ _ _ _ _ _ h.row]; rfl, by rw [cell_of_row _ _ _ _ _ _ h.row]; rfl⟩
theorem PgAt.form {w0 : World} {B : Nat} {v bv : Value} {ls : List PR.LetT} {lts : List (PR.LetT × TA)} (h : PgAt w0 W B ls v bv lts) : ∃ kp cp, v = .slice kp ls.length cp := by
  rcases h.lets.own.2 with ⟨rfl, hn⟩ | ⟨g', cap', cur, rfl, _⟩
  · exact ⟨none, 0, by rw [hn]⟩
  · exact ⟨_, _, rfl⟩
theorem LetsAt.og {w0 : World} {v : Value} {ls : List PR.LetT} {lts : List (PR.LetT × TA)} (h : LetsAt w0 W v ls lts) (G : Nat) (hG : v.ownBlock = some G) : w0.heap.size ≤ G ∧ ∃ cs, W.heap[G]? = some (.cells cs 88 (0, 0)) := by
  rcases h.own.2 with ⟨rfl, _⟩ | ⟨g', cap', cur, rfl, hb, hr, _⟩
  · cases hG
  · have : g' = G := by simpa [Value.ownBlock] using hG
    rw [← this]; exact ⟨hb, _, hr⟩
/-- a row of names grows: all else lies as it lay -/
theorem TmB.grownL {w0 : World} {v : Value} {ls : List PR.LetT} {lts : List (PR.LetT × TA)} (h : LetsAt w0 W v ls lts) (hg : W.grownBy W' v.ownBlock) {t : TA} (ht : TmB w0 W t) : TmB w0 W' t := by
  refine ⟨?_, fun x hx => ⟨(ht.blk x hx).1, Nat.lt_of_lt_of_le (ht.blk x hx).2 hg.size⟩, ht.nod⟩
  cases ho : v.ownBlock with
  | none => rw [ho] at hg; exact IsTa.later ⟨hg.os, hg.tape, hg.output, hg.size, fun k hk => hg.block k hk (fun e => by cases e)⟩ t ht.is
  | some G =>
    obtain ⟨_, cs, hr⟩ := h.og G ho
    rw [ho] at hg
    exact IsTa.put hr (by decide) (by decide) (by decide) (by decide) (fun k hk hne => hg.block k hk (fun e => by first | exact hne (Option.some.inj e) | exact hne (Option.some.inj e).symm)) t ht.is
theorem TmB.putP {w0 : World} {B j : Nat} {x : Value} {cs : Array Value} {t : TA} (ht : TmB w0 W t) (hr : W.heap[B]? = some (.cells cs 77 (0, 0))) : TmB w0 (W.setCell ⟨B, j, none⟩ x) t :=
  ⟨IsTa.put hr (by decide) (by decide) (by decide) (by decide) (fun k hk hne => Below.heap_setCell _ _ _ _ hne) t ht.is, fun y hy => by simpa using ht.blk y hy, ht.nod⟩
theorem far_grownL {w0 : World} {v : Value} {ls : List PR.LetT} {lts : List (PR.LetT × TA)} (h : LetsAt w0 W v ls lts) (hf : Far p w0 W) (hg : W.grownBy W' v.ownBlock) : Far p w0 W' := by
  refine ⟨hg.os.trans hf.os, hg.tape.trans hf.tape, hg.output.trans hf.output, Nat.le_trans hf.size hg.size, fun k hk1 hk2 => ?_⟩
  refine (hg.block k (Nat.lt_of_lt_of_le hk1 hf.size) (fun e => ?_)).trans (hf.block k hk1 hk2)
  have := (h.og k (by first | exact e | exact e.symm)).1
  omega
theorem PrAt.grownL {w0 : World} {v : Value} {ls : List PR.LetT} {lts : List (PR.LetT × TA)} (h : LetsAt w0 W v ls lts) (hp : PrAt W p T g cap a d c) (hpw : p < w0.heap.size) (hgw : g < w0.heap.size) (hg : W.grownBy W' v.ownBlock) : PrAt W' p T g cap a d c := by
  cases ho : v.ownBlock with
  | none => rw [ho] at hg; exact hp.later ⟨hg.os, hg.tape, hg.output, hg.size, fun k hk => hg.block k hk (fun e => by cases e)⟩
  | some G =>
    obtain ⟨h1, cs, hr⟩ := h.og G ho
    rw [ho] at hg
    exact hp.keepN hr (by decide) (by decide) (by omega) (by omega) (fun k hk hne => hg.block k hk (fun e => by first | exact hne (Option.some.inj e) | exact hne (Option.some.inj e).symm))
theorem PgAt.append {w0 : World} {B : Nat} {v bv : Value} {ls : List PR.LetT} {lts : List (PR.LetT × TA)} (h : PgAt w0 W B ls v bv lts) {x : PR.LetT × TA} (hx : TmB w0 W x.2 ∧ x.2.zero = x.1.term) {g5 cp5 : Nat}
    (hown : W'.ownsRow w0.heap.size 88 3 (.slice (some ⟨g5, 0, none⟩) (ls.length + 1) cp5) (ls.length + 1) (lts.flatMap cellsLet ++ cellsLet x)) (hg : W.grownBy W' v.ownBlock) :
    PgAt w0 (W'.setCell ⟨B, 0, none⟩ (.slice (some ⟨g5, 0, none⟩) (ls.length + 1) cp5)) B (ls ++ [x.1]) (.slice (some ⟨g5, 0, none⟩) (ls.length + 1) cp5) bv (lts ++ [x]) := by
  have hrow' : W'.heap[B]? = some (.cells #[v, bv] 77 (0, 0)) := by
    refine (hg.block B (Array.getElem?_eq_some_iff.1 h.row).1 (fun e => ?_)).trans h.row
    obtain ⟨_, cs, hr⟩ := h.lets.og B (by first | exact e | exact e.symm)
    exact ne_of_ty h.row hr (by decide) rfl
  refine ⟨by rw [heap_setCell_same _ _ _ _ _ _ hrow']; rfl, h.lo, by rw [List.map_append, h.lets.fst]; rfl, ?_, fun y hy => ?_⟩
  · rw [List.length_append, List.length_singleton, List.flatMap_append, List.flatMap_singleton]
    rcases hown with ⟨h1, h2⟩
    refine ⟨h1, ?_⟩
    rcases h2 with ⟨h2, _⟩ | ⟨g', cap', cur, h2, h3, h4, h5⟩
    · cases h2
    · refine .inr ⟨g', cap', cur, h2, h3, ?_, h5⟩
      exact (Below.heap_setCell _ _ _ _ (by show g' ≠ B; exact ne_of_ty h4 hrow' (by decide))).trans h4
  · have hy' : TmB w0 W y.2 ∧ y.2.zero = y.1.term := by
      rcases List.mem_append.1 hy with h1 | h1
      · exact h.lets.tm y h1
      · rw [List.mem_singleton.1 h1]; exact hx
    exact ⟨(hy'.1.grownL h.lets hg).putP hrow', hy'.2⟩
def PgLoop (p : Nat) (T : List LT) (g cap a0 : Nat) (w : World) (OUT : PR.Res (List PR.LetT × TA)) (f : Nat) (v : Value) (wr : World) : Prop :=
  ∃ (n : Nat) (ls : List PR.LetT) (kv : Value) (lts : List (PR.LetT × TA)) (a c : Nat), f = n + 1 ∧ T.length - a ≤ n + 1 ∧ a0 ≤ a ∧ ls.length ≤ 200 ∧ Hid (PR.progGo (n + 1) ls (T.drop a) c = OUT) ∧ Hid (PrAt wr p T g cap a 0 c) ∧ Hid (PgAt w wr w.heap.size ls kv (.pointer none) lts) ∧ Hid (Far p w wr) ∧ Hid (EnvP wr)
theorem isT_ne1 {h : a < T.length} {s : List UInt8} (hh : PR.isT (T.drop a) 1 s = true) : (T.getD a lt0).kind ≠ 0 := by
  have := (isT_kind hh).1
  rw [hd_drop h] at this
  omega
set_option maxRecDepth 100000 in
set_option maxHeartbeats 4000000 in
theorem prProgram_any (h : PrAt w p T g cap a 0 c) (hF : TFine T) (hE : EnvP w) : Calls Tryz.prog 56 #[ptr p] w (PqPost p T g cap a 0 w (PgV w) (PR.progGo (T.drop a).length [] (T.drop a) c)) := by
  have HFN := Lib.hid hF
  have HPL := Lib.hid h.plt
  have HGL := Lib.hid h.glt
  have hx := re_alloc w (.cells #[.slice none 0 0, .pointer none] 77)
  have HP1 := Lib.hid (h.later hx)
  have HE1 := Lib.hid (hE.later hx)
  have HX := Lib.hid hx
  have HE0 := Lib.hid hE
  have H0 := Lib.hid h
  have hl := h.lt
  obtain ⟨n0, hn0⟩ : ∃ n0, (T.drop a).length = n0 + 1 := ⟨(T.drop a).length - 1, by rw [List.length_drop]; omega⟩
  obtain ⟨OUT, hOUT⟩ : ∃ OUT, PR.progGo (T.drop a).length [] (T.drop a) c = OUT := ⟨_, rfl⟩
  rw [hOUT]
  rw [hn0] at hOUT
  have HM := Lib.hid hOUT
  have hn1 : T.length - a ≤ n0 + 1 := by rw [List.length_drop] at hn0; omega
  have HPG : Hid (PgAt w (w.alloc (.cells #[.slice none 0 0, .pointer none] 77)) w.heap.size [] (.slice none 0 0) (.pointer none) []) := ⟨heap_alloc_last w _, Nat.le_refl _, rfl, World.ownsRow_nil _ _ _ _, fun x hx => by simp at hx⟩
  clear h hE hOUT hx hn0
  have hfd0 := tk_f0; have hfd1 := tk_f1; have hfd2 := tk_f2; have hfd3 := tk_f3
  go_enter Tryz.func56, Tryz.ntmps56
  go_wp2_with fail
  go_loopg [4] (n0 + 1) (fun f v wr => PgLoop p T g cap a w OUT f v wr)
  case atStart => exact ⟨n0, [], _, [], a, c, rfl, hn1, Nat.le_refl _, by simp, HM.out, HP1.out, HPG.out, Far.below HX.out, HE1.out⟩
  case round =>
    clear HM HP1 HPG HE1 hn1 hl
    obtain ⟨n, ls, kv, lts, a2, c2, hgk, hn, ha2, hls, hgo, HP2, HG2, HF2, HE2⟩ := hrel
    obtain rfl : gk = n + 1 := by omega
    have hl2 := HP2.out.lt
    have HIS := Lib.hid (prIs_any HP2.out 1 PR.letW)
    have hHX := HX.out
    clear HX
    by_cases hsg : PR.isT (T.drop a2) 1 PR.letW = true
    · have hgo2 := hgo.out
      rw [PR.progGo, if_pos hsg, stp_drop hl2 (isT_ne1 (h := hl2) hsg), hd_drop hl2] at hgo2
      have HM := Lib.hid hgo2
      have HST := Lib.hid (fun W (hb : Below wr.heap.size wr W) => prStep_any (HP2.out.later hb) HFN.out (isT_ne1 (h := hl2) hsg))
      rw [hsg] at HIS
      clear hgo2 hgo hsg
      generalize T.getD a2 lt0 = tk at *
      obtain ⟨kd, tx, ro, pa⟩ := tk
      simp only at HM
      go_wp2_with fail
      refine HIS.out.mono ?_
      rintro e w3 ⟨rfl, hb3⟩
      go_wp2_with fail
      refine (HST.out _ hb3).mono ?_
      rintro e w4 ⟨po4, rfl, _, hp4, hf4⟩
      simp only [tkV]
      have hp3 := HP2.out.later hb3
      have hg4 := (HG2.out.later hb3).farP hp3 hf4 HPL.out
      have he4 := (HE2.out.later hb3).farP hp3 hf4
      have hf24 := (HF2.out.trans (Far.below hb3)).trans hf4
      obtain ⟨kp, cp, hkv⟩ := hg4.form
      subst hkv
      have q0 := hg4.cells.1
      have HP4 := Lib.hid hp4
      have HG4 := Lib.hid hg4
      have HE4 := Lib.hid he4
      have HF4 := Lib.hid hf24
      clear hb3 hg4 he4 hf24 hp4 hf4 hp3 HIS HST
      by_cases h200 : ls.length = 200
      · rw [if_pos h200] at HM
        have h200' : (((ls.length : Nat) : Int) == 200) = true := by rw [h200]; rfl
        clear h200
        go_wp2_with fail
        refine (prFail_any 3 pa _).mono ?_
        rintro e w5 ⟨rfl, rfl⟩
        have ho : OUT = .bad 3 pa := HM.out.symm
        exact ⟨rfl, by rw [ho]; exact ⟨HF4.out, rfl⟩⟩
      · rw [if_neg h200] at HM
        have h200' : (((ls.length : Nat) : Int) == 200) = false := by rw [beq_eq_false_iff_ne]; omega
        go_wp2_with fail
        refine (prName_any HP4.out HFN.out).mono ?_
        rintro e w5 ⟨hf5, hr5⟩
        generalize PR.nm (T.drop (a2 + 1)) c2 = R5 at hr5 HM
        cases R5 with
        | bad en x =>
          have hr5 : e = faultV en x := hr5
          subst hr5
          have ho : OUT = .bad en x := HM.out.symm
          exact ⟨rfl, by rw [ho]; exact ⟨HF4.out.trans hf5, rfl⟩⟩
        | ok m5 ts5 c5 =>
          obtain ⟨_, a5, rfl, ha5, rfl, hp5, rv0, rfl, hrv0⟩ := hr5
          obtain ⟨mk, mt, mr, mp⟩ := m5
          obtain ⟨pv, rfl⟩ := reO_ptr hrv0
          have hm := HM.out
          simp only [PR.bind_ok] at hm
          replace HM := Lib.hid hm
          (try simp only [tkV])
          have hx6 := re_alloc w5 (.cells #[.int .i64 (mk : Nat), .string ⟨mt.toArray⟩, .pointer pv, .int .i64 (mp : Nat)] 47)
          have HP6 := Lib.hid (hp5.later hx6)
          have HF6 := Lib.hid ((HF4.out.trans hf5).trans (Far.below hx6))
          have HG6 := Lib.hid ((HG4.out.farP HP4.out hf5 HPL.out).later hx6)
          have HN6 := Lib.hid (heap_alloc_last w5 (.cells #[.int .i64 (mk : Nat), .string ⟨mt.toArray⟩, .pointer pv, .int .i64 (mp : Nat)] 47))
          have HPL5 := Lib.hid hp5.plt
          clear hm hx6 hp5 hf5 hrv0
          generalize hMT : (⟨mt.toArray⟩ : ByteArray) = MT at *
          have HMT := Lib.hid hMT
          clear hMT
          go_wp2_with fail
          refine (prWant_any HP6.out HFN.out [61]).mono ?_
          rintro e w7 ⟨hf7, hr7⟩
          generalize PR.want [61] (T.drop a5) c5 = R7 at hr7 HM
          cases R7 with
          | bad en x =>
            have hr7 : e = faultV en x := hr7
            subst hr7
            have ho : OUT = .bad en x := HM.out.symm
            exact ⟨rfl, by rw [ho]; exact ⟨HF6.out.trans hf7, rfl⟩⟩
          | ok v7 ts7 c7 =>
            obtain ⟨_, a7, rfl, ha7, rfl, hp7, rfl⟩ := hr7
            have hm := HM.out
            simp only [PR.bind_ok] at hm
            replace HM := Lib.hid hm
            have HP7 := Lib.hid hp7
            have HF7 := Lib.hid (HF6.out.trans hf7)
            have HG7 := Lib.hid (HG6.out.farP HP6.out hf7 HPL.out)
            have HN7 := Lib.hid ((hf7.block _ (Array.getElem?_eq_some_iff.1 HN6.out).1 (fun e => by have e := Option.some.inj e; have := HPL5.out; omega)).trans HN6.out)
            clear hm hp7 hf7 HP6 HN6
            go_wp2_with fail
            refine (prChain_any HFN.out 60 0 rfl _ _ _ HP7.out (HE0.out.farP H0.out HF7.out)).mono ?_
            rintro e w8 ⟨hf8, hr8⟩
            generalize PR.chain 60 (T.drop a7) c7 = R8 at hr8 HM
            cases R8 with
            | bad en x =>
              have hr8 : e = faultV en x := hr8
              subst hr8
              have ho : OUT = .bad en x := HM.out.symm
              exact ⟨rfl, by rw [ho]; exact ⟨HF7.out.trans hf8, rfl⟩⟩
            | ok x8 ts8 c8 =>
              obtain ⟨_, a8, rfl, ha8, rfl, hp8, hv8⟩ := hr8
              obtain ⟨y, rfl, hy, hyz⟩ := hv8.open
              have hm := HM.out
              simp only [PR.bind_ok] at hm
              have hl8 := hp8.lt
              have HP8 := Lib.hid hp8
              have HF8 := Lib.hid (HF7.out.trans hf8)
              have HG8 := Lib.hid (HG7.out.farP HP7.out hf8 HPL.out)
              have HN8 := Lib.hid ((hf8.block _ (Array.getElem?_eq_some_iff.1 HN7.out).1 (fun e => by have e := Option.some.inj e; have := HPL5.out; omega)).trans HN7.out)
              have HY8 := Lib.hid (hy.up (w0 := w) HF7.out.size)
              have HYZ := Lib.hid hyz
              have HI8 := Lib.hid (prIs_any HP8.out 1 PR.inW)
              by_cases hin : PR.isT (T.drop a8) 1 PR.inW = true
              · rw [if_pos hin, stp_drop hl8 (isT_ne1 (h := hl8) hin)] at hm
                replace HM := Lib.hid hm
                have HS8 := Lib.hid (fun W (hb : Below w8.heap.size w8 W) => prStep_any (HP8.out.later hb) HFN.out (isT_ne1 (h := hl8) hin))
                rw [hin] at HI8
                clear hm hp8 hv8 hf8 hy hyz hin HP7 HN7
                go_wp2_with fail
                refine HI8.out.mono ?_
                rintro e w9 ⟨rfl, hb9⟩
                go_wp2_with fail
                refine (HS8.out _ hb9).mono ?_
                rintro e wa ⟨poa, rfl, _, hpa, hfa⟩
                have hp9 := HP8.out.later hb9
                have HPA := Lib.hid hpa
                have HFA := Lib.hid ((HF8.out.trans (Far.below hb9)).trans hfa)
                have HGA := Lib.hid ((HG8.out.later hb9).farP hp9 hfa HPL.out)
                have hn9 := heap_in HN8.out hb9
                have HNA := Lib.hid ((hfa.block _ (Array.getElem?_eq_some_iff.1 hn9).1 (fun e => by have e := Option.some.inj e; have := HPL5.out; omega)).trans hn9)
                have HYA := Lib.hid ((HY8.out.later hb9).farP hp9 hfa)
                clear hpa hb9 hfa hp9 hn9 HI8 HS8
                go_upto_region 12 with fail
                obtain ⟨i0, hi, hz0, hz1, hz2⟩ := info_parts infoLet
                have HI := Lib.hid hi; have HZ0 := Lib.hid hz0; have HZ1 := Lib.hid hz1; have HZ2 := Lib.hid hz2
                have s0 := HGA.out.cells.1
                have s1 : wa.cell? ⟨w5.heap.size, 1, none⟩ = some (.string MT) := by rw [cell_of_row _ _ _ _ _ _ HNA.out]; rfl
                have s3 : wa.cell? ⟨w5.heap.size, 3, none⟩ = some (.int .i64 (mp : Nat)) := by rw [cell_of_row _ _ _ _ _ _ HNA.out]; rfl
                obtain ⟨S, hSd⟩ : ∃ S : World → Prop, ∀ W', S W' ↔ (W'.cell? ⟨w.heap.size, 0, none⟩ = some (.slice kp ls.length cp) ∧ W'.cell? ⟨w5.heap.size, 1, none⟩ = some (.string MT) ∧ W'.cell? ⟨w5.heap.size, 3, none⟩ = some (.int .i64 (mp : Nat))) := ⟨_, fun _ => Iff.rfl⟩
                have cs : ∀ q : InC S, q.w.cell? ⟨w.heap.size, 0, none⟩ = some (.slice kp ls.length cp) ∧ q.w.cell? ⟨w5.heap.size, 1, none⟩ = some (.string MT) ∧ q.w.cell? ⟨w5.heap.size, 3, none⟩ = some (.int .i64 (mp : Nat)) := fun q => (hSd _).1 q.h
                have hS0 : S wa.drew := (hSd _).2 ⟨s0, s1, s3⟩
                have hne : Nonempty (InC S) := ⟨⟨_, hS0⟩⟩
                have hxb : Below wa.heap.size wa (wa.alloc (.cells #[.string MT, .int .i64 (mp : Nat), ptr y.b] 88)).drew := (re_alloc wa _).drew
                have HGB := Lib.hid (HGA.out.later hxb)
                have HPB := Lib.hid (HPA.out.later hxb)
                have HYB := Lib.hid (HYA.out.later hxb)
                have HFB := Lib.hid (HFA.out.trans (Far.below hxb))
                have HNB := Lib.hid (heap_in HNA.out hxb)
                have HSRC : Hid ((wa.alloc (.cells #[.string MT, .int .i64 (mp : Nat), ptr y.b] 88)).drew.heap[wa.heap.size]? = some (.cells #[.string MT, .int .i64 (mp : Nat), ptr y.b] 88 (0, 0))) := heap_alloc_last wa (.cells #[.string MT, .int .i64 (mp : Nat), ptr y.b] 88)
                have HSZB : Hid (w.heap.size ≤ (wa.alloc (.cells #[.string MT, .int .i64 (mp : Nat), ptr y.b] 88)).drew.heap.size) := HFB.out.size
                have HCT : Hid (cellsLet (⟨mt, mp, y.zero⟩, y) = [.string MT, .int .i64 (mp : Nat), ptr y.b]) := by show _ = _; rw [← HMT.out]; rfl
                have hls200 : ls.length ≤ 199 := by omega
                clear hxb s0 s1 s3 hi hz0 hz1 hz2
                refine wp_region_mix S [0, 1, 2, 3, 4, 5, 6, 7, 8, 9, 13, 14] [0, 1, 2, 3, 4, 5, 6, 7, 8, 9, 10, 11, 12, 13, 14, 15] (by kernel_rfl) (by kernel_rfl) hS0 ?_
                (repeat ((with_reducible refine wpMix_read (o := ?_) ?_ ?_ ?_); rotate_left; (· rfl); (· rfl); go_big_quiet_step (fail); (with_reducible refine wpQuiet_nil ?_)))
                refine wpMix_eff (k := true) rfl rfl (by kernel_rfl) ?_
                go_wp2_with fail
                refine mixPost_keep hS0 ?_
                refine wpMix_eff (k := true) rfl rfl (by kernel_rfl) ?_
                go_wp2_with fail
                refine mixPost_keep ((hSd _).2 ⟨HGB.out.cells.1, by rw [cell_of_row _ _ _ _ _ _ HNB.out]; rfl, by rw [cell_of_row _ _ _ _ _ _ HNB.out]; rfl⟩) ?_
                refine wpMix_eff (k := true) rfl rfl (by kernel_rfl) ?_
                go_wp2_with (at_builtin; refine wpList_append_lies _ rfl _ _ _ rfl w.heap.size 88 i0 _ 3 32 Tryz.underlying75 HI.out HZ0.out HZ1.out HZ2.out rfl (by omega) _ ls.length (lts.flatMap cellsLet) rfl HGB.out.lets.own ⟨wa.heap.size, 0, none⟩ 1 1 [.string MT, .int .i64 (mp : Nat), ptr y.b] rfl rfl (World.news_of_block (cs := #[.string MT, .int .i64 (mp : Nat), ptr y.b]) (t := 88) (fr := (0, 0)) HSRC.out) (by intro u hu; simp at hu; rcases hu with rfl | rfl | rfl <;> rfl) (by omega) (by unfold maxLen; omega) (by omega) HSZB.out _ rfl ?_; intro g7 cp7 W7 hown7 hg7 hat7 hlt7)
                have HGC := Lib.hid (HGB.out.append (x := (⟨mt, mp, y.zero⟩, y)) ⟨HYB.out, rfl⟩ (by rw [HCT.out]; exact hown7) hg7)
                have hog : ∀ (x : Nat) (u : Obj), (wa.alloc (.cells #[.string MT, .int .i64 (mp : Nat), ptr y.b] 88)).drew.heap[x]? = some u → (∀ cs', u ≠ Obj.cells cs' 88 (0, 0)) → W7.heap[x]? = some u := fun x u hu hne => by
                  refine (hg7.block x (Array.getElem?_eq_some_iff.1 hu).1 (fun e => ?_)).trans hu
                  obtain ⟨_, cs', hr⟩ := HGB.out.lets.og x (by first | exact e | exact e.symm)
                  rw [hr] at hu
                  exact hne cs' (Option.some.inj hu).symm
                have hrw7 := hog _ _ HGB.out.row (fun cs' e => by injection e with _ e2 _; exact absurd e2 (by decide))
                have hn7 := hog _ _ HNB.out (fun cs' e => by injection e with _ e2 _; exact absurd e2 (by decide))
                have u0 : W7.cell? ⟨w.heap.size, 0, none⟩ = some (.slice kp ls.length cp) := by rw [cell_of_row _ _ _ _ _ _ hrw7]; rfl
                have u1 : W7.cell? ⟨w5.heap.size, 1, none⟩ = some (.string MT) := by rw [cell_of_row _ _ _ _ _ _ hn7]; rfl
                have u3 : W7.cell? ⟨w5.heap.size, 3, none⟩ = some (.int .i64 (mp : Nat)) := by rw [cell_of_row _ _ _ _ _ _ hn7]; rfl
                have fz7 := frozen_of_row _ _ 0 _ _ hrw7
                have HPC := Lib.hid ((PrAt.grownL HGB.out.lets HPB.out HPL.out HGL.out hg7).keepN (w' := W7.setCell ⟨w.heap.size, 0, none⟩ (.slice (some ⟨g7, 0, none⟩) (ls.length + 1) cp7)) hrw7 (by decide) (by decide) (by have := HPL.out; omega) (by have := HGL.out; omega) (fun k hk hne => Below.heap_setCell _ _ _ _ hne))
                have HFC := Lib.hid ((far_grownL HGB.out.lets HFB.out hg7).setNewP (j := 0) (v := .slice (some ⟨g7, 0, none⟩) (ls.length + 1) cp7) (Nat.le_refl _))
                clear hown7 hg7 hat7 hlt7 hog hrw7 hn7
                refine mixPost_keep ((hSd _).2 ⟨u0, u1, u3⟩) ?_
                (repeat ((with_reducible refine wpMix_read (o := ?_) ?_ ?_ ?_); rotate_left; (· rfl); (· rfl); go_big_quiet_step (fail); (with_reducible refine wpQuiet_nil ?_)))
                refine wpMix_eff (k := false) rfl rfl (by kernel_rfl) ?_
                clear cs hne hS0 hSd u1 u3
                go_wp2_with fail
                refine mixPost_last ?_
                refine wpMix_nil ?_
                go_wp2_with fail
                have hla := HPC.out.lt
                obtain ⟨n', rfl⟩ : ∃ n', n = n' + 1 := ⟨n - 1, by omega⟩
                go_roundg (n' + 1)
                case measure => omega
                case rel => exact ⟨n', _, _, _, a8 + 1, c8, rfl, by omega, by omega, by simp; omega, by show _ = _; rw [HYZ.out]; exact HM.out, HPC.out, HGC.out, HFC.out, HE0.out.farP H0.out HFC.out⟩
              · rw [if_neg hin] at hm
                have hin' : PR.isT (T.drop a8) 1 PR.inW = false := by simpa using hin
                rw [hin'] at HI8
                have hff : PR.form (α := List PR.LetT × TA) (T.drop a8) = .bad 2 (T.getD a8 lt0).at_ := by unfold PR.form; rw [hd_drop hl8]
                have ho : OUT = .bad 2 (T.getD a8 lt0).at_ := hm.symm.trans hff
                have HO := Lib.hid ho
                clear hm hp8 hv8 hf8 hy hyz hin hin' hff ho
                go_wp2_with fail
                refine HI8.out.mono ?_
                rintro e w9 ⟨rfl, hb9⟩
                have HFO := Lib.hid (prForm_any (HP8.out.later hb9))
                go_wp2_with fail
                refine HFO.out.mono ?_
                rintro e wa ⟨rfl, hba⟩
                exact ⟨rfl, by rw [HO.out]; exact ⟨HF8.out.trans (Far.below (ext_step hb9 hba)), rfl⟩⟩
    · have hgo2 := hgo.out
      rw [PR.progGo, if_neg hsg] at hgo2
      have HM := Lib.hid hgo2
      have hsg' : PR.isT (T.drop a2) 1 PR.letW = false := by simpa using hsg
      rw [hsg'] at HIS
      clear hgo2 hgo hsg hsg'
      go_wp2_with fail
      refine HIS.out.mono ?_
      rintro e w3 ⟨rfl, hb3⟩
      have HP3 := Lib.hid (HP2.out.later hb3)
      have HG3 := Lib.hid (HG2.out.later hb3)
      have HF3 := Lib.hid (HF2.out.trans (Far.below hb3))
      clear hb3 HIS
      go_wp2_with fail
      refine (prChain_any HFN.out 60 0 rfl _ _ _ HP3.out (HE0.out.farP H0.out HF3.out)).mono ?_
      rintro e w8 ⟨hf8, hr8⟩
      generalize PR.chain 60 (T.drop a2) c2 = R8 at hr8 HM
      cases R8 with
      | bad en x =>
        have hr8 : e = faultV en x := hr8
        subst hr8
        have ho : OUT = .bad en x := HM.out.symm
        exact ⟨rfl, by rw [ho]; exact ⟨HF3.out.trans hf8, rfl⟩⟩
      | ok x8 ts8 c8 =>
        obtain ⟨_, a8, rfl, ha8, rfl, hp8, hv8⟩ := hr8
        obtain ⟨y, rfl, hy, hyz⟩ := hv8.open
        have hm := HM.out
        simp only [PR.bind_ok] at hm
        have hl8 := hp8.lt
        rw [hd_drop hl8] at hm
        have hg8 := HG3.out.farP HP3.out hf8 HPL.out
        have q1 := hg8.cells.2
        have fz1 := frozen_of_row _ _ 1 _ _ hg8.row
        have HY8 := Lib.hid ((hy.up (w0 := w) HF3.out.size).putP (j := 1) (x := ptr y.b) hg8.row)
        have HG8 : Hid (PgAt w (w8.setCell ⟨w.heap.size, 1, none⟩ (ptr y.b)) w.heap.size ls kv (ptr y.b) lts) := hg8.body (ptr y.b)
        have HP8 := Lib.hid (hp8.keepN (w' := w8.setCell ⟨w.heap.size, 1, none⟩ (ptr y.b)) hg8.row (by decide) (by decide) (by have := HPL.out; omega) (by have := HGL.out; omega) (fun k hk hne => Below.heap_setCell _ _ _ _ hne))
        have HF8 := Lib.hid ((HF3.out.trans hf8).setNewP (j := 1) (v := ptr y.b) (Nat.le_refl _))
        have HYZ := Lib.hid hyz
        have HN8 := Lib.hid (prNext_any HP8.out)
        have HFO := Lib.hid (fun W (hb : Below (w8.setCell ⟨w.heap.size, 1, none⟩ (ptr y.b)).heap.size (w8.setCell ⟨w.heap.size, 1, none⟩ (ptr y.b)) W) => prForm_any (HP8.out.later hb))
        replace HM := Lib.hid hm
        clear hm hp8 hv8 hf8 hy hyz hg8
        generalize htk : T.getD a8 lt0 = tk at *
        have HTK := Lib.hid htk
        clear htk
        obtain ⟨kd, tx, ro, pa⟩ := tk
        simp only at HM
        by_cases hk0 : kd = 0
        · rw [if_pos hk0] at HM
          have e0 : (((kd : Nat) : Int) != 0) = false := by rw [hk0]; rfl
          clear hk0
          go_wp2_with fail
          refine HN8.out.mono ?_
          rintro e w9 ⟨po9, rfl, _, hb9⟩
          simp only [tkV]
          have HP9 := Lib.hid (HP8.out.later hb9)
          have HG9 := Lib.hid (HG8.out.later hb9)
          have HY9 := Lib.hid (HY8.out.later hb9)
          have HF9 := Lib.hid (HF8.out.trans (Far.below hb9))
          clear hb9 HN8
          go_wp2_with fail
          go_ret
          have ho : OUT = .ok (ls, x8) (T.drop a8) c8 := HM.out.symm
          rw [ho]
          exact ⟨HF9.out, _, a8, rfl, by omega, rfl, HP9.out, _, kv, lts, y, rfl, HG9.out, HY9.out, HYZ.out⟩
        · rw [if_neg hk0] at HM
          have e0 := (ne_tuple kd hk0).1
          have hff : OUT = .bad 2 pa := by
            rw [← HM.out]; unfold PR.form; rw [hd_drop hl8, HTK.out]
          have HO := Lib.hid hff
          clear hff hk0
          go_wp2_with fail
          refine HN8.out.mono ?_
          rintro e w9 ⟨po9, rfl, _, hb9⟩
          simp only [tkV]
          go_wp2_with fail
          refine (HFO.out _ hb9).mono ?_
          rintro e wa ⟨rfl, hba⟩
          exact ⟨rfl, by rw [HO.out]; exact ⟨HF8.out.trans (Far.below (ext_step hb9 hba)), rfl⟩⟩
end Go.Proofs.YtgamknphlmcgnaaGreatDoor
namespace Go.Proofs.YtgamknphlmcgnaaGreatDoor
open Go.RowKit
variable {W W' : World} {p : Nat}
/-- Read's results, each in a variable -/
structure RdV (B : Nat) (W : World) (v0 v1 v2 : Value) : Prop where
  r0 : W.heap[B]? = some (.cells #[v0] 23 (0, 0))
  r1 : W.heap[B + 1]? = some (.cells #[v1] 24 (0, 0))
  r2 : W.heap[B + 1 + 1]? = some (.cells #[v2] 25 (0, 0))
theorem RdV.later {B : Nat} {v0 v1 v2 : Value} (h : RdV B W v0 v1 v2) (hb : Below W.heap.size W W') : RdV B W' v0 v1 v2 := ⟨heap_in h.r0 hb, heap_in h.r1 hb, heap_in h.r2 hb⟩
theorem RdV.far {B : Nat} {v0 v1 v2 : Value} (h : RdV B W v0 v1 v2) (hf : Far p W W') (hp : B + 2 < p) : RdV B W' v0 v1 v2 :=
  ⟨(hf.block _ (Array.getElem?_eq_some_iff.1 h.r0).1 (fun e => by have e := Option.some.inj e; omega)).trans h.r0, (hf.block _ (Array.getElem?_eq_some_iff.1 h.r1).1 (fun e => by have e := Option.some.inj e; omega)).trans h.r1, (hf.block _ (Array.getElem?_eq_some_iff.1 h.r2).1 (fun e => by have e := Option.some.inj e; omega)).trans h.r2⟩
theorem RdV.cells {B : Nat} {v0 v1 v2 : Value} (h : RdV B W v0 v1 v2) : W.cell? ⟨B, 0, none⟩ = some v0 ∧ W.cell? ⟨B + 1, 0, none⟩ = some v1 ∧ W.cell? ⟨B + 1 + 1, 0, none⟩ = some v2 ∧ W.frozen? ⟨B, 0, none⟩ = false ∧ W.frozen? ⟨B + 1, 0, none⟩ = false ∧ W.frozen? ⟨B + 1 + 1, 0, none⟩ = false :=
  ⟨by rw [cell_of_row _ _ _ _ _ _ h.r0]; rfl, by rw [cell_of_row _ _ _ _ _ _ h.r1]; rfl, by rw [cell_of_row _ _ _ _ _ _ h.r2]; rfl, frozen_of_row _ _ 0 _ _ h.r0, frozen_of_row _ _ 0 _ _ h.r1, frozen_of_row _ _ 0 _ _ h.r2⟩
theorem RdV.set0 {B : Nat} {v0 v1 v2 : Value} (h : RdV B W v0 v1 v2) (u : Value) : RdV B (W.setCell ⟨B, 0, none⟩ u) u v1 v2 :=
  ⟨by rw [heap_setCell_same _ _ _ _ _ _ h.r0]; rfl, (Below.heap_setCell _ _ _ _ (by show B + 1 ≠ B; omega)).trans h.r1, (Below.heap_setCell _ _ _ _ (by show B + 1 + 1 ≠ B; omega)).trans h.r2⟩
theorem RdV.set1 {B : Nat} {v0 v1 v2 : Value} (h : RdV B W v0 v1 v2) (u : Value) : RdV B (W.setCell ⟨B + 1, 0, none⟩ u) v0 u v2 :=
  ⟨(Below.heap_setCell _ _ _ _ (by show B ≠ B + 1; omega)).trans h.r0, by rw [heap_setCell_same _ _ _ _ _ _ h.r1]; rfl, (Below.heap_setCell _ _ _ _ (by show B + 1 + 1 ≠ B + 1; omega)).trans h.r2⟩
theorem RdV.set2 {B : Nat} {v0 v1 v2 : Value} (h : RdV B W v0 v1 v2) (u : Value) : RdV B (W.setCell ⟨B + 1 + 1, 0, none⟩ u) v0 v1 u :=
  ⟨(Below.heap_setCell _ _ _ _ (by show B ≠ B + 1 + 1; omega)).trans h.r0, (Below.heap_setCell _ _ _ _ (by show B + 1 ≠ B + 1 + 1; omega)).trans h.r1, by rw [heap_setCell_same _ _ _ _ _ _ h.r2]; rfl⟩
theorem assert_fault (en x : Int) (w : World) : (Instr.typeAssert (.iface 103 (.agg #[.int .i64 en, .int .i64 x])) 20 103 true).run Tryz.prog w = .ok (.tuple #[.agg #[.int .i64 en, .int .i64 x], .bool true]) w := by kernel_rfl
theorem assert_none (w : World) : (Instr.typeAssert .nilIface 20 103 true).run Tryz.prog w = .ok (.tuple #[.agg #[.int .i64 0, .int .i64 0], .bool false]) w := by kernel_rfl
set_option maxRecDepth 100000 in
set_option maxHeartbeats 1600000 in
theorem readCatch_idle (p0 p1 p2 : Addr) (w : World) :
    CallsD Tryz.prog 55 #[.pointer (some p0), .pointer (some p1), .pointer (some p2)] .returning w fun e u' w' =>
      e = .returned (.tuple #[]) ∧ u' = .returning ∧ w' = w.alloc (.cells #[.int .i64 0, .int .i64 0] 103) := by
  refine callsD_of_wpS Tryz.func55 rfl fun c₀ cs hu => ?_
  apply wpS_seq
  apply wpS_region
  simp [wpOpsS, go_sem, recoverD, hu, Tryz.ntmps55, Exit.thenS, assert_none]
  refine wpS_of_wp ?_
  change Code.wp _ _ _ { tmps := #[.pointer (some p0), .pointer (some p1), .pointer (some p2), .pointer (some ⟨w.heap.size, 0, none⟩), .bool false, .tuple #[.agg #[.int .i64 0, .int .i64 0], .bool false], .nilIface, .tuple #[.agg #[.int .i64 0, .int .i64 0], .bool false], .agg #[.int .i64 0, .int .i64 0], .bool false, undef, undef, undef, undef, undef], defers := [] } _
  go_wp2_with fail
  simp_all [bodyPostS, results, Tryz.results55]
  cases c₀
  simp_all
set_option maxRecDepth 100000 in
set_option maxHeartbeats 1600000 in
theorem readCatch_fault (B : Nat) (v0 v1 v2 : Value) (en x : Int) (older : List PanicEntry) (w : World) (h : RdV B w v0 v1 v2) :
    CallsD Tryz.prog 55 #[.pointer (some ⟨B, 0, none⟩), .pointer (some ⟨B + 1, 0, none⟩), .pointer (some ⟨B + 1 + 1, 0, none⟩)] (.panicking ({ v := .iface 103 (.agg #[.int .i64 en, .int .i64 x]), recovered := false } :: older)) w fun e u' w' =>
      e = .returned (.tuple #[]) ∧ u' = .panicking ({ v := .iface 103 (.agg #[.int .i64 en, .int .i64 x]), recovered := true } :: older) ∧ RdV B w' (.pointer none) (.int .i64 en) (.int .i64 x) ∧ Below B w w' := by
  have hx := re_alloc w (.cells #[.int .i64 en, .int .i64 x] 103)
  have H1 := Lib.hid (h.later hx)
  have H2 := Lib.hid (H1.out.set0 (.pointer none))
  have H3 := Lib.hid (H2.out.set1 (.int .i64 en))
  have H4 := Lib.hid (H3.out.set2 (.int .i64 x))
  have hlt : B + 1 + 1 < w.heap.size := (Array.getElem?_eq_some_iff.1 h.r2).1
  have hrow := heap_alloc_last w (.cells #[.int .i64 en, .int .i64 x] 103)
  have HR1 := Lib.hid hrow
  have HR2 : Hid (((w.alloc (.cells #[.int .i64 en, .int .i64 x] 103)).setCell ⟨B, 0, none⟩ (.pointer none)).heap[w.heap.size]? = some (.cells #[.int .i64 en, .int .i64 x] 103 (0, 0))) := (Below.heap_setCell _ _ _ _ (by show w.heap.size ≠ B; omega)).trans HR1.out
  have HR3 : Hid ((((w.alloc (.cells #[.int .i64 en, .int .i64 x] 103)).setCell ⟨B, 0, none⟩ (.pointer none)).setCell ⟨B + 1, 0, none⟩ (.int .i64 en)).heap[w.heap.size]? = some (.cells #[.int .i64 en, .int .i64 x] 103 (0, 0))) := (Below.heap_setCell _ _ _ _ (by show w.heap.size ≠ B + 1; omega)).trans HR2.out
  have hcl : ∀ W : World, W.heap[w.heap.size]? = some (.cells #[.int .i64 en, .int .i64 x] 103 (0, 0)) → W.cell? ⟨w.heap.size, 0, none⟩ = some (.int .i64 en) ∧ W.cell? ⟨w.heap.size, 1, none⟩ = some (.int .i64 x) := fun W hW => ⟨by rw [cell_of_row _ _ _ _ _ _ hW]; rfl, by rw [cell_of_row _ _ _ _ _ _ hW]; rfl⟩
  have HCL := Lib.hid hcl
  have HB : Hid (Below B w ((((w.alloc (.cells #[.int .i64 en, .int .i64 x] 103)).setCell ⟨B, 0, none⟩ (.pointer none)).setCell ⟨B + 1, 0, none⟩ (.int .i64 en)).setCell ⟨B + 1 + 1, 0, none⟩ (.int .i64 x))) :=
    ((((hx.mono (by omega)).setCell (by show B ≤ B; omega) _).setCell (by show B ≤ B + 1; omega) _).setCell (by show B ≤ B + 1 + 1; omega) _)
  obtain ⟨S, hSd⟩ : ∃ S : World → Prop, ∀ W', S W' ↔ (W'.cell? ⟨w.heap.size, 0, none⟩ = some (.int .i64 en) ∧ W'.cell? ⟨w.heap.size, 1, none⟩ = some (.int .i64 x)) := ⟨_, fun _ => Iff.rfl⟩
  have hS0 : S (w.alloc (.cells #[.int .i64 en, .int .i64 x] 103)).drew := (hSd _).2 (hcl _ hrow)
  clear hcl hrow hx h
  refine callsD_of_wpS Tryz.func55 rfl fun c₀ cs hu => ?_
  apply wpS_seq
  apply wpS_region
  simp [wpOpsS, go_sem, recoverD, hu, Tryz.ntmps55, Exit.thenS, assert_fault]
  refine wpS_of_wp ?_
  simp only [Array.replicate, List.replicate, List.setIfInBounds_toArray, List.set, List.append_toArray, List.cons_append, List.nil_append]
  have cs' : ∀ q : InC S, q.w.cell? ⟨w.heap.size, 0, none⟩ = some (.int .i64 en) ∧ q.w.cell? ⟨w.heap.size, 1, none⟩ = some (.int .i64 x) := fun q => (hSd _).1 q.h
  have hne : Nonempty (InC S) := ⟨⟨_, hS0⟩⟩
  go_wp2_with fail
  refine wp_region_mix S [0, 1, 2, 3] [0, 1, 2, 3, 4, 5, 6] (by kernel_rfl) (by kernel_rfl) hS0 ?_
  (repeat ((with_reducible refine wpMix_read (o := ?_) ?_ ?_ ?_); rotate_left; (· rfl); (· rfl); go_big_quiet_step (fail); (with_reducible refine wpQuiet_nil ?_)))
  have k1 := H1.out.cells
  refine wpMix_eff (k := true) rfl rfl (by kernel_rfl) ?_
  go_wp2_with fail
  refine mixPost_keep ((hSd _).2 (HCL.out _ HR2.out)) ?_
  clear k1
  have k2 := H2.out.cells
  refine wpMix_eff (k := true) rfl rfl (by kernel_rfl) ?_
  go_wp2_with fail
  refine mixPost_keep ((hSd _).2 (HCL.out _ HR3.out)) ?_
  clear k2
  have k3 := H3.out.cells
  refine wpMix_eff (k := false) rfl rfl (by kernel_rfl) ?_
  clear cs' hne hS0 hSd
  go_wp2_with fail
  refine mixPost_last ?_
  refine wpMix_nil ?_
  go_wp2_with fail
  refine ⟨rfl, _, rfl, .tuple #[], by simp [results, Tryz.results55], rfl, rfl, ⟨H4.out.r0, H4.out.r1, H4.out.r2⟩, HB.out.drew⟩
end Go.Proofs.YtgamknphlmcgnaaGreatDoor
namespace Go.Proofs.YtgamknphlmcgnaaGreatDoor
open Go.RowKit
variable {w w' W W' : World} {p g cap a d c : Nat} {T : List LT}
theorem PgV.up {w0 w1 : World} {v : Value} {r : List PR.LetT × TA} (h : PgV w1 W v r) (hs : w0.heap.size ≤ w1.heap.size) : PgV w0 W v r := by
  obtain ⟨B, kv, lts, t, h1, h2, h3, h4⟩ := h
  refine ⟨B, kv, lts, t, h1, ⟨h2.row, Nat.le_trans hs h2.lo, h2.lets.fst, ?_, fun x hx => ⟨(h2.lets.tm x hx).1.up hs, (h2.lets.tm x hx).2⟩⟩, h3.up hs, h4⟩
  obtain ⟨g1, g2⟩ := h2.lets.own
  refine ⟨g1, ?_⟩
  rcases g2 with g2 | ⟨g', cap', cur, e1, e2, e3⟩
  · exact .inl g2
  · exact .inr ⟨g', cap', cur, e1, Nat.le_trans hs e2, e3⟩
theorem PgV.later {w0 : World} {v : Value} {r : List PR.LetT × TA} (h : PgV w0 W v r) (hb : Below W.heap.size W W') : PgV w0 W' v r := by
  obtain ⟨B, kv, lts, t, h1, h2, h3, h4⟩ := h
  exact ⟨B, kv, lts, t, h1, h2.later hb, h3.later hb, h4⟩
/-- a block of another kind is written -/
theorem PgV.putO {w0 : World} {v : Value} {r : List PR.LetT × TA} {B j : Nat} {x : Value} {cs : Array Value} {t : TypeId} (h : PgV w0 W v r) (hr : W.heap[B]? = some (.cells cs t (0, 0))) (h1 : t ≠ 117) (h2 : t ≠ 28) (h3 : t ≠ 68) (h4 : t ≠ 62) (h5 : t ≠ 88) (h6 : t ≠ 77) : PgV w0 (W.setCell ⟨B, j, none⟩ x) v r := by
  have key : ∀ t : TA, TmB w0 W t → TmB w0 (W.setCell ⟨B, j, none⟩ x) t := fun t ht =>
    ⟨IsTa.put hr h1 h2 h3 h4 (fun k _ hk => Below.heap_setCell _ _ _ _ hk) t ht.is, fun y hy => by simpa using ht.blk y hy, ht.nod⟩
  obtain ⟨B', kv, lts, t, e1, e2, e3, e4⟩ := h
  refine ⟨B', kv, lts, t, e1, ⟨(Below.heap_setCell _ _ _ _ (by show B' ≠ B; exact ne_of_ty e2.row hr (fun e => h6 e.symm))).trans e2.row, e2.lo, e2.lets.fst, ?_, fun y hy => ⟨key _ (e2.lets.tm y hy).1, (e2.lets.tm y hy).2⟩⟩, key _ e3, e4⟩
  obtain ⟨g1, g2⟩ := e2.lets.own
  refine ⟨g1, ?_⟩
  rcases g2 with g2 | ⟨g', cap', cur, f1, f2, f3, f4⟩
  · exact .inl g2
  · exact .inr ⟨g', cap', cur, f1, f2, (Below.heap_setCell _ _ _ _ (by show g' ≠ B; exact ne_of_ty f3 hr (fun e => h5 e.symm))).trans f3, f4⟩
theorem below_set3 {B : Nat} (h : Below B w W) (x0 x1 x2 : Value) : Below B w (((W.setCell ⟨B, 0, none⟩ x0).setCell ⟨B + 1, 0, none⟩ x1).setCell ⟨B + 1 + 1, 0, none⟩ x2) :=
  ((h.setCell (by show B ≤ B; omega) _).setCell (by show B ≤ B + 1; omega) _).setCell (by show B ≤ B + 1 + 1; omega) _
theorem below_farP {B : Nat} (h : Below B w W) (hf : Far p W W') (hp : B ≤ p) (hs : B ≤ W.heap.size) : Below B w W' :=
  ⟨hf.os.trans h.os, hf.tape.trans h.tape, hf.output.trans h.output, Nat.le_trans h.size hf.size, fun k hk => (hf.block k (by omega) (fun e => by have e := Option.some.inj e; omega)).trans (h.block k hk)⟩
theorem TkRow.putO {B j : Nat} {x : Value} {cs : Array Value} {t : TypeId} (h : TkRow W g T) (hr : W.heap[B]? = some (.cells cs t (0, 0))) (h1 : t ≠ 117) (h2 : t ≠ 28) (hg : g ≠ B) : TkRow (W.setCell ⟨B, j, none⟩ x) g T := by
  have key : ∀ i v, W.cell? ⟨g, i, none⟩ = some v → (W.setCell ⟨B, j, none⟩ x).cell? ⟨g, i, none⟩ = some v := fun i v hv =>
    (World.cell?_of_block (w := W) (w' := W.setCell ⟨B, j, none⟩ x) (a := ⟨g, i, none⟩) (Below.heap_setCell _ _ _ _ (by show g ≠ B; exact hg))).trans hv
  refine ⟨fun i hi => key _ _ (h.c0 i hi), fun i hi => key _ _ (h.c1 i hi), fun i hi => ?_, fun i hi => key _ _ (h.c3 i hi)⟩
  obtain ⟨v, g1, g2⟩ := h.c2 i hi
  exact ⟨v, key _ _ g1, g2.put hr h1 h2 (fun k _ hk => Below.heap_setCell _ _ _ _ hk)⟩
/-- what Read leaves -/
def PReadPost (w : World) (R : Option (List PR.LetT × TA) × Nat × Nat) (e : Ending) (w' : World) : Prop :=
  ∃ v, e = .returned (.tuple #[v, .int .i64 (R.2.1 : Nat), .int .i64 (R.2.2 : Nat)]) ∧ Below w.heap.size w w' ∧ match R.1 with | none => v = .pointer none | some r => PgV w w' v r
set_option maxRecDepth 100000 in
set_option maxHeartbeats 4000000 in
theorem prRead_any (s : List UInt8) (w : World) (hE : EnvP w) (hs0 : s.length ≤ 140737488355328) :
    Calls Tryz.prog 16 #[.string ⟨s.toArray⟩] w (PReadPost w (parseW s)) := by
  have hmf : ∀ (fn : Fn) (first cap : Array Value) (w : World), (Instr.makeFunc fn first cap).run Tryz.prog w = .ok (.func fn first cap) w := fun _ _ _ _ => rfl
  have HE := Lib.hid hE
  have HL := Lib.hid (fun W (hT : Tab W) => lxAll_any W s hT hs0)
  have hx : Below w.heap.size w (((w.alloc (.cells #[.pointer none] 23)).alloc (.cells #[.int .i64 0] 24)).alloc (.cells #[.int .i64 0] 25)) := ext_alloc (ext_alloc (re_alloc w _) _) _
  have HX := Lib.hid hx
  have HP : Hid (parseW s = if (lexW s).2.1 ≠ 0 then (none, (lexW s).2.1, (lexW s).2.2) else match PR.prog (lexW s).1 with | .ok r _ _ => (some r, 0, 0) | .bad e a => (none, e, a)) := rfl
  have HFI := Lib.hid (lexW_fine s)
  obtain ⟨OUT, hOUT⟩ : ∃ OUT, parseW s = OUT := ⟨_, rfl⟩
  rw [hOUT]
  rw [HP.out] at hOUT
  have HM := Lib.hid hOUT
  clear hOUT HP hE hx
  generalize lexW s = L at *
  obtain ⟨toks, en, q⟩ := L
  simp only at HM HFI
  generalize (⟨s.toArray⟩ : ByteArray) = S at *
  go_enter_defers Tryz.func16, Tryz.ntmps16
  go_wp2_with fail
  refine (HL.out _ (HE.out.tab.later HX.out)).mono ?_
  rintro e w4 ⟨v, rfl, htk, hb4⟩
  simp only at htk
  have hrv : RdV w.heap.size (((w.alloc (.cells #[.pointer none] 23)).alloc (.cells #[.int .i64 0] 24)).alloc (.cells #[.int .i64 0] 25)) (.pointer none) (.int .i64 0) (.int .i64 0) := by
    refine ⟨heap_in (heap_in (heap_alloc_last w _) (re_alloc _ _)) (re_alloc _ _), ?_, ?_⟩
    · have := heap_in (heap_alloc_last (w.alloc (.cells #[.pointer none] 23)) (.cells #[.int .i64 0] 24)) (re_alloc _ (.cells #[.int .i64 0] 25))
      rw [show (w.alloc (.cells #[.pointer none] 23)).heap.size = w.heap.size + 1 by simp] at this
      exact this
    · have := heap_alloc_last ((w.alloc (.cells #[.pointer none] 23)).alloc (.cells #[.int .i64 0] 24)) (.cells #[.int .i64 0] 25)
      rw [show ((w.alloc (.cells #[.pointer none] 23)).alloc (.cells #[.int .i64 0] 24)).heap.size = w.heap.size + 1 + 1 by simp] at this
      exact this
  have hv4 := hrv.later hb4
  have hv5 := (hv4.set1 (.int .i64 (en : Nat))).set2 (.int .i64 (q : Nat))
  have hb5 : Below w.heap.size w ((w4.setCell ⟨w.heap.size + 1, 0, none⟩ (.int .i64 (en : Nat))).setCell ⟨w.heap.size + 1 + 1, 0, none⟩ (.int .i64 (q : Nat))) := ((ext_step HX.out hb4).setCell (by show w.heap.size ≤ w.heap.size + 1; omega) _).setCell (by show w.heap.size ≤ w.heap.size + 1 + 1; omega) _
  have HV4 := Lib.hid hv4
  have HV5 := Lib.hid hv5
  have HB5 := Lib.hid hb5
  have c4 := hv4.cells
  by_cases hen : en = 0
  · subst hen
    obtain ⟨hfin, hpos⟩ := HFI.out rfl
    have hm := HM.out
    rw [if_neg (by simp)] at hm
    obtain ⟨g, cap, rfl⟩ : ∃ g cap, v = .slice (some ⟨g, 0, none⟩) toks.length cap := by
      obtain ⟨tvs, htv, hown, _⟩ := htk
      obtain ⟨g, cap, rfl, _⟩ := hown.form hpos
      exact ⟨g, cap, rfl⟩
    have hrow := (TkRow.of htk).1
    have hgB : ∀ k, k < 3 → g ≠ w.heap.size + k := fun k hk => by
      obtain ⟨tvs, htv, hown, _⟩ := htk
      obtain ⟨g1, cap1, e1, hlo, _⟩ := hown.form hpos
      injection e1 with e1
      have e1 := Option.some.inj e1
      injection e1 with e1
      have : w.heap.size + 3 ≤ g := by
        rw [e1]
        have := hlo
        simp at this
        omega
      omega
    have htk5 : TkRow ((w4.setCell ⟨w.heap.size + 1, 0, none⟩ (.int .i64 ((0 : Nat) : Int))).setCell ⟨w.heap.size + 1 + 1, 0, none⟩ (.int .i64 (q : Nat))) g toks := (hrow.putO hv4.r1 (by decide) (by decide) (hgB 1 (by omega))).putO (hv4.set1 (.int .i64 ((0 : Nat) : Int))).r2 (by decide) (by decide) (hgB 2 (by omega))
    have hm2 : PR.prog toks = PR.progGo (toks.drop 0).length [] (toks.drop 0) 0 := rfl
    rw [hm2] at hm
    have hx6 := re_alloc ((w4.setCell ⟨w.heap.size + 1, 0, none⟩ (.int .i64 ((0 : Nat) : Int))).setCell ⟨w.heap.size + 1 + 1, 0, none⟩ (.int .i64 (q : Nat))) (.cells (prCells g toks.length cap 0 0 0) 107)
    have hp6 : PrAt (World.alloc ((w4.setCell ⟨w.heap.size + 1, 0, none⟩ (.int .i64 ((0 : Nat) : Int))).setCell ⟨w.heap.size + 1 + 1, 0, none⟩ (.int .i64 (q : Nat))) (.cells (prCells g toks.length cap 0 0 0) 107)) w4.heap.size toks g cap 0 0 0 := by
      refine ⟨?_, htk5.later hx6, hpos, by omega, by omega⟩
      have := heap_alloc_last ((w4.setCell ⟨w.heap.size + 1, 0, none⟩ (.int .i64 ((0 : Nat) : Int))).setCell ⟨w.heap.size + 1 + 1, 0, none⟩ (.int .i64 (q : Nat))) (.cells (prCells g toks.length cap 0 0 0) 107)
      simpa using this
    have HV6 := Lib.hid (hv5.later hx6)
    have HB6 := Lib.hid (ext_step hb5 hx6)
    have HPG := Lib.hid (prProgram_any hp6 hfin (HE.out.later (ext_step hb5 hx6)))
    have HM2 := Lib.hid hm
    have HSZ : Hid (w.heap.size + 2 < w4.heap.size) := by show w.heap.size + 2 < w4.heap.size; have := (Array.getElem?_eq_some_iff.1 hv4.r2).1; omega
    clear hrv hv4 hv5 hb5 htk hb4 hm hm2 hrow htk5 hx6 hp6 HFI HM hfin hpos
    go_upto_region 2 with fail
    have c5 := HV5.out.cells
    go_wp2_with fail
    refine HPG.out.mono ?_
    rintro e w7 ⟨hf7, hr7⟩
    generalize PR.progGo (toks.drop 0).length [] (toks.drop 0) 0 = R7 at hr7 HM2
    have hv7 := HV6.out.far hf7 HSZ.out
    have hb7 : Below w.heap.size w w7 := by
      exact below_farP HB6.out hf7 (by have := HSZ.out; omega) HB6.out.size
    cases R7 with
    | bad en x =>
      have hr7 : e = faultV en x := hr7
      subst hr7
      have ho : OUT = (none, en, x) := HM2.out.symm
      have HO := Lib.hid ho
      show bodyPostD _ _ _ _ _ _
      refine leaves_cons (f := 55) (args := #[.pointer (some ⟨w.heap.size, 0, none⟩), .pointer (some ⟨w.heap.size + 1, 0, none⟩), .pointer (some ⟨w.heap.size + 1 + 1, 0, none⟩)]) (by simp) (by simp [go_sem]) ?_
      refine (readCatch_fault w.heap.size _ _ _ en x [] _ hv7).mono ?_
      rintro e u' w'' ⟨rfl, rfl, hv9, hb9⟩
      have d9 := hv9.cells
      simp [Leaves, settle, results, Tryz.results16, go_sem, d9]
      rw [HO.out]
      exact ⟨_, rfl, hb7.trans hb9, rfl⟩
    | ok x7 ts7 c7 =>
      obtain ⟨v7, a7, rfl, _, _, _, hv⟩ := hr7
      have ho : OUT = (some x7, 0, 0) := HM2.out.symm
      have HO := Lib.hid ho
      obtain ⟨B7, kv7, lts7, t7, rfl, hpg⟩ := hv
      have HPV := Lib.hid hpg
      have c7' := hv7.cells
      clear ho hpg
      go_wp2_with fail
      have hv8 := ((hv7.set0 (.pointer (some ⟨B7, 0, none⟩))).set1 (.int .i64 0)).set2 (.int .i64 0)
      refine leaves_cons (f := 55) (args := #[.pointer (some ⟨w.heap.size, 0, none⟩), .pointer (some ⟨w.heap.size + 1, 0, none⟩), .pointer (some ⟨w.heap.size + 1 + 1, 0, none⟩)]) (by simp) (by simp [go_sem]) ?_
      refine (readCatch_idle _ _ _ _).mono ?_
      rintro e u' w'' ⟨rfl, rfl, rfl⟩
      have hv9 := hv8.later (re_alloc _ (.cells #[.int .i64 0, .int .i64 0] 103))
      have d9 := hv9.cells
      have HPF := Lib.hid ((((PgV.up ⟨B7, kv7, lts7, t7, rfl, HPV.out⟩ HB6.out.size).putO (j := 0) (x := .pointer (some ⟨B7, 0, none⟩)) hv7.r0 (by decide) (by decide) (by decide) (by decide) (by decide) (by decide)).putO (j := 0) (x := .int .i64 0) (hv7.set0 (.pointer (some ⟨B7, 0, none⟩))).r1 (by decide) (by decide) (by decide) (by decide) (by decide) (by decide)).putO (j := 0) (x := .int .i64 0) ((hv7.set0 (.pointer (some ⟨B7, 0, none⟩))).set1 (.int .i64 0)).r2 (by decide) (by decide) (by decide) (by decide) (by decide) (by decide) |>.later (re_alloc _ (.cells #[.int .i64 0, .int .i64 0] 103)))
      have HBF := Lib.hid (ext_alloc (below_set3 hb7 (.pointer (some ⟨B7, 0, none⟩)) (.int .i64 0) (.int .i64 0)) (.cells #[.int .i64 0, .int .i64 0] 103))
      simp [Leaves, settle, results, Tryz.results16, go_sem, d9]
      rw [HO.out]
      exact ⟨_, rfl, HBF.out, HPF.out⟩
  · have hen' := (ne_tuple en hen).1
    have ho : OUT = (none, en, q) := by rw [← HM.out, if_pos hen]
    have HO := Lib.hid ho
    clear hrv hv4 hv5 hb5 htk hb4 ho hen HFI HM
    go_upto_region 2 with fail
    generalize (w4.setCell ⟨w.heap.size + 1, 0, none⟩ (.int .i64 (en : Nat))).setCell ⟨w.heap.size + 1 + 1, 0, none⟩ (.int .i64 (q : Nat)) = W5 at *
    clear c4 HV4
    have c5 := HV5.out.cells
    obtain ⟨S', hSd⟩ : ∃ S' : World → Prop, ∀ W', S' W' ↔ (W'.cell? ⟨w.heap.size + 1, 0, none⟩ = some (.int .i64 (en : Nat)) ∧ W'.cell? ⟨w.heap.size + 1 + 1, 0, none⟩ = some (.int .i64 (q : Nat))) := ⟨_, fun _ => Iff.rfl⟩
    have cs : ∀ z : InC S', z.w.cell? ⟨w.heap.size + 1, 0, none⟩ = some (.int .i64 (en : Nat)) ∧ z.w.cell? ⟨w.heap.size + 1 + 1, 0, none⟩ = some (.int .i64 (q : Nat)) := fun z => (hSd _).1 z.h
    have hS0 : S' W5.drew := (hSd _).2 ⟨c5.2.1, c5.2.2.1⟩
    have hne : Nonempty (InC S') := ⟨⟨_, hS0⟩⟩
    have HV6 := Lib.hid (HV5.out.set0 (.pointer none))
    have HV7 := Lib.hid (HV6.out.set1 (.int .i64 (en : Nat)))
    go_wp2_with fail
    refine wp_region_mix S' [0, 1] [0, 1, 2, 3, 4] (by kernel_rfl) (by kernel_rfl) hS0 ?_
    (repeat ((with_reducible refine wpMix_read (o := ?_) ?_ ?_ ?_); rotate_left; (· rfl); (· rfl); go_big_quiet_step (fail); (with_reducible refine wpQuiet_nil ?_)))
    refine wpMix_eff (k := true) rfl rfl (by kernel_rfl) ?_
    go_wp2_with fail
    refine mixPost_keep ((hSd _).2 ⟨HV6.out.cells.2.1, HV6.out.cells.2.2.1⟩) ?_
    refine wpMix_eff (k := true) rfl rfl (by kernel_rfl) ?_
    have c6 := HV6.out.cells
    go_wp2_with fail
    refine mixPost_keep ((hSd _).2 ⟨HV7.out.cells.2.1, HV7.out.cells.2.2.1⟩) ?_
    refine wpMix_eff (k := false) rfl rfl (by kernel_rfl) ?_
    have c7 := HV7.out.cells
    clear cs hne hS0 hSd
    go_wp2_with fail
    refine mixPost_last ?_
    refine wpMix_nil ?_
    go_wp2_with fail
    have HV8 := Lib.hid (HV7.out.set2 (.int .i64 (q : Nat)))
    have d9 := HV8.out.cells
    simp [bodyPostD, Leaves, settle, results, Tryz.results16, go_sem, d9]
    rw [HO.out]
    exact ⟨_, rfl, (below_set3 HB5.out _ _ _).drew, rfl⟩
end Go.Proofs.YtgamknphlmcgnaaGreatDoor
end
section
set_option linter.unusedSimpArgs false
set_option linter.unusedVariables false
set_option maxRecDepth 100000
set_option linter.unnecessarySimpa false
namespace Go.Proofs.YtgamknphlmcgnaaGreatDoor
namespace PR
def headT : List UInt8 := [108, 101, 116, 32, 97, 32, 61, 32, 47, 120, 47, 32, 105, 110, 32, 99, 111, 112, 121, 32, 97, 32, 46, 32, 105, 110, 115, 32, 34, 98, 34]
def headL : LetT := ⟨[97], 4, TA.node 0 1 8 [] (some (RE.node 2 (BS.none.add 120) [])) [] [] []⟩
def headB : TA := TA.node 0 8 22 [] none [] [] [TA.node 0 2 15 [] none [] [] [TA.node 0 0 20 [97] none [] [] []], TA.node 0 6 24 [] none [98] [] []]
theorem head_parse : parseW headT = (some ([headL], headB), 0, 0) := by kernel_rfl
end PR
end Go.Proofs.YtgamknphlmcgnaaGreatDoor
end
section
set_option linter.unusedSimpArgs false
set_option linter.unusedVariables false
set_option maxRecDepth 100000
set_option linter.unnecessarySimpa false
namespace Go.Proofs.YtgamknphlmcgnaaGreatDoor
open Go.RowKit
variable {w w' W W' : World}
theorem TA.zero_fields (t : TA) : t.zero.op = t.op ∧ t.zero.at_ = t.at_ ∧ t.zero.name = t.name ∧ t.zero.re = t.re ∧ t.zero.text = t.text ∧ t.zero.back = t.back ∧ t.zero.kids = TA.zeros t.kids := by
  cases t; exact ⟨rfl, rfl, rfl, rfl, rfl, rfl, rfl⟩
/-- a term of two, as it lies in memory -/
theorem tm_two {w0 : World} {t : TA} {o : Nat} {q : Int} {n tx bk : List UInt8} {r : Option RE} {x y : TA} (h : TmB w0 W t) (hz : t.zero = TA.node 0 o q n r tx bk [x, y]) :
    ∃ (k0 k1 : TA) (kb ko cp : Nat), W.cell? ⟨t.b, 0, none⟩ = some (.int .i64 (o : Nat)) ∧ W.cell? ⟨t.b, 1, none⟩ = some (.int .i64 q) ∧ W.cell? ⟨t.b, 6, none⟩ = some (.slice (some ⟨kb, ko, none⟩) 2 cp) ∧ W.cell? ⟨kb, ko, none⟩ = some (ptr k0.b) ∧ W.cell? ⟨kb, ko + 1, none⟩ = some (ptr k1.b) ∧ k0.zero = x ∧ k1.zero = y ∧ IsTa W k0 ∧ IsTa W k1 := by
  obtain ⟨f1, f2, f3, f4, f5, f6, f7⟩ := t.zero_fields
  rw [hz] at f1 f2 f7
  obtain ⟨⟨rv, kp, cp, hn⟩, hk⟩ := h.is.open
  have hkids : ∃ k0 k1, t.kids = [k0, k1] ∧ k0.zero = x ∧ k1.zero = y := by
    have f7 : [x, y] = TA.zeros t.kids := f7
    match hkk : t.kids with
    | [] => rw [hkk] at f7; simp [TA.zeros] at f7
    | [_] => rw [hkk] at f7; simp [TA.zeros] at f7
    | [k0, k1] => rw [hkk] at f7; simp [TA.zeros] at f7; exact ⟨k0, k1, rfl, f7.1.symm, f7.2.symm⟩
    | _ :: _ :: _ :: _ => rw [hkk] at f7; simp [TA.zeros] at f7
  obtain ⟨k0, k1, hkk, hx, hy⟩ := hkids
  obtain ⟨c0, c1, _, _, _, _, c6⟩ := hn.cells
  have hrow := hn.2.2
  rw [hkk] at hrow c6 hk
  obtain ⟨kb, ko, rfl, hcell⟩ := hrow.at (by simp)
  have e0 := hcell 0 (by simp)
  have e1 := hcell 1 (by simp)
  exact ⟨k0, k1, kb, ko, cp, by rw [c0, ← f1]; rfl, by rw [c1, ← f2]; rfl, c6, by simpa using e0, by simpa using e1, hx, hy, hk k0 (by simp), hk k1 (by simp)⟩
theorem tm_cells {t : TA} {o : Nat} {q : Int} {n tx bk : List UInt8} {r : Option RE} {ks : List TA} (h : IsTa W t) (hz : t.zero = TA.node 0 o q n r tx bk ks) :
    W.cell? ⟨t.b, 0, none⟩ = some (.int .i64 (o : Nat)) ∧ W.cell? ⟨t.b, 2, none⟩ = some (.string ⟨n.toArray⟩) ∧ W.cell? ⟨t.b, 4, none⟩ = some (.string ⟨tx.toArray⟩) := by
  obtain ⟨f1, f2, f3, f4, f5, f6, f7⟩ := t.zero_fields
  rw [hz] at f1 f3 f5
  obtain ⟨⟨rv, kp, cp, hn⟩, _⟩ := h.open
  obtain ⟨c0, _, c2, _, c4, _, _⟩ := hn.cells
  exact ⟨by rw [c0, ← f1]; rfl, by rw [c2, ← f3]; rfl, by rw [c4, ← f5]; rfl⟩
/-- a program of one name -/
theorem pg_one {w0 : World} {B : Nat} {kv bv : Value} {l : PR.LetT} {lts : List (PR.LetT × TA)} (h : PgAt w0 W B [l] kv bv lts) :
    ∃ gl cp, kv = .slice (some ⟨gl, 0, none⟩) 1 cp ∧ W.cell? ⟨gl, 0, none⟩ = some (.string ⟨l.name.toArray⟩) ∧ W.cell? ⟨gl, 1, none⟩ = some (.int .i64 (l.at_ : Nat)) := by
  obtain ⟨h1, h2, h3⟩ := h.lets
  match lts, h1, h2 with
  | [x], h1, h2 =>
    obtain ⟨l', t⟩ := x
    simp only [List.map_cons, List.map_nil, List.cons.injEq, and_true] at h1
    subst h1
    obtain ⟨gl, cp, rfl, _, _⟩ := h2.form (by show 0 < 1; decide)
    have e0 := h2.cellAt 0 (by show 0 < 1 * 3; decide)
    have e1 := h2.cellAt 1 (by show 1 < 1 * 3; decide)
    simp [cellsLet] at e0 e1
    exact ⟨gl, cp, rfl, e0, e1⟩
set_option maxRecDepth 100000 in
set_option maxHeartbeats 1600000 in
theorem prHead_any (w : World) (hE : EnvP w) : Calls Tryz.prog 15 #[] w fun e w' => e = .returned (.bool true) ∧ Below w.heap.size w w' := by
  have HA := Lib.hid (prRead_any PR.headT w hE (by decide))
  rw [PR.head_parse] at HA
  have ht : PR.headT = [108, 101, 116, 32, 97, 32, 61, 32, 47, 120, 47, 32, 105, 110, 32, 99, 111, 112, 121, 32, 97, 32, 46, 32, 105, 110, 115, 32, 34, 98, 34] := rfl
  rw [ht] at HA
  clear ht hE
  go_enter Tryz.func15, Tryz.ntmps15
  go_wp2_with fail
  refine HA.out.mono ?_
  rintro e w1 ⟨v, rfl, hb, B, kv, lts, t, rfl, hpg, ht, hz⟩
  have HB := Lib.hid hb
  obtain ⟨p0, p1⟩ := hpg.cells
  obtain ⟨gl, cp, rfl, l0, l1⟩ := pg_one hpg
  obtain ⟨k0, k1, kb, ko, cp2, t0, t1, t6, e0, e1, hx, hy, hk0, hk1⟩ := tm_two ht hz
  obtain ⟨a0, _, _⟩ := tm_cells hk0 hx
  obtain ⟨_, _, b4⟩ := tm_cells hk1 hy
  have l0 : w1.cell? ⟨gl, 0, none⟩ = some (.string ⟨#[97]⟩) := l0
  have l1 : w1.cell? ⟨gl, 1, none⟩ = some (.int .i64 4) := l1
  have b4 : w1.cell? ⟨k1.b, 4, none⟩ = some (.string ⟨#[98]⟩) := b4
  clear hpg ht hz hb hx hy hk0 hk1 HA
  go_wp2_with fail
  go_ret
  exact ⟨rfl, HB.out⟩
end Go.Proofs.YtgamknphlmcgnaaGreatDoor
end
section
set_option linter.unusedSimpArgs false
set_option linter.unusedVariables false
set_option maxRecDepth 100000
set_option linter.unnecessarySimpa false
namespace Go.Proofs.YtgamknphlmcgnaaGreatDoor
open Go.ChangeShapes Go.WideShapes Go.RowKit Go.Deep
inductive Rose where
  | node (f : List Value) (kids : List Rose)
namespace Rose
def f : Rose → List Value | node f _ => f
def kids : Rose → List Rose | node _ k => k
def none : Rose := node [] []
end Rose
end Go.Proofs.YtgamknphlmcgnaaGreatDoor
namespace Go.Proofs.YtgamknphlmcgnaaGreatDoor
open Go.RowKit
inductive PL where
  | node (op w n : Int) (kids : List PL)
namespace PL
def op : PL → Int | node o _ _ _ => o
def w : PL → Int | node _ x _ _ => x
def n : PL → Int | node _ _ x _ => x
def kids : PL → List PL | node _ _ _ k => k
def none : PL := node 0 0 0 []
mutual
def ok : PL → Prop | node o w n ks => ((Lit.int .i64 o).wf = true ∧ (Lit.int .i64 w).wf = true ∧ (Lit.int .i64 n).wf = true) ∧ oks ks
def oks : List PL → Prop | [] => True | k :: ks => ok k ∧ oks ks
end
mutual
/-- how many parts; those too deep count as many -/
def cnt (deep : Nat) : PL → Nat | node _ _ _ ks => if 10 < deep then 1000 else cntL deep ks 1
def cntL (deep : Nat) : List PL → Nat → Nat
  | [], n => n
  | k :: ks, n => if 1000 < n + cnt (deep + 1) k then n + cnt (deep + 1) k else cntL deep ks (n + cnt (deep + 1) k)
end
end PL
end Go.Proofs.YtgamknphlmcgnaaGreatDoor
end
section
set_option linter.unusedSimpArgs false
set_option linter.unusedVariables false
set_option maxRecDepth 100000
set_option linter.unnecessarySimpa false
namespace Go.Proofs.YtgamknphlmcgnaaGreatDoor
open Go.RowKit
/-- what is left of a number as one without a sign -/
def uMod (n : Int) (m : Nat) : Nat := ((IntKind.u64.wrap n).tmod (m : Int)).toNat
def textL : List (List UInt8) := [[], [97], [98], [97, 98], [120, 59, 121], [34, 113, 34], [10]]
def textN (n : Int) : List UInt8 := textL.getD (uMod n 7) []
namespace RE
def exA : RE := wordL [97]
def exB : RE := wordL [98]
/-- one of few expressions -/
def exprN : Nat → RE
  | 0 => exA
  | 1 => exB
  | 2 => wordL [97, 98]
  | 3 => many (some exA)
  | 4 => anyL [some exA, some exB]
  | 5 => many (some (anyL [some exA, some exB]))
  | 6 => thenL [some exA, some (many (some exB))]
  | 7 => empty
  | _ => wordL [59]
end RE
end Go.Proofs.YtgamknphlmcgnaaGreatDoor
namespace Go.Proofs.YtgamknphlmcgnaaGreatDoor
open Go.RowKit
namespace PL
mutual
def sz : PL → Nat | node _ _ _ ks => 1 + szs ks
def szs : List PL → Nat | [] => 0 | k :: ks => sz k + szs ks
end
end PL
/-- what is left of a number, of two -/
def bit1 (n : Int) : Nat := if bits .and .i64 n 1 = 0 then 0 else 1
def nameN (n : Int) : List UInt8 := if bit1 n = 0 then [107] else [99, 111, 108, 111, 114]
namespace PL
/-- a copy of the one letter -/
def cA : TA := TA.node 0 2 0 [] (some RE.exA) [] [] []
def mkTop (o : Nat) (w n : Int) (l : List TA) : TA :=
  TA.node 0 o 0 (if o = 3 then nameN n else []) (if o = 2 ∨ o = 16 ∨ o = 3 ∨ o = 4 ∨ o = 5 ∨ o = 17 then some (RE.exprN (uMod w 9)) else Option.none)
    (if o = 4 ∨ o = 6 ∨ o = 17 then textN n else []) (if o = 4 then textN (wrap64 (n.tdiv 7)) else if o = 5 then textN n else [])
    (if o = 7 ∨ o = 8 ∨ o = 11 ∨ o = 10 ∨ o = 14 ∨ o = 15 then [l.getD 0 cA, l.getD 1 cA] else if o = 9 ∨ o = 12 ∨ o = 13 then [l.getD 0 cA] else [])
mutual
def mk : PL → TA | node o w n ks => mkTop (2 + uMod o 16) w n (mks ks)
def mks : List PL → List TA | [] => [] | k :: ks => mk k :: mks ks
end
end PL
end Go.Proofs.YtgamknphlmcgnaaGreatDoor
namespace Go.Proofs.YtgamknphlmcgnaaGreatDoor
open Go.RowKit
end Go.Proofs.YtgamknphlmcgnaaGreatDoor
namespace Go.Proofs.YtgamknphlmcgnaaGreatDoor
open Go.RowKit
variable {w W W' : World} {p : PL} {sv rv kv : Value} {b o : Nat} {nm tx bk : List UInt8}
end Go.Proofs.YtgamknphlmcgnaaGreatDoor
end
section
set_option linter.unusedSimpArgs false
set_option linter.unusedVariables false
set_option maxRecDepth 100000
set_option linter.unnecessarySimpa false
namespace Go.Proofs.YtgamknphlmcgnaaGreatDoor
open Go.RowKit
theorem TA.kid_size {t k : TA} (h : k ∈ t.kids) : k.size < t.size := by have := TA.mem_sizes h; rw [t.size_eq]; omega
namespace TA
/-- a term as it may be made -/
def madeTop (o : Nat) (ks : List TA) : Prop :=
  2 ≤ o ∧ o < 18 ∧ (o = 2 ∨ o = 16 ∨ o = 3 ∨ o = 4 ∨ o = 5 ∨ o = 17 → ks = []) ∧ (o = 7 ∨ o = 8 ∨ o = 11 ∨ o = 10 ∨ o = 14 ∨ o = 15 → ∃ x y, ks = [x, y]) ∧ (o = 9 ∨ o = 12 ∨ o = 13 → ∃ x, ks = [x])
mutual
def made : TA → Prop | node _ o _ _ _ _ _ ks => madeTop o ks ∧ mades ks
def mades : List TA → Prop | [] => True | k :: ks => made k ∧ mades ks
end
end TA
end Go.Proofs.YtgamknphlmcgnaaGreatDoor
end
section
set_option linter.unusedSimpArgs false
set_option linter.unusedVariables false
set_option maxRecDepth 100000
set_option linter.unnecessarySimpa false
namespace Go.Proofs.YtgamknphlmcgnaaGreatDoor
namespace LX
/-- from a place on, those tokens -/
inductive Lexes : Nat → List UInt8 → List LT → Prop
  | fin (p : Nat) : Lexes p [] [⟨0, [], none, p⟩]
  | gap (p : Nat) (c : UInt8) (r : List UInt8) (ts : List LT) (hc : c = 32 ∨ c = 9 ∨ c = 10 ∨ c = 13) (h : Lexes (p + 1) r ts) : Lexes p (c :: r) ts
  | rem (p : Nat) (m r : List UInt8) (ts : List LT) (hm : ∀ c ∈ m, c ≠ 10) (h : Lexes (p + (m.length + 2)) r ts) : Lexes p (35 :: (m ++ 10 :: r)) ts
  | name (p : Nat) (b : UInt8) (n r : List UInt8) (ts : List LT) (h1 : letter b true = true) (h2 : ∀ c ∈ n, letter c false = true) (h3 : n.length < 30) (h4 : ∀ c, r.head? = some c → letter c false = false) (h : Lexes (p + (n.length + 1)) r ts) : Lexes p (b :: (n ++ r)) (⟨1, b :: n, none, p⟩ :: ts)
  | sign (p : Nat) (c : UInt8) (r : List UInt8) (ts : List LT) (hc : signs.contains c = true) (h : Lexes (p + 1) r ts) : Lexes p (c :: r) (⟨2, [c], none, p⟩ :: ts)
  | text (p : Nat) (q r out : List UInt8) (ts : List LT) (h1 : untilN 34 (q ++ 34 :: r) = some q.length) (h2 : ∀ i, qGo (q.length + 1) q i [] = (out, none)) (h : Lexes (p + (q.length + 2)) r ts) : Lexes p (34 :: (q ++ 34 :: r)) (⟨3, out, none, p⟩ :: ts)
  | expr (p : Nat) (e r : List UInt8) (x : RE) (ts : List LT) (h1 : untilN 47 (e ++ 47 :: r) = some e.length) (h2 : readW e = (some x, 0, 0)) (h : Lexes (p + (e.length + 2)) r ts) : Lexes p (47 :: (e ++ 47 :: r)) (⟨4, [], some x, p⟩ :: ts)
theorem letter_sub {b : UInt8} (h : letter b true = true) : letter b false = true := by
  unfold letter at h ⊢
  simp only [Bool.not_true, Bool.false_and, Bool.or_false] at h
  rw [h]; rfl
theorem letter_gap {b : UInt8} (h : letter b true = true) : ¬ (b = 32 ∨ b = 9 ∨ b = 10 ∨ b = 13) ∧ b ≠ 35 := by
  constructor
  · rintro (rfl | rfl | rfl | rfl) <;> revert h <;> decide
  · rintro rfl; revert h; decide
theorem nameN_eq : ∀ (n r : List UInt8), (∀ c ∈ n, letter c false = true) → (∀ c, r.head? = some c → letter c false = false) → nameN (n ++ r) = n.length
  | [], [], _, _ => rfl
  | [], c :: r, _, h => by
    have := h c rfl
    show nameN (c :: r) = 0
    rw [nameN, if_neg (by rw [this]; simp)]
  | c :: n, r, h1, h2 => by
    show nameN (c :: (n ++ r)) = _
    rw [nameN, if_pos (h1 c (by simp)), nameN_eq n r (fun c hc => h1 c (by simp [hc])) h2]
    rfl
theorem skipS_rem : ∀ (m r : List UInt8), (∀ c ∈ m, c ≠ 10) → skipS true (m ++ 10 :: r) = skipS false r + (m.length + 1)
  | [], r, _ => by show skipS true (10 :: r) = _; rw [skipS, if_pos rfl]; simp
  | c :: m, r, h => by
    show skipS true (c :: (m ++ 10 :: r)) = _
    rw [skipS, if_neg (h c (by simp)), skipS_rem m r (fun c hc => h c (by simp [hc]))]
    simp; omega
theorem token_nil {s : List UInt8} {a : Nat} (h : s.drop a = []) : token s a = (⟨0, [], none, a⟩, 0, a) := by unfold token; rw [h]
theorem token_cons {s : List UInt8} {a : Nat} {b : UInt8} {r : List UInt8} (h : s.drop a = b :: r) : token s a =
    if letter b true then
      if 30 < nameN (b :: r) then (⟨1, (b :: r).take (nameN (b :: r)), none, a⟩, 3, a) else (⟨1, (b :: r).take (nameN (b :: r)), none, a⟩, 0, a + nameN (b :: r))
    else if signs.contains b then (⟨2, [b], none, a⟩, 0, a + 1)
    else if b = 34 then quoted s a r
    else if b = 47 then expr s a r
    else (⟨0, [], none, a⟩, 2, a) := by unfold token; rw [h]
theorem allGo_same {s : List UInt8} {p q : Nat} (h : next s p = next s q) (f : Nat) (out : List LT) : allGo s (f + 1) p out = allGo s (f + 1) q out := by
  rw [allGo, allGo, h]
theorem drop_more {s r : List UInt8} {p : Nat} {l : List UInt8} (h : s.drop p = l ++ r) : s.drop (p + l.length) = r := by
  rw [← List.drop_drop, h, List.drop_left]
theorem allGo_tok {s : List UInt8} {p q : Nat} {t : LT} (h : next s p = (t, 0, q)) (hk : t.kind ≠ 0) (f : Nat) (out : List LT) : allGo s (f + 1) p out = allGo s f q (out ++ [t]) := by
  rw [allGo, h, if_neg (by simp), if_neg hk]
theorem sign_no {c : UInt8} (h : signs.contains c = true) : letter c true = false ∧ ¬ (c = 32 ∨ c = 9 ∨ c = 10 ∨ c = 13) ∧ c ≠ 35 := by
  have hc : c = 40 ∨ c = 41 ∨ c = 44 ∨ c = 46 ∨ c = 59 ∨ c = 124 ∨ c = 42 ∨ c = 61 := by
    unfold signs at h
    simpa [List.contains_cons] using h
  rcases hc with rfl | rfl | rfl | rfl | rfl | rfl | rfl | rfl <;> decide
theorem Lexes.run {p : Nat} {r : List UInt8} {ts : List LT} (h : Lexes p r ts) : ∀ (s : List UInt8) (f : Nat) (out : List LT), s.drop p = r → r.length < f → allGo s f p out = (out ++ ts, 0, 0) := by
  induction h with
  | fin p =>
    intro s f out hd hf
    obtain ⟨f, rfl⟩ : ∃ f', f = f' + 1 := ⟨f - 1, by omega⟩
    have hn : next s p = (⟨0, [], none, p⟩, 0, p) := by
      unfold next; rw [hd]; exact token_nil hd
    rw [allGo, hn, if_neg (by simp), if_pos rfl]
  | gap p c r ts hc h ih =>
    intro s f out hd hf
    obtain ⟨f, rfl⟩ : ∃ f', f = f' + 1 := ⟨f - 1, by omega⟩
    have hd1 : s.drop (p + 1) = r := drop_more (l := [c]) hd
    have hn : next s p = next s (p + 1) := by
      unfold next; rw [hd, hd1, skipS, if_pos hc]; congr 1; omega
    rw [allGo_same hn]
    exact ih s (f + 1) out hd1 (by simp at hf; omega)
  | rem p m r ts hm h ih =>
    intro s f out hd hf
    obtain ⟨f, rfl⟩ : ∃ f', f = f' + 1 := ⟨f - 1, by omega⟩
    have hd1 : s.drop (p + (m.length + 2)) = r := by
      have := drop_more (s := s) (p := p) (l := 35 :: (m ++ [10])) (r := r) (by rw [hd]; simp)
      rw [← this]; congr 1; simp
    have hn : next s p = next s (p + (m.length + 2)) := by
      unfold next
      rw [hd, hd1, skipS, if_neg (by decide), if_pos rfl, skipS_rem m r hm]
      congr 1; omega
    rw [allGo_same hn]
    exact ih s (f + 1) out hd1 (by simp at hf; omega)
  | name p b n r ts h1 h2 h3 h4 h ih =>
    intro s f out hd hf
    obtain ⟨f, rfl⟩ : ∃ f', f = f' + 1 := ⟨f - 1, by omega⟩
    have hd1 : s.drop (p + (n.length + 1)) = r := by
      have := drop_more (s := s) (p := p) (l := b :: n) (r := r) (by rw [hd]; simp)
      rw [← this]; rfl
    have hnm : nameN (b :: (n ++ r)) = n.length + 1 := nameN_eq (b :: n) r (fun c hc => by
      rcases List.mem_cons.1 hc with rfl | hc
      · exact letter_sub h1
      · exact h2 c hc) h4
    have hn : next s p = (⟨1, b :: n, none, p⟩, 0, p + (n.length + 1)) := by
      unfold next
      obtain ⟨g1, g2⟩ := letter_gap h1
      rw [hd, skipS, if_neg g1, if_neg g2, Nat.add_zero, token_cons hd, if_pos h1, hnm, if_neg (by omega)]
      congr 2
      show (b :: (n ++ r)).take (n.length + 1) = b :: n
      simp
    rw [allGo_tok hn (by simp), ih s f _ hd1 (by simp at hf; omega)]
    simp
  | sign p c r ts hc h ih =>
    intro s f out hd hf
    obtain ⟨f, rfl⟩ : ∃ f', f = f' + 1 := ⟨f - 1, by omega⟩
    have hd1 : s.drop (p + 1) = r := drop_more (l := [c]) hd
    obtain ⟨g0, g1, g2⟩ := sign_no hc
    have hn : next s p = (⟨2, [c], none, p⟩, 0, p + 1) := by
      unfold next
      rw [hd, skipS, if_neg g1, if_neg g2, Nat.add_zero, token_cons hd, if_neg (by rw [g0]; simp), if_pos hc]
    rw [allGo_tok hn (by simp), ih s f _ hd1 (by simp at hf; omega)]
    simp
  | text p q r o ts h1 h2 h ih =>
    intro s f out hd hf
    obtain ⟨f, rfl⟩ : ∃ f', f = f' + 1 := ⟨f - 1, by omega⟩
    have hd1 : s.drop (p + (q.length + 2)) = r := by
      have := drop_more (s := s) (p := p) (l := 34 :: (q ++ [34])) (r := r) (by rw [hd]; simp)
      rw [← this]; congr 1; simp
    have hn : next s p = (⟨3, o, none, p⟩, 0, p + (q.length + 2)) := by
      unfold next
      rw [hd, skipS, if_neg (by decide), if_neg (by decide), Nat.add_zero, token_cons hd, if_neg (by decide), if_neg (by decide), if_pos rfl]
      unfold LX.quoted
      rw [h1]
      simp only [List.take_left, h2]
      rfl
    rw [allGo_tok hn (by simp), ih s f _ hd1 (by simp at hf; omega)]
    simp
  | expr p e r x ts h1 h2 h ih =>
    intro s f out hd hf
    obtain ⟨f, rfl⟩ : ∃ f', f = f' + 1 := ⟨f - 1, by omega⟩
    have hd1 : s.drop (p + (e.length + 2)) = r := by
      have := drop_more (s := s) (p := p) (l := 47 :: (e ++ [47])) (r := r) (by rw [hd]; simp)
      rw [← this]; congr 1; simp
    have hn : next s p = (⟨4, [], some x, p⟩, 0, p + (e.length + 2)) := by
      unfold next
      rw [hd, skipS, if_neg (by decide), if_neg (by decide), Nat.add_zero, token_cons hd, if_neg (by decide), if_neg (by decide), if_neg (by decide), if_pos rfl]
      unfold LX.expr
      rw [h1]
      simp only [List.take_left, h2, if_true]
      rfl
    rw [allGo_tok hn (by simp), ih s f _ hd1 (by simp at hf; omega)]
    simp
end LX
/-- what the lexer makes of such a text -/
theorem lexW_of {s : List UInt8} {ts : List LT} (h : LX.Lexes 0 s ts) (hs : s.length ≤ 65536) : lexW s = (ts, 0, 0) := by
  unfold lexW
  rw [if_neg (by omega), h.run s (s.length + 1) [] (by simp) (by omega)]
  simp
end Go.Proofs.YtgamknphlmcgnaaGreatDoor
end
