/-
  One part of an expression read: walked through the program, what stands in parentheses by a contract.
-/
import Derived.Test.YticpjjmacmmpjaaGreatDoorPsS
import Derived.Test.YticpjjmacmmpjaaGreatDoorPsD
import Derived.Test.YticpjjmacmmpjaaGreatDoorReA
set_option linter.unusedSimpArgs false
set_option linter.unusedVariables false
set_option maxRecDepth 100000
set_option linter.unnecessarySimpa false
namespace Go.Proofs.YticpjjmacmmpjaaGreatDoor
open Go.RowKit
/-- an expression lies as it lay, whatever the reader did -/
theorem IsRe.far {p b : Nat} {s : List UInt8} {st : PS} {r : RE} {W W' : World} (h : IsRe W b r) (hp : PAt W p s st) (hf : Far p W W') : IsRe W' b r :=
  h.put hp.row (by decide) (by decide) fun k hk hne => hf.block k hk fun e => hne (Option.some.inj e)
theorem IsReO.far {p : Nat} {s : List UInt8} {st : PS} {v : Value} {o : Option RE} {W W' : World} (h : IsReO W v o) (hp : PAt W p s st) (hf : Far p W W') : IsReO W' v o := by
  cases o with
  | none => exact h
  | some r => obtain ⟨b, h1, h2⟩ := h; exact ⟨b, h1, h2.far hp hf⟩
/-- what reading a part leaves -/
def PrPost (p : Nat) (s : List UInt8) (w : World) (r : PS × Option RE) (e : Ending) (w' : World) : Prop := ∃ v, e = .returned v ∧ IsReO w' v r.2 ∧ PAt w' p s r.1 ∧ Far p w w'
/-- how what stands in parentheses is read, in the program -/
def Orr (d : Nat) (p : Nat) (s : List UInt8) (f : PS → PS × Option RE) : Prop := ∀ (st : PS) (w : World), PAt w p s st → PS.At d st → Calls Tryz.prog 55 #[ptr p] w (PrPost p s w (f st))
namespace PS
def paren (f : PS → PS × Option RE) (st : PS) : PS × Option RE :=
  let r := f st
  let u := r.1.take 41
  let st3 := if u.2 then u.1 else u.1.fail 2
  ({ st3 with deep := st3.deep - 1 }, r.2)
def open_ (f : PS → PS × Option RE) (st : PS) : PS × Option RE :=
  let st2 := { st with deep := st.deep + 1 }
  if 60 < st2.deep then (st2.fail 4, none)
  else
    let t := (st2.adv 1).take 41
    if t.2 then ({ t.1 with deep := t.1.deep - 1 }, some RE.empty) else paren f t.1
def atom1 (f : PS → PS × Option RE) (st : PS) : PS × Option RE :=
  if st.rest.head? = some 40 then open_ f st
  else if st.rest.head? = some 91 then ((st.adv 1).set.1, some (RE.one (st.adv 1).set.2))
  else if st.rest.head? = some 46 then (st.adv 1, some (RE.one BS.all))
  else (st.one.1, some (RE.one (BS.none.add st.one.2)))
theorem atom_eq (f : PS → PS × Option RE) (st : PS) (h : ¬ 1000 < st.nodes + 1) : atom f st = atom1 f ({ st with nodes := st.nodes + 1 } : PS).skip := by
  unfold atom; simp only; rw [if_neg h]; rfl
theorem atom_many (f : PS → PS × Option RE) (st : PS) (h : 1000 < st.nodes + 1) : atom f st = (({ st with nodes := st.nodes + 1 } : PS).fail 3, none) := by
  unfold atom; simp only; rw [if_pos h]
theorem head_is {st : PS} {c : UInt8} (hc : c ≠ 0) : st.rest.head? = some c ↔ st.head = c := by
  unfold head
  cases hq : st.rest with
  | nil => simp; exact fun e => hc e.symm
  | cons a l => simp
end PS
theorem sO_one (s : BS) : RE.sizeO (some (RE.one s)) = 1 := RE.one_size' s
set_option maxRecDepth 100000 in
set_option maxHeartbeats 8000000 in
theorem atom_any (d p : Nat) (s : List UInt8) (hs : s.length ≤ 65536) (f : PS → PS × Option RE) (hf : ∀ d', d' + 1 = d → PS.Gd d' f ∧ Orr d' p s f ∧ ∀ a, PS.At d' a → PS.Dk a (f a).1) (st : PS) (w : World) (h : PAt w p s st) (ha : PS.At d st) :
    Calls Tryz.prog 183 #[ptr p] w (PrPost p s w (PS.atom f st)) := by
  obtain ⟨he, hn, hd⟩ := ha
  obtain ⟨c0, c1, c2, c3, c4, c5⟩ := h.cells
  have f3 := h.frz 3
  have hp1 : PAt (w.setCell ⟨p, 3, none⟩ (.int .i64 ((st.nodes : Int) + 1))) p s { st with nodes := st.nodes + 1 } :=
    h.put 3 _ (by rfl) h.rest h.tot
  have HP1 := Lib.hid hp1
  have HF1 := Lib.hid ((Far.refl p w).set 3 (.int .i64 ((st.nodes : Int) + 1)))
  by_cases hbig : 1000 < st.nodes + 1
  · have HA := Lib.hid (PS.atom_many f st hbig)
    rw [HA.out]
    have hb1 : (1000 : Int) < (st.nodes : Int) + 1 := by omega
    clear hp1 h hf he c0 c1 c2 c4 c5
    obtain ⟨n, HN⟩ : ∃ n, Hid (st.nodes = n) := ⟨_, rfl⟩
    rw [HN.out] at c3 HP1 HF1 hb1 hn hbig ⊢
    go_enter Tryz.func183, Tryz.ntmps183
    go_wp2_with fail
    refine (psFail_any p s _ _ HP1.out hs 3 (by omega)).mono ?_
    rintro e w2 ⟨rfl, hp2, hf2⟩
    go_wp2_with fail
    go_ret
    exact ⟨_, rfl, rfl, hp2, HF1.out.trans hf2⟩
  · have HA := Lib.hid (PS.atom_eq f st hbig)
    rw [HA.out]
    have hb1 : ¬ (1000 : Int) < (st.nodes : Int) + 1 := by omega
    have hn1 : st.nodes + 1 ≤ 1000 := by omega
    have hskn : ({ st with nodes := st.nodes + 1 } : PS).skip.nodes = st.nodes + 1 := rfl
    have hskd : ({ st with nodes := st.nodes + 1 } : PS).skip.deep = st.deep := rfl
    have hske : ({ st with nodes := st.nodes + 1 } : PS).skip.e = 0 := he
    have HPK := Lib.hid (psPeek_any p s _ _ hp1 hs)
    clear hp1 h c0 c1 c2 c4 c5
    generalize ({ st with nodes := st.nodes + 1 } : PS).skip = sk at *
    have HSN := Lib.hid hskn
    have HSD := Lib.hid hskd
    have HSE := Lib.hid hske
    clear hskn hskd hske he
    generalize st.nodes = n at *
    generalize st.deep = dp at *
    go_enter Tryz.func183, Tryz.ntmps183
    go_wp2_with fail
    refine HPK.out.mono ?_
    rintro e w2 ⟨rfl, hp2, hf2⟩
    have HP2 := Lib.hid hp2
    have HF2 := Lib.hid (HF1.out.trans hf2)
    obtain ⟨d0, d1, d2, d3, d4, d5⟩ := hp2.cells
    have g1 := hp2.frz 1
    have g2 := hp2.frz 2
    rw [HSD.out] at d2
    have hat := hp2.at_le
    have H40 := Lib.hid (PS.head_is (st := sk) (c := 40) (by decide))
    have H91 := Lib.hid (PS.head_is (st := sk) (c := 91) (by decide))
    have H46 := Lib.hid (PS.head_is (st := sk) (c := 46) (by decide))
    have b40 := byteIs sk.head 40 (by omega)
    have b91 := byteIs sk.head 91 (by omega)
    have b46 := byteIs sk.head 46 (by omega)
    have hhl : ∀ c, sk.rest.head? = some c → 1 ≤ sk.rest.length := fun c hc => by
      cases hq : sk.rest with
      | nil => rw [hq] at hc; cases hc
      | cons _ _ => simp
    have HHL := Lib.hid hhl
    clear hp2 hf2 HP1 HF1 HPK c3 f3 hbig hb1 hhl
    by_cases h40 : sk.head = 40
    · have e40 : (((sk.head.toNat : Nat) : Int) == 40) = true := b40.trans (decide_eq_true h40)
      have hh := H40.out.2 h40
      have HA1 : Hid (PS.atom1 f sk = PS.open_ f sk) := by show _ = _; unfold PS.atom1; rw [if_pos hh]
      have hp3 : PAt (w2.setCell ⟨p, 2, none⟩ (.int .i64 ((dp : Int) + 1))) p s { sk with deep := sk.deep + 1 } := HP2.out.put 2 _ (by rw [← HSD.out]; rfl) HP2.out.rest HP2.out.tot
      have HF3 := Lib.hid (HF2.out.set 2 (.int .i64 ((dp : Int) + 1)))
      by_cases h60 : 60 < sk.deep + 1
      · have HA2 : Hid (PS.open_ f sk = (({ sk with deep := sk.deep + 1 } : PS).fail 4, none)) := by show _ = _; unfold PS.open_; simp only; rw [if_pos h60]
        have b60 : (60 : Int) < (dp : Int) + 1 := by have := HSD.out; omega
        have HP3 := Lib.hid hp3
        clear b40 b91 b46 h40 hh hp3 h60 d0 d1 d3 d4 d5
        generalize sk.head.toNat = hn at *
        go_wp2_with fail
        refine (psFail_any p s _ _ HP3.out hs 4 (by omega)).mono ?_
        rintro e w4 ⟨rfl, hp4, hf4⟩
        go_wp2_with fail
        go_ret
        rw [HA1.out, HA2.out]
        exact ⟨_, rfl, rfl, hp4, HF3.out.trans hf4⟩
      · have b60 : ¬ (60 : Int) < (dp : Int) + 1 := by have := HSD.out; omega
        have hl1 := HHL.out _ hh
        have hp4 := hp3.put_adv' 1 sk.at_ rfl hl1
        have HP4 := Lib.hid hp4
        have HF4 := Lib.hid (HF3.out.set 1 (.int .i64 ((sk.at_ : Int) + ((1 : Nat) : Int))))
        have HT := Lib.hid (fun W (h : PAt W p s (({ sk with deep := sk.deep + 1 } : PS).adv 1)) => psTake_any p s _ W h hs 41 (by decide))
        have hts := PS.take_same (({ sk with deep := sk.deep + 1 } : PS).adv 1) 41
        have HA2 : Hid (PS.open_ f sk = if ((({ sk with deep := sk.deep + 1 } : PS).adv 1).take 41).2 then ({ ((({ sk with deep := sk.deep + 1 } : PS).adv 1).take 41).1 with deep := ((({ sk with deep := sk.deep + 1 } : PS).adv 1).take 41).1.deep - 1 }, some RE.empty) else PS.paren f ((({ sk with deep := sk.deep + 1 } : PS).adv 1).take 41).1) := by show _ = _; unfold PS.open_; simp only; rw [if_neg h60]
        clear b40 b91 b46 h40 hh hp3 hp4 hl1 d0 d3 d4 d5
        generalize ((({ sk with deep := sk.deep + 1 } : PS).adv 1).take 41) = t at *
        have htd : t.1.deep = sk.deep + 1 := hts.2.2.1
        have hte : t.1.e = 0 := hts.1.trans HSE.out
        have htn : t.1.nodes = n + 1 := hts.2.1.trans HSN.out
        have HTD := Lib.hid htd; have HTE := Lib.hid hte; have HTN := Lib.hid htn
        clear hts htd hte htn
        obtain ⟨a, HAT⟩ : ∃ a, Hid (sk.at_ = a) := ⟨_, rfl⟩
        rw [HAT.out] at d1 hat
        rw [show ((sk.at_ : Nat) : Int) = (a : Int) by rw [HAT.out]] at HP4 HF4
        generalize sk.head.toNat = hn at *
        obtain ⟨t1, t2⟩ := t
        have H60 := Lib.hid h60
        clear h60
        cases t2 with
        | true =>
          go_wp2_with fail
          refine (HT.out _ HP4.out).mono ?_
          rintro e w5 ⟨rfl, hp5, hf5⟩
          have HP5 := Lib.hid hp5
          have HF5 := Lib.hid (HF4.out.trans hf5)
          obtain ⟨k0, k1, k2, k3, k4, k5⟩ := hp5.cells
          have g2' := hp5.frz 2
          rw [show t1.deep = dp + 1 from HTD.out.trans (by rw [HSD.out])] at k2
          have hp6 : PAt (w5.setCell ⟨p, 2, none⟩ (.int .i64 (dp : Int))) p s { t1 with deep := t1.deep - 1 } := HP5.out.put 2 _ (by rw [show t1.deep = dp + 1 from HTD.out.trans (by rw [HSD.out])]; rfl) HP5.out.rest HP5.out.tot
          have HP6 := Lib.hid hp6
          have HF6 := Lib.hid (HF5.out.set 2 (.int .i64 (dp : Int)))
          clear hp5 hf5 hp6 k0 k1 k3 k4 k5
          go_wp2_with fail
          refine (EmptyRe_any _).mono ?_
          rintro e w7 ⟨b, rfl, hem, hb7⟩
          have HEM := Lib.hid hem.is
          have HP7 := Lib.hid (HP6.out.later hb7)
          have HF7 := Lib.hid (HF6.out.trans (Far.below hb7))
          clear hem hb7
          go_wp2_with fail
          go_ret
          rw [HA1.out, HA2.out]
          exact ⟨_, rfl, ⟨b, rfl, HEM.out⟩, HP7.out, HF7.out⟩
        | false =>
          have hdd : d - 1 + 1 = d := by have := H60.out; have := HSD.out; omega
          obtain ⟨hG, hO, hD⟩ := hf (d - 1) hdd
          have htn : t1.nodes = n + 1 := HTN.out
          have htd : t1.deep = dp + 1 := HTD.out.trans (by rw [HSD.out])
          have hat1 : PS.At (d - 1) t1 := ⟨HTE.out, by omega, by have := HSD.out; omega⟩
          have hdk := hD t1 hat1
          have HORR := Lib.hid (fun W (h : PAt W p s t1) => hO t1 W h hat1)
          obtain ⟨⟨r1, r2⟩, hfr⟩ : ∃ r, f t1 = r := ⟨_, rfl⟩
          rw [hfr] at hdk HORR
          have HTK := Lib.hid (fun W (h : PAt W p s r1) => psTake_any p s _ W h hs 41 (by decide))
          have hdp : 1 ≤ r1.deep ∧ r1.deep ≤ 61 := ⟨by have := hdk.1; simp only at this; omega, hdk.2⟩
          have hud := PS.take_deep r1 41
          have HPAR : Hid (PS.paren f t1 = ({ (if (r1.take 41).2 then (r1.take 41).1 else (r1.take 41).1.fail 2) with deep := (if (r1.take 41).2 then (r1.take 41).1 else (r1.take 41).1.fail 2).deep - 1 }, r2)) := by show _ = _; unfold PS.paren; rw [hfr]
          clear hf hG hO hD hdk hat1 hfr hdd
          generalize r1.take 41 = u at *
          obtain ⟨u1, u2⟩ := u
          simp only at hud
          go_wp2_with fail
          refine (HT.out _ HP4.out).mono ?_
          rintro e w5 ⟨rfl, hp5, hf5⟩
          have HP5 := Lib.hid hp5
          have HF5 := Lib.hid (HF4.out.trans hf5)
          clear hp5 hf5
          go_wp2_with fail
          refine (HORR.out _ HP5.out).mono ?_
          rintro e w6 ⟨v, rfl, hre, hp6, hf6⟩
          have HP6 := Lib.hid hp6
          have HF6 := Lib.hid (HF5.out.trans hf6)
          have HRE := Lib.hid hre
          clear hp6 hf6 hre
          go_wp2_with fail
          refine (HTK.out _ HP6.out).mono ?_
          rintro e w7 ⟨rfl, hp7, hf7⟩
          have HRE7 := Lib.hid (HRE.out.far HP6.out hf7)
          have HP7 := Lib.hid hp7
          have HF7 := Lib.hid (HF6.out.trans hf7)
          have k2 := hp7.cells.2.2.1
          have g2' := hp7.frz 2
          cases u2 with
          | true =>
            have hp8 : PAt (w7.setCell ⟨p, 2, none⟩ (.int .i64 ((u1.deep : Int) - 1))) p s { u1 with deep := u1.deep - 1 } := HP7.out.put 2 _ (by rw [show ((u1.deep : Int) - 1) = ((u1.deep - 1 : Nat) : Int) by omega]; rfl) HP7.out.rest HP7.out.tot
            have HP8 := Lib.hid hp8
            have HF8 := Lib.hid (HF7.out.set 2 (.int .i64 ((u1.deep : Int) - 1)))
            have HRE8 := Lib.hid (HRE7.out.far HP7.out ((Far.refl p w7).set 2 (.int .i64 ((u1.deep : Int) - 1))))
            clear hp7 hf7 hp8
            have hdl : 1 ≤ u1.deep := by omega
            have hdu : u1.deep ≤ 61 := by omega
            have HA2' := Lib.hid (HA2.out.trans (if_neg (by simp)))
            clear hud hdp
            obtain ⟨ud, HUD⟩ : ∃ x, Hid (u1.deep = x) := ⟨_, rfl⟩
            rw [HUD.out] at k2 hdl hdu HP8 HF8 HRE8
            go_wp2_with fail
            go_ret
            rw [HA1.out, HA2'.out, HPAR.out]
            (try simp only [if_true, if_false, Bool.false_eq_true])
            simp only [HUD.out]
            exact ⟨_, rfl, HRE8.out, HP8.out, HF8.out⟩
          | false =>
            have HA2' := Lib.hid (HA2.out.trans (if_neg (by simp)))
            go_wp2_with fail
            refine (psFail_any p s _ _ HP7.out hs 2 (by omega)).mono ?_
            rintro e w8 ⟨rfl, hp8, hf8⟩
            have k2' := hp8.cells.2.2.1
            have g2'' := hp8.frz 2
            have HRE8 := Lib.hid (HRE7.out.far HP7.out hf8)
            have HP8 := Lib.hid hp8
            have HF8 := Lib.hid (HF7.out.trans hf8)
            have hfd : (u1.fail 2).deep = u1.deep := rfl
            rw [hfd] at k2'
            have hp9 : PAt (w8.setCell ⟨p, 2, none⟩ (.int .i64 ((u1.deep : Int) - 1))) p s { u1.fail 2 with deep := (u1.fail 2).deep - 1 } := HP8.out.put 2 _ (by rw [show ((u1.deep : Int) - 1) = ((u1.deep - 1 : Nat) : Int) by omega]; rfl) HP8.out.rest HP8.out.tot
            have HP9 := Lib.hid hp9
            have HF9 := Lib.hid (HF8.out.set 2 (.int .i64 ((u1.deep : Int) - 1)))
            have HRE9 := Lib.hid (HRE8.out.far HP8.out ((Far.refl p w8).set 2 (.int .i64 ((u1.deep : Int) - 1))))
            clear hp7 hf7 hp8 hf8 hp9
            have hdl : 1 ≤ u1.deep := by omega
            have hdu : u1.deep ≤ 61 := by omega
            clear hud hdp k2 hfd
            obtain ⟨ud, HUD⟩ : ∃ x, Hid (u1.deep = x) := ⟨_, rfl⟩
            have HPX : Hid (PAt (w8.setCell ⟨p, 2, none⟩ (.int .i64 ((u1.deep : Int) - 1))) p s { u1.fail 2 with deep := u1.deep - 1 }) := HP9.out
            clear HP9
            rw [HUD.out] at k2' hdl hdu HPX HF9 HRE9
            go_wp2_with fail
            go_ret
            rw [HA1.out, HA2'.out, HPAR.out]
            (try simp only [if_true, if_false, Bool.false_eq_true])
            simp only [PS.fail_deep, HUD.out]
            exact ⟨_, rfl, HRE9.out, HPX.out, HF9.out⟩
    · have e40 : (((sk.head.toNat : Nat) : Int) == 40) = false := b40.trans (decide_eq_false h40)
      have n40 : ¬ sk.rest.head? = some 40 := fun e => h40 (H40.out.1 e)
      by_cases h91 : sk.head = 91
      · have e91 : (((sk.head.toNat : Nat) : Int) == 91) = true := b91.trans (decide_eq_true h91)
        have hh := H91.out.2 h91
        have HA1 : Hid (PS.atom1 f sk = ((sk.adv 1).set.1, some (RE.one (sk.adv 1).set.2))) := by show _ = _; unfold PS.atom1; rw [if_neg n40, if_pos hh]
        rw [HA1.out]
        have hp3 := HP2.out.put_adv' 1 sk.at_ rfl (HHL.out _ hh)
        have HP3 := Lib.hid hp3
        have HF3 := Lib.hid (HF2.out.set 1 (.int .i64 ((sk.at_ : Int) + ((1 : Nat) : Int))))
        clear b40 b91 b46 h40 n40 h91 hh hp3 d0 d2 d3 d4 d5
        obtain ⟨a, HAT⟩ : ∃ a, Hid (sk.at_ = a) := ⟨_, rfl⟩
        rw [HAT.out] at d1 hat HP3 HF3
        generalize sk.head.toNat = hn at *
        go_wp2_with fail
        refine (psSet_any p s _ _ HP3.out hs HSE.out).mono ?_
        rintro e w4 ⟨b, rfl, hone, hp4, hf4⟩
        have HON := Lib.hid hone.is
        have HP4 := Lib.hid hp4
        have HF4 := Lib.hid (HF3.out.trans hf4)
        clear hone hp4 hf4
        go_wp2_with fail
        go_ret
        (try rw [HA1.out])
        exact ⟨_, rfl, ⟨b, rfl, HON.out⟩, HP4.out, HF4.out⟩
      · have e91 : (((sk.head.toNat : Nat) : Int) == 91) = false := b91.trans (decide_eq_false h91)
        have n91 : ¬ sk.rest.head? = some 91 := fun e => h91 (H91.out.1 e)
        by_cases h46 : sk.head = 46
        · have e46 : (((sk.head.toNat : Nat) : Int) == 46) = true := b46.trans (decide_eq_true h46)
          have hh := H46.out.2 h46
          have HA1 : Hid (PS.atom1 f sk = (sk.adv 1, some (RE.one BS.all))) := by show _ = _; unfold PS.atom1; rw [if_neg n40, if_neg n91, if_pos hh]
          rw [HA1.out]
          have hp3 := HP2.out.put_adv' 1 sk.at_ rfl (HHL.out _ hh)
          have HP3 := Lib.hid hp3
          have HF3 := Lib.hid (HF2.out.set 1 (.int .i64 ((sk.at_ : Int) + ((1 : Nat) : Int))))
          clear b40 b91 b46 h40 n40 h91 n91 h46 hh hp3 d0 d2 d3 d4 d5
          obtain ⟨a, HAT⟩ : ∃ a, Hid (sk.at_ = a) := ⟨_, rfl⟩
          rw [HAT.out] at d1 hat HP3 HF3
          generalize sk.head.toNat = hn at *
          go_wp2_with fail
          refine (All_any _).mono ?_
          rintro e w4 ⟨rfl, hb4⟩
          have HP4 := Lib.hid (HP3.out.later hb4)
          have HF4 := Lib.hid (HF3.out.trans (Far.below hb4))
          clear hb4
          go_wp2_with fail
          refine (One_any _ _ _ _ _).mono ?_
          rintro e w5 ⟨b, rfl, hone, hb5⟩
          have HON := Lib.hid hone.is
          have HP5 := Lib.hid (HP4.out.later hb5)
          have HF5 := Lib.hid (HF4.out.trans (Far.below hb5))
          clear hone hb5
          go_wp2_with fail
          go_ret
          (try rw [HA1.out])
          exact ⟨_, rfl, ⟨b, rfl, HON.out⟩, HP5.out, HF5.out⟩
        · have e46 : (((sk.head.toNat : Nat) : Int) == 46) = false := b46.trans (decide_eq_false h46)
          have n46 : ¬ sk.rest.head? = some 46 := fun e => h46 (H46.out.1 e)
          have HA1 : Hid (PS.atom1 f sk = (sk.one.1, some (RE.one (BS.none.add sk.one.2)))) := by show _ = _; unfold PS.atom1; rw [if_neg n40, if_neg n91, if_neg n46]
          rw [HA1.out]
          have hone := PS.one_run HSE.out
          have HB := Lib.hid hone.2.2
          clear b40 b91 b46 h40 n40 h91 n91 h46 n46 d0 d1 d2 d3 d4 d5 hone
          generalize sk.head.toNat = hn at *
          go_wp2_with fail
          refine (one_any p s sk _ HP2.out hs).mono ?_
          rintro e w3 ⟨rfl, hp3, hf3⟩
          have HP3 := Lib.hid hp3
          have HF3 := Lib.hid (HF2.out.trans hf3)
          clear hp3 hf3
          generalize sk.one = r at *
          have hof := fun W (hc' : W.cell? ⟨w3.heap.size, 0, none⟩ = some (.int .u8 ((r.2 : Nat) : Int))) => Of_any w3.heap.size 0 1 [((r.2 : Nat) : Int)] (fun i hi => by
            obtain rfl : i = 0 := by simpa using hi
            have := HB.out
            simp; omega) (by simp) W (fun i hi => by
              obtain rfl : i = 0 := by simpa using hi
              simpa using hc')
          have HOF := Lib.hid hof
          clear hof
          go_wp2_with fail
          refine (HOF.out _ (by rw [cell_of_row _ _ _ _ _ _ (heap_alloc_last w3 _)]; rfl)).mono ?_
          rintro e w4 ⟨rfl, hb4⟩
          have hx := (re_alloc w3 (.cells #[.int .u8 ((r.2 : Nat) : Int)] 5)).trans (hb4.mono (by simp))
          have HP4 := Lib.hid (HP3.out.later hx)
          have HF4 := Lib.hid (HF3.out.trans (Far.below hx))
          clear hb4 hx
          go_wp2_with fail
          refine (One_any _ _ _ _ _).mono ?_
          rintro e w5 ⟨b, rfl, hone, hb5⟩
          have HON : Hid (IsRe w5 b (RE.one (BS.none.add r.2))) := by
            show IsRe w5 b _
            have := hone.is
            simpa [BS.ofL] using this
          have HP5 := Lib.hid (HP4.out.later hb5)
          have HF5 := Lib.hid (HF4.out.trans (Far.below hb5))
          clear hone hb5
          go_wp2_with fail
          go_ret
          (try rw [HA1.out])
          exact ⟨_, rfl, ⟨b, rfl, HON.out⟩, HP5.out, HF5.out⟩
end Go.Proofs.YticpjjmacmmpjaaGreatDoor
