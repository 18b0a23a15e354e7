/-
  What is in all, what is in one and not in those behind, what is in one of them, read: walked through the program.
-/
import Derived.Test.YticpjjmacmmpjaaGreatDoorPsC
set_option linter.unusedSimpArgs false
set_option linter.unusedVariables false
set_option maxRecDepth 100000
set_option linter.unnecessarySimpa false
namespace Go.Proofs.YticpjjmacmmpjaaGreatDoor
open Go.RowKit
def andAt (w : World) (p : Nat) (s : List UInt8) (g0 : PS → PS × RE) (a : PS) (F : PS × RE) (v : Value) (wr : World) : Prop :=
  ∃ (f : Nat) (st : PS) (acc : List (Option RE)) (g cap : Nat) (xs : List Value), v = .slice (some ⟨g, 0, none⟩) acc.length cap ∧ LAt w p s st acc g cap xs wr ∧ PS.listGo g0 38 RE.bothL f st acc = F ∧ (st.e = 0 → st.rest.length < f) ∧ PS.Acc 97 a st acc
set_option maxRecDepth 100000 in
set_option maxHeartbeats 8000000 in
theorem and_any (d p : Nat) (s : List UInt8) (hs : s.length ≤ 65536) (f : PS → PS × Option RE) (hf : ∀ d', d' + 1 = d → PS.Gd d' f ∧ Orr d' p s f ∧ ∀ a, PS.At d' a → PS.Dk a (f a).1) (st : PS) (w : World) (h : PAt w p s st) (ha : PS.At d st) :
    Calls Tryz.prog 135 #[ptr p] w (PrPost p s w ((PS.and f st).1, some (PS.and f st).2)) := by
  have hpl := h.lt
  have HPO := Lib.hid (cat_any d p s hs f hf st w h ha)
  have HRES := Lib.hid (PS.cat_res (fun d' e => (hf d' e).1) st ha)
  have HNX := Lib.hid (fun (st' : PS) (W : World) (hp : PAt W p s st') (hat : PS.At d st') => cat_any d p s hs f hf st' W hp hat)
  have HNR := Lib.hid (fun (st' : PS) (hat : PS.At d st') => PS.cat_res (fun d' e => (hf d' e).1) st' hat)
  have HCAT : Hid (PS.and f st = PS.listGo (PS.cat f) 38 RE.bothL ((PS.cat f st).1.rest.length + 1) (PS.cat f st).1 [some (PS.cat f st).2]) := rfl
  rw [HCAT.out]
  have hd60 := ha.2.2
  generalize PS.cat f st = A at *
  obtain ⟨F, hF⟩ : ∃ F, PS.listGo (PS.cat f) 38 RE.bothL (A.1.rest.length + 1) A.1 [some A.2] = F := ⟨_, rfl⟩
  have HF := Lib.hid hF
  rw [hF]
  have HA := Lib.hid ha
  clear hF HCAT h hf ha
  go_enter Tryz.func135, Tryz.ntmps135
  go_wp2_with fail
  refine HPO.out.mono ?_
  rintro e w1 ⟨v1, rfl, hre1, hp1, hf1⟩
  obtain ⟨q1, rfl⟩ := hre1.ptr
  have hst : andAt w p s (PS.cat f) st F (.slice (some ⟨w1.heap.size, 0, none⟩) 1 1) (w1.alloc (.cells #[.pointer q1] 37)) :=
    ⟨_, _, [some A.2], _, _, _, rfl, LAt.first hp1 hf1 hre1, HF.out, fun _ => Nat.lt_succ_self _, PS.Acc.one HRES.out⟩
  have HST := Lib.hid hst
  clear hp1 hre1 hf1 hst HPO HRES HF
  go_wp2_with fail
  go_loopw [3] (fun v wr => andAt w p s (PS.cat f) st F v wr) (fun _ wr => psMeas p s wr)
  case atStart => exact HST.out
  case round =>
    clear HST
    obtain ⟨f', st', acc, g, cap, xs, rfl, hl, hgo, hfu, hacc⟩ := hrel
    have HL := Lib.hid hl
    have HGO := Lib.hid hgo
    have HFU := Lib.hid hfu
    have HACC := Lib.hid hacc
    have c4 := hl.pa.cells.2.2.2.2.1
    obtain ⟨hal, has⟩ := acc_len hacc (by omega)
    have HTH := Lib.hid (fun W (hl : ListO W (some ⟨g, 0, none⟩) acc) => Both_any (some ⟨g, 0, none⟩) cap acc W hl HACC.out.nf (by have h1 := RE.sizes_flat 6 acc; omega) (by omega))
    clear hl hgo hfu hacc
    by_cases he : st'.e = 0
    · have ge : (((st'.e : Nat) : Int) == 0) = true := by rw [he]; rfl
      have HE := Lib.hid he
      have hlen := HFU.out he
      obtain ⟨f'', rfl⟩ : ∃ g, f' = g + 1 := ⟨f' - 1, by omega⟩
      have HLEN := Lib.hid hlen
      have hgo2 := HGO.out
      rw [PS.listGo, if_neg (by omega)] at hgo2
      simp only at hgo2
      have HGO2 := Lib.hid hgo2
      have HTS := Lib.hid (PS.take_same st' 38)
      have HRUN := Lib.hid (PS.take_run he 38)
      have HTG := Lib.hid (fun (h : (st'.take 38).2 = true) => PS.take_go h)
      have HTK := Lib.hid (fun W (h : PAt W p s st') => psTake_any p s st' W h hs 38 (by decide))
      clear he hlen hgo2 HGO HFU
      generalize st'.e = en at c4 ge
      generalize st'.take 38 = T at *
      obtain ⟨sk, go⟩ := T
      have HSKE : Hid (sk.e = 0) := HTS.out.1.trans HE.out
      have HSKN : Hid (sk.nodes = st'.nodes) := HTS.out.2.1
      have HSKD : Hid (sk.deep = st'.deep) := HTS.out.2.2.1
      cases go with
      | false =>
        have hF2 : F = (sk, RE.bothL acc) := by
          have := HGO2.out; rw [if_neg (by simp)] at this; exact this.symm
        subst hF2
        go_wp2_with fail
        refine (HTK.out _ HL.out.pa).mono ?_
        rintro e w2 ⟨rfl, hp2, hf2⟩
        have HL2 := Lib.hid (HL.out.call hpl hp2 hf2)
        clear hp2 hf2
        go_wp2_with fail
        refine (HTH.out _ HL2.out.listO).mono ?_
        rintro e w5 ⟨rb, rfl, hm, hb⟩
        have HL5 := Lib.hid (HL2.out.later hb)
        have HM := Lib.hid hm
        clear hm hb
        go_wp2_with fail
        go_ret
        exact ⟨_, rfl, ⟨rb, rfl, HM.out⟩, HL5.out.pa, HL5.out.far⟩
      | true =>
        have hg3 := HGO2.out
        rw [if_pos rfl] at hg3
        have HG3 := Lib.hid hg3
        have hat : PS.At d sk := ⟨HSKE.out, by rw [HSKN.out]; exact (HACC.out.go HE.out).2.1, by rw [HSKD.out, (HACC.out.go HE.out).2.2]; exact hd60⟩
        have hres := HNR.out sk hat
        have HRS := Lib.hid hres
        have HAT := Lib.hid hat
        have HPX := Lib.hid (fun W (h : PAt W p s sk) => HNX.out sk W h HAT.out)
        clear hg3 hres hat
        generalize PS.cat f sk = R at *
        go_wp2_with fail
        refine (HTK.out _ HL.out.pa).mono ?_
        rintro e w2 ⟨rfl, hp2, hf2⟩
        have HL3 := Lib.hid (HL.out.call hpl hp2 hf2)
        clear hp2 hf2
        go_wp2_with fail
        refine (HPX.out _ HL3.out.pa).mono ?_
        rintro e w5 ⟨v5, rfl, hre5, hp5, hf5⟩
        obtain ⟨q5, rfl⟩ := hre5.ptr
        have HL5 := Lib.hid (HL3.out.call hpl hp5 hf5)
        have HL6 := Lib.hid (HL5.out.later (re_alloc w5 (.cells #[.pointer q5] 37)))
        have HRE6 := Lib.hid (hre5.later (re_alloc w5 (.cells #[.pointer q5] 37)))
        have hsrc : (w5.alloc (.cells #[.pointer q5] 37)).cell? ⟨w5.heap.size, 0, none⟩ = some (.pointer q5) := by rw [cell_of_row _ _ _ _ _ _ (heap_alloc_last w5 _)]; rfl
        have HSRC := Lib.hid hsrc
        clear hre5 hp5 hf5 hsrc
        go_wp2_with (at_builtin; refine wpList_append_ptr rfl _ _ rfl g acc.length cap w5.heap.size 1 xs (.pointer q5) rfl rfl HL6.out.row HSRC.out rfl (by omega) ?_; intro g7 cp7 w7 h71 h72 h73 h74)
        have HL7 := Lib.hid (HL6.out.append hpl HRE6.out h71 h72 h73 h74)
        have HAC7 := Lib.hid (HACC.out.snoc (d := d) HE.out HRUN.out HSKN.out HSKD.out HRS.out)
        clear h71 h72 h73 h74
        have hfu7 : R.1.e = 0 → R.1.rest.length < f'' := fun e => by
          have h1 := PS.rest_lt' HRS.out.run (HRS.out.go e).1
          have h2 := HRUN.out.tot
          have h3 := HRUN.out.le
          have h4 := HLEN.out
          simp only at h1 h2 h3
          omega
        have hat7 : R.1.e = 0 → st'.at_ < R.1.at_ := fun e => by
          have h1 := (HRS.out.go e).1
          have h3 := HRUN.out.le
          simp only at h1 h3
          omega
        have HFU7 := Lib.hid hfu7
        have HAT7 := Lib.hid hat7
        clear hfu7 hat7
        go_wp2_with fail
        go_roundw
        case rel => exact ⟨f'', R.1, acc ++ [some R.2], g7, cp7, _, by simp, HL7.out, HG3.out, HFU7.out, HAC7.out⟩
        case measure => exact psMeas_lt HL.out.pa HL7.out.pa HE.out HAT7.out
    · have ge : (((st'.e : Nat) : Int) == 0) = false := by rw [beq_eq_false_iff_ne]; omega
      have hF2 : F = (st', RE.bothL acc) := by rw [← HGO.out]; exact PS.listGo_bad _ _ _ _ _ _ he
      subst hF2
      clear he HGO HFU
      generalize hee : st'.e = en at c4 ge
      go_wp2_with fail
      refine (HTH.out _ HL.out.listO).mono ?_
      rintro e w5 ⟨rb, rfl, hm, hb⟩
      have HL5 := Lib.hid (HL.out.later hb)
      have HM := Lib.hid hm
      clear hm hb
      go_wp2_with fail
      go_ret
      exact ⟨_, rfl, ⟨rb, rfl, HM.out⟩, HL5.out.pa, HL5.out.far⟩
theorem PS.minus_step {a st t : PS} {r : RE} {x : PS × RE} (h : PS.Res 95 a (st, some r)) (he : st.e = 0) (T : PS.Run st t) (tn : t.nodes = st.nodes) (td : t.deep = st.deep) (hr : PS.Res 95 t (x.1, some x.2)) : PS.Res 95 a (x.1, some (RE.but (some r) (some x.2))) := by
  obtain ⟨k1, k2, k3, _⟩ := h.go he
  obtain ⟨n1, n2⟩ := h.nodes
  simp only at k1 k2 k3 n1 n2
  have hsz := h.size
  have hnf := h.nf r rfl
  have hs2 := hr.size
  obtain ⟨m1, m2⟩ := hr.nodes
  have hrn := hr.nf _ rfl
  simp only [RE.sizeO] at hsz hs2
  simp only at m1 m2
  have hle := T.le
  refine ⟨(h.run.trans T).trans hr.run, fun e => ?_, ⟨by show a.nodes < x.1.nodes; omega, m2⟩, fun y hy => ?_, ?_⟩
  · obtain ⟨g1, g2, g3, _⟩ := hr.go e
    simp only at g1 g2 g3
    exact ⟨by show a.at_ < x.1.at_; omega, g2, by show x.1.deep = a.deep; omega, _, rfl⟩
  · cases hy
    exact RE.nf_but (fun y hy => by cases hy; exact hnf) (fun y hy => by cases hy; exact hrn)
  · have := RE.size_but (some r) (some x.2)
    simp only [RE.sizeO] at this
    show (RE.but (some r) (some x.2)).size + 95 + 4000 * a.nodes ≤ 4000 * x.1.nodes
    omega
def MinusAt (w : World) (p : Nat) (s : List UInt8) (fo : PS → PS × Option RE) (a : PS) (F : PS × RE) (v : Value) (wr : World) : Prop :=
  ∃ (f : Nat) (st : PS) (r : RE), PAt wr p s st ∧ IsReO wr v (some r) ∧ Far p w wr ∧ PS.minusGo fo f st r = F ∧ (st.e = 0 → st.rest.length < f) ∧ PS.Res 95 a (st, some r)
set_option maxRecDepth 100000 in
set_option maxHeartbeats 8000000 in
theorem minus_any (d p : Nat) (s : List UInt8) (hs : s.length ≤ 65536) (f : PS → PS × Option RE) (hf : ∀ d', d' + 1 = d → PS.Gd d' f ∧ Orr d' p s f ∧ ∀ a, PS.At d' a → PS.Dk a (f a).1) (st : PS) (w : World) (h : PAt w p s st) (ha : PS.At d st) :
    Calls Tryz.prog 96 #[ptr p] w (PrPost p s w ((PS.minus f st).1, some (PS.minus f st).2)) := by
  have HPO := Lib.hid (and_any d p s hs f hf st w h ha)
  have HRES := Lib.hid (PS.and_res (fun d' e => (hf d' e).1) st ha)
  have HNX := Lib.hid (fun (st' : PS) (W : World) (hp : PAt W p s st') (hat : PS.At d st') => and_any d p s hs f hf st' W hp hat)
  have HNR := Lib.hid (fun (st' : PS) (hat : PS.At d st') => PS.and_res (fun d' e => (hf d' e).1) st' hat)
  have HCAT : Hid (PS.minus f st = PS.minusGo f ((PS.and f st).1.rest.length + 1) (PS.and f st).1 (PS.and f st).2) := rfl
  rw [HCAT.out]
  have hd60 := ha.2.2
  have HMR := Lib.hid (fun n st' r => PS.minusGo_res (fun d' e => (hf d' e).1) ha n st' r)
  generalize PS.and f st = A at *
  obtain ⟨F, hF⟩ : ∃ F, PS.minusGo f (A.1.rest.length + 1) A.1 A.2 = F := ⟨_, rfl⟩
  have HF := Lib.hid hF
  rw [hF]
  clear hF HCAT h hf ha
  go_enter Tryz.func96, Tryz.ntmps96
  go_wp2_with fail
  refine HPO.out.mono ?_
  rintro e w1 ⟨v1, rfl, hre1, hp1, hf1⟩
  have hst : MinusAt w p s f st F v1 w1 := ⟨_, _, A.2, hp1, hre1, hf1, HF.out, fun _ => Nat.lt_succ_self _, HRES.out⟩
  have HST := Lib.hid hst
  clear hp1 hre1 hf1 hst HPO HRES HF
  go_wp2_with fail
  go_loopw [3] (fun v wr => MinusAt w p s f st F v wr) (fun _ wr => psMeas p s wr)
  case atStart => exact HST.out
  case round =>
    clear HST
    obtain ⟨f', st', r, hp, hre, hfar, hgo, hfu, hres⟩ := hrel
    obtain ⟨rb, hrb, _⟩ := id hre
    subst hrb
    have HP := Lib.hid hp
    have HRE := Lib.hid hre
    have HFAR := Lib.hid hfar
    have HGO := Lib.hid hgo
    have HFU := Lib.hid hfu
    have HR := Lib.hid hres
    have c4 := hp.cells.2.2.2.2.1
    have hszr : r.size ≤ 5000000 := by have z1 := hres.size; have z2 := hres.nodes.2; simp only [RE.sizeO] at z1 z2; omega
    clear hp hre hfar hgo hfu hres
    by_cases he : st'.e = 0
    · have ge : (((st'.e : Nat) : Int) == 0) = true := by rw [he]; rfl
      have HE := Lib.hid he
      have hlen := HFU.out he
      obtain ⟨f'', rfl⟩ : ∃ g, f' = g + 1 := ⟨f' - 1, by omega⟩
      have HLEN := Lib.hid hlen
      have hgo2 := HGO.out
      rw [PS.minusGo, if_neg (by omega)] at hgo2
      simp only at hgo2
      have HGO2 := Lib.hid hgo2
      have HTS := Lib.hid (PS.take_same st' 45)
      have HRUN := Lib.hid (PS.take_run he 45)
      have HTG := Lib.hid (fun (h : (st'.take 45).2 = true) => PS.take_go h)
      have HTK := Lib.hid (fun W (h : PAt W p s st') => psTake_any p s st' W h hs 45 (by decide))
      clear he hlen hgo2 HGO HFU
      generalize st'.e = en at c4 ge
      generalize st'.take 45 = T at *
      obtain ⟨sk, go⟩ := T
      have HSKE : Hid (sk.e = 0) := HTS.out.1.trans HE.out
      have HSKN : Hid (sk.nodes = st'.nodes) := HTS.out.2.1
      have HSKD : Hid (sk.deep = st'.deep) := HTS.out.2.2.1
      cases go with
      | false =>
        have hF2 : F = (sk, r) := by
          have := HGO2.out; rw [if_neg (by simp)] at this; exact this.symm
        subst hF2
        go_wp2_with fail
        refine (HTK.out _ HP.out).mono ?_
        rintro e w2 ⟨rfl, hp2, hf2⟩
        have HRE2 := Lib.hid (HRE.out.far HP.out hf2)
        have HP2 := Lib.hid hp2
        have HF2 := Lib.hid (HFAR.out.trans hf2)
        clear hp2 hf2
        go_wp2_with fail
        go_ret
        exact ⟨_, rfl, HRE2.out, HP2.out, HF2.out⟩
      | true =>
        have hg3 := HGO2.out
        rw [if_pos rfl] at hg3
        have HG3 := Lib.hid hg3
        obtain ⟨k1, k2, k3, _⟩ := HR.out.go HE.out
        have hat : PS.At d sk := ⟨HSKE.out, by rw [HSKN.out]; exact k2, by rw [HSKD.out, show st'.deep = st.deep from k3]; exact hd60⟩
        have hres := HNR.out sk hat
        have HRS := Lib.hid hres
        have HAT := Lib.hid hat
        have HPX := Lib.hid (fun W (h : PAt W p s sk) => HNX.out sk W h HAT.out)
        have hsz2 : (PS.and f sk).2.size ≤ 5000000 := by have z1 := hres.size; have z2 := hres.nodes.2; simp only [RE.sizeO] at z1 z2; omega
        have HRESB : Hid (PS.Res 95 st ((PS.and f sk).1, some (RE.but (some r) (some (PS.and f sk).2)))) :=
          PS.minus_step HR.out HE.out HRUN.out HSKN.out HSKD.out hres
        clear hg3 hres hat k1 k2 k3
        generalize PS.and f sk = R at *
        go_wp2_with fail
        refine (HTK.out _ HP.out).mono ?_
        rintro e w2 ⟨rfl, hp2, hf2⟩
        have HRE2 := Lib.hid (HRE.out.far HP.out hf2)
        have HP2 := Lib.hid hp2
        have HF2 := Lib.hid (HFAR.out.trans hf2)
        clear hp2 hf2
        go_wp2_with fail
        refine (HPX.out _ HP2.out).mono ?_
        rintro e w5 ⟨v5, rfl, hre5, hp5, hf5⟩
        have HRE5 := Lib.hid (HRE2.out.far HP2.out hf5)
        have HQ5 := Lib.hid hre5
        have HP5 := Lib.hid hp5
        have HF5 := Lib.hid (HF2.out.trans hf5)
        clear hre5 hp5 hf5
        go_wp2_with fail
        refine (But_any (ptr rb) v5 (some r) (some R.2) _ HRE5.out HQ5.out (by simp only [RE.sizeO]; omega)).mono ?_
        rintro e w6 ⟨rb6, rfl, hm, hb⟩
        have HP6 := Lib.hid (HP5.out.later hb)
        have HF6 := Lib.hid (HF5.out.trans (Far.below hb))
        have HM := Lib.hid hm
        clear hm hb
        have hfu7 : R.1.e = 0 → R.1.rest.length < f'' := fun e => by
          have h1 := PS.rest_lt' HRS.out.run (HRS.out.go e).1
          have h2 := HRUN.out.tot
          have h3 := HRUN.out.le
          have h4 := HLEN.out
          simp only at h1 h2 h3
          omega
        have hat7 : R.1.e = 0 → st'.at_ < R.1.at_ := fun e => by
          have h1 := (HRS.out.go e).1
          have h3 := HRUN.out.le
          simp only at h1 h3
          omega
        have HFU7 := Lib.hid hfu7
        have HAT7 := Lib.hid hat7
        clear hfu7 hat7
        go_wp2_with fail
        go_roundw
        case rel => exact ⟨f'', R.1, RE.but (some r) (some R.2), HP6.out, ⟨rb6, rfl, HM.out⟩, HF6.out, HG3.out, HFU7.out, HRESB.out⟩
        case measure => exact psMeas_lt HP.out HP6.out HE.out HAT7.out
    · have ge : (((st'.e : Nat) : Int) == 0) = false := by rw [beq_eq_false_iff_ne]; omega
      have hF2 : F = (st', r) := by rw [← HGO.out]; exact PS.minusGo_bad _ _ _ _ he
      subst hF2
      clear he HGO HFU
      generalize hee : st'.e = en at c4 ge
      go_wp2_with fail
      go_ret
      exact ⟨_, rfl, HRE.out, HP.out, HFAR.out⟩
def orSAt (w : World) (p : Nat) (s : List UInt8) (g0 : PS → PS × RE) (a : PS) (F : PS × RE) (v : Value) (wr : World) : Prop :=
  ∃ (f : Nat) (st : PS) (acc : List (Option RE)) (g cap : Nat) (xs : List Value), v = .slice (some ⟨g, 0, none⟩) acc.length cap ∧ LAt w p s st acc g cap xs wr ∧ PS.listGo g0 124 RE.anyL f st acc = F ∧ (st.e = 0 → st.rest.length < f) ∧ PS.Acc 94 a st acc
set_option maxRecDepth 100000 in
set_option maxHeartbeats 8000000 in
theorem orS_any (d p : Nat) (s : List UInt8) (hs : s.length ≤ 65536) (f : PS → PS × Option RE) (hf : ∀ d', d' + 1 = d → PS.Gd d' f ∧ Orr d' p s f ∧ ∀ a, PS.At d' a → PS.Dk a (f a).1) (st : PS) (w : World) (h : PAt w p s st) (ha : PS.At d st) :
    Calls Tryz.prog 55 #[ptr p] w (PrPost p s w ((PS.orS f st).1, some (PS.orS f st).2)) := by
  have hpl := h.lt
  have HPO := Lib.hid (minus_any d p s hs f hf st w h ha)
  have HRES := Lib.hid (PS.minus_res (fun d' e => (hf d' e).1) st ha)
  have HNX := Lib.hid (fun (st' : PS) (W : World) (hp : PAt W p s st') (hat : PS.At d st') => minus_any d p s hs f hf st' W hp hat)
  have HNR := Lib.hid (fun (st' : PS) (hat : PS.At d st') => PS.minus_res (fun d' e => (hf d' e).1) st' hat)
  have HCAT : Hid (PS.orS f st = PS.listGo (PS.minus f) 124 RE.anyL ((PS.minus f st).1.rest.length + 1) (PS.minus f st).1 [some (PS.minus f st).2]) := rfl
  rw [HCAT.out]
  have hd60 := ha.2.2
  generalize PS.minus f st = A at *
  obtain ⟨F, hF⟩ : ∃ F, PS.listGo (PS.minus f) 124 RE.anyL (A.1.rest.length + 1) A.1 [some A.2] = F := ⟨_, rfl⟩
  have HF := Lib.hid hF
  rw [hF]
  have HA := Lib.hid ha
  clear hF HCAT h hf ha
  go_enter Tryz.func55, Tryz.ntmps55
  go_wp2_with fail
  refine HPO.out.mono ?_
  rintro e w1 ⟨v1, rfl, hre1, hp1, hf1⟩
  obtain ⟨q1, rfl⟩ := hre1.ptr
  have hst : orSAt w p s (PS.minus f) st F (.slice (some ⟨w1.heap.size, 0, none⟩) 1 1) (w1.alloc (.cells #[.pointer q1] 37)) :=
    ⟨_, _, [some A.2], _, _, _, rfl, LAt.first hp1 hf1 hre1, HF.out, fun _ => Nat.lt_succ_self _, PS.Acc.one HRES.out⟩
  have HST := Lib.hid hst
  clear hp1 hre1 hf1 hst HPO HRES HF
  go_wp2_with fail
  go_loopw [3] (fun v wr => orSAt w p s (PS.minus f) st F v wr) (fun _ wr => psMeas p s wr)
  case atStart => exact HST.out
  case round =>
    clear HST
    obtain ⟨f', st', acc, g, cap, xs, rfl, hl, hgo, hfu, hacc⟩ := hrel
    have HL := Lib.hid hl
    have HGO := Lib.hid hgo
    have HFU := Lib.hid hfu
    have HACC := Lib.hid hacc
    have c4 := hl.pa.cells.2.2.2.2.1
    obtain ⟨hal, has⟩ := acc_len hacc (by omega)
    have HTH := Lib.hid (fun W (hl : ListO W (some ⟨g, 0, none⟩) acc) => Any_any (some ⟨g, 0, none⟩) cap acc W hl HACC.out.nf (by have h1 := RE.sizes_flat 4 acc; omega) (by omega))
    clear hl hgo hfu hacc
    by_cases he : st'.e = 0
    · have ge : (((st'.e : Nat) : Int) == 0) = true := by rw [he]; rfl
      have HE := Lib.hid he
      have hlen := HFU.out he
      obtain ⟨f'', rfl⟩ : ∃ g, f' = g + 1 := ⟨f' - 1, by omega⟩
      have HLEN := Lib.hid hlen
      have hgo2 := HGO.out
      rw [PS.listGo, if_neg (by omega)] at hgo2
      simp only at hgo2
      have HGO2 := Lib.hid hgo2
      have HTS := Lib.hid (PS.take_same st' 124)
      have HRUN := Lib.hid (PS.take_run he 124)
      have HTG := Lib.hid (fun (h : (st'.take 124).2 = true) => PS.take_go h)
      have HTK := Lib.hid (fun W (h : PAt W p s st') => psTake_any p s st' W h hs 124 (by decide))
      clear he hlen hgo2 HGO HFU
      generalize st'.e = en at c4 ge
      generalize st'.take 124 = T at *
      obtain ⟨sk, go⟩ := T
      have HSKE : Hid (sk.e = 0) := HTS.out.1.trans HE.out
      have HSKN : Hid (sk.nodes = st'.nodes) := HTS.out.2.1
      have HSKD : Hid (sk.deep = st'.deep) := HTS.out.2.2.1
      cases go with
      | false =>
        have hF2 : F = (sk, RE.anyL acc) := by
          have := HGO2.out; rw [if_neg (by simp)] at this; exact this.symm
        subst hF2
        go_wp2_with fail
        refine (HTK.out _ HL.out.pa).mono ?_
        rintro e w2 ⟨rfl, hp2, hf2⟩
        have HL2 := Lib.hid (HL.out.call hpl hp2 hf2)
        clear hp2 hf2
        go_wp2_with fail
        refine (HTH.out _ HL2.out.listO).mono ?_
        rintro e w5 ⟨rb, rfl, hm, hb⟩
        have HL5 := Lib.hid (HL2.out.later hb)
        have HM := Lib.hid hm
        clear hm hb
        go_wp2_with fail
        go_ret
        exact ⟨_, rfl, ⟨rb, rfl, HM.out⟩, HL5.out.pa, HL5.out.far⟩
      | true =>
        have hg3 := HGO2.out
        rw [if_pos rfl] at hg3
        have HG3 := Lib.hid hg3
        have hat : PS.At d sk := ⟨HSKE.out, by rw [HSKN.out]; exact (HACC.out.go HE.out).2.1, by rw [HSKD.out, (HACC.out.go HE.out).2.2]; exact hd60⟩
        have hres := HNR.out sk hat
        have HRS := Lib.hid hres
        have HAT := Lib.hid hat
        have HPX := Lib.hid (fun W (h : PAt W p s sk) => HNX.out sk W h HAT.out)
        clear hg3 hres hat
        generalize PS.minus f sk = R at *
        go_wp2_with fail
        refine (HTK.out _ HL.out.pa).mono ?_
        rintro e w2 ⟨rfl, hp2, hf2⟩
        have HL3 := Lib.hid (HL.out.call hpl hp2 hf2)
        clear hp2 hf2
        go_wp2_with fail
        refine (HPX.out _ HL3.out.pa).mono ?_
        rintro e w5 ⟨v5, rfl, hre5, hp5, hf5⟩
        obtain ⟨q5, rfl⟩ := hre5.ptr
        have HL5 := Lib.hid (HL3.out.call hpl hp5 hf5)
        have HL6 := Lib.hid (HL5.out.later (re_alloc w5 (.cells #[.pointer q5] 37)))
        have HRE6 := Lib.hid (hre5.later (re_alloc w5 (.cells #[.pointer q5] 37)))
        have hsrc : (w5.alloc (.cells #[.pointer q5] 37)).cell? ⟨w5.heap.size, 0, none⟩ = some (.pointer q5) := by rw [cell_of_row _ _ _ _ _ _ (heap_alloc_last w5 _)]; rfl
        have HSRC := Lib.hid hsrc
        clear hre5 hp5 hf5 hsrc
        go_wp2_with (at_builtin; refine wpList_append_ptr rfl _ _ rfl g acc.length cap w5.heap.size 1 xs (.pointer q5) rfl rfl HL6.out.row HSRC.out rfl (by omega) ?_; intro g7 cp7 w7 h71 h72 h73 h74)
        have HL7 := Lib.hid (HL6.out.append hpl HRE6.out h71 h72 h73 h74)
        have HAC7 := Lib.hid (HACC.out.snoc (d := d) HE.out HRUN.out HSKN.out HSKD.out HRS.out)
        clear h71 h72 h73 h74
        have hfu7 : R.1.e = 0 → R.1.rest.length < f'' := fun e => by
          have h1 := PS.rest_lt' HRS.out.run (HRS.out.go e).1
          have h2 := HRUN.out.tot
          have h3 := HRUN.out.le
          have h4 := HLEN.out
          simp only at h1 h2 h3
          omega
        have hat7 : R.1.e = 0 → st'.at_ < R.1.at_ := fun e => by
          have h1 := (HRS.out.go e).1
          have h3 := HRUN.out.le
          simp only at h1 h3
          omega
        have HFU7 := Lib.hid hfu7
        have HAT7 := Lib.hid hat7
        clear hfu7 hat7
        go_wp2_with fail
        go_roundw
        case rel => exact ⟨f'', R.1, acc ++ [some R.2], g7, cp7, _, by simp, HL7.out, HG3.out, HFU7.out, HAC7.out⟩
        case measure => exact psMeas_lt HL.out.pa HL7.out.pa HE.out HAT7.out
    · have ge : (((st'.e : Nat) : Int) == 0) = false := by rw [beq_eq_false_iff_ne]; omega
      have hF2 : F = (st', RE.anyL acc) := by rw [← HGO.out]; exact PS.listGo_bad _ _ _ _ _ _ he
      subst hF2
      clear he HGO HFU
      generalize hee : st'.e = en at c4 ge
      go_wp2_with fail
      refine (HTH.out _ HL.out.listO).mono ?_
      rintro e w5 ⟨rb, rfl, hm, hb⟩
      have HL5 := Lib.hid (HL.out.later hb)
      have HM := Lib.hid hm
      clear hm hb
      go_wp2_with fail
      go_ret
      exact ⟨_, rfl, ⟨rb, rfl, HM.out⟩, HL5.out.pa, HL5.out.far⟩
theorem or_all (p : Nat) (s : List UInt8) (hs : s.length ≤ 65536) : ∀ d, Orr d p s (PS.orN (d + 1)) := by
  intro d
  induction d with
  | zero =>
    intro st w h ha
    exact orS_any 0 p s hs (PS.orN 0) (fun d' e => absurd e (by omega)) st w h ha
  | succ d ih =>
    intro st w h ha
    exact orS_any (d + 1) p s hs (PS.orN (d + 1)) (fun d' e => (show d = d' by omega) ▸ ⟨PS.orN_res d, ih, PS.orN_dk d⟩) st w h ha
end Go.Proofs.YticpjjmacmmpjaaGreatDoor
