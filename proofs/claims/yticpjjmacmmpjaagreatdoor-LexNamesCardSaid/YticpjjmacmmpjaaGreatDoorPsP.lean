/-
  A part and how often it comes, read: walked through the program.
-/
import Derived.Test.YticpjjmacmmpjaaGreatDoorPsA
import Derived.Deep.CutBlock
set_option linter.unusedSimpArgs false
set_option linter.unusedVariables false
set_option maxRecDepth 100000
set_option linter.unnecessarySimpa false
namespace Go.Proofs.YticpjjmacmmpjaaGreatDoor
open Go.RowKit
theorem listO_pair {w : World} {v v' : Value} {o o' : Option RE} (h : IsReO w v o) (h' : IsReO w v' o') : ListO (w.alloc (.cells #[v, v'] 37)) (some ⟨w.heap.size, 0, none⟩) [o, o'] := .inr ⟨w.heap.size, 0, rfl, fun i hi => by
  have : i = 0 ∨ i = 1 := by simp at hi; omega
  rcases this with rfl | rfl
  · exact ⟨v, by rw [cell_of_row _ _ _ _ _ _ (heap_alloc_last w _)]; rfl, h.later (re_alloc w _)⟩
  · exact ⟨v', by rw [cell_of_row _ _ _ _ _ _ (heap_alloc_last w _)]; rfl, h'.later (re_alloc w _)⟩⟩
namespace PS
theorem bump_rest (t : PS) (r : RE) : (t.bump r).rest.length ≤ t.rest.length := by
  unfold bump; simp only
  split
  · simp [fail]
  · exact Nat.le_refl _
theorem bump_at (t : PS) (r : RE) : t.at_ ≤ (t.bump r).at_ := by
  unfold bump; simp only
  split
  · exact Nat.le_add_right _ _
  · exact Nat.le_refl _
theorem bump_res {a st t : PS} {x r' : RE} (h : Res 100 a (st, some x)) (he : st.e = 0) (ht : Run st t) (hlt : st.at_ < t.at_) (te : t.e = 0) (tn : t.nodes = st.nodes) (td : t.deep = st.deep) (hr' : RE.nf r') (hb : (t.bump r').e = 0) : Res 100 a (t.bump r', some r') := by
  obtain ⟨k1, k2, k3, _⟩ := h.go he
  obtain ⟨hn1, hn2⟩ := h.nodes
  have hsz := h.size
  simp only at k1 k2 k3 hsz hn1 hn2
  by_cases hbig : 1000 < t.nodes + 1 ∨ 1000 < r'.size
  · have e : t.bump r' = ({ t with nodes := t.nodes + 1 } : PS).fail 3 := by unfold bump; simp only; rw [if_pos hbig]
    rw [e] at hb
    exact absurd hb (fail_e (a := { t with nodes := t.nodes + 1 }) te (by omega))
  · have e : t.bump r' = ({ t with nodes := t.nodes + 1 } : PS) := by unfold bump; simp only; rw [if_neg hbig]
    rw [e]
    refine ⟨⟨by have := h.run.le; show a.at_ ≤ t.at_; simp only at this; omega, (h.run.trans ht).rest, (h.run.trans ht).tot, .inl te⟩, fun _ => ⟨by show a.at_ < t.at_; omega, by show t.nodes + 1 ≤ 1000; omega, td.trans k3, r', rfl⟩, ⟨by show a.nodes < t.nodes + 1; omega, by show t.nodes + 1 ≤ 1001; omega⟩, fun x hx => by cases hx; exact hr', by show r'.size + 100 + 4000 * a.nodes ≤ 4000 * (t.nodes + 1); omega⟩
end PS
/-- between the sign and what is reckoned behind it -/
structure PMid (w : World) (p : Nat) (s : List UInt8) (st : PS) (f' : Nat) (F : PS × Option RE) (t : PS) (r' : RE) (v : Value) (wx : World) : Prop where
  re : IsReO wx v (some r')
  pa : PAt wx p s t
  far : Far p w wx
  run : PS.Run st t
  lt : st.at_ < t.at_
  e : t.e = 0
  nodes : t.nodes = st.nodes
  deep : t.deep = st.deep
  nf : RE.nf r'
  go : PS.postGo f' (t.bump r') (some r') = F
def PostAt (w : World) (p : Nat) (s : List UInt8) (a : PS) (F : PS × Option RE) (v : Value) (wr : World) : Prop :=
  ∃ (f : Nat) (st : PS) (r : Option RE), PAt wr p s st ∧ IsReO wr v r ∧ Far p w wr ∧ PS.postGo f st r = F ∧ (st.e = 0 → st.rest.length < f) ∧ (st.e = 0 → PS.Res 100 a (st, r))
set_option maxRecDepth 100000 in
set_option maxHeartbeats 8000000 in
theorem post_any (d p : Nat) (s : List UInt8) (hs : s.length ≤ 65536) (f : PS → PS × Option RE) (hf : ∀ d', d' + 1 = d → PS.Gd d' f ∧ Orr d' p s f ∧ ∀ a, PS.At d' a → PS.Dk a (f a).1) (st : PS) (w : World) (h : PAt w p s st) (ha : PS.At d st) :
    Calls Tryz.prog 169 #[ptr p] w (PrPost p s w (PS.post f st)) := by
  have HATOM := Lib.hid (atom_any d p s hs f hf st w h ha)
  have HRES := Lib.hid (PS.atom_res f (fun d' e => (hf d' e).1) st ha)
  have HPOST : Hid (PS.post f st = PS.postGo ((PS.atom f st).1.rest.length + 1) (PS.atom f st).1 (PS.atom f st).2) := rfl
  rw [HPOST.out]
  generalize PS.atom f st = A at *
  obtain ⟨F, hF⟩ : ∃ F, PS.postGo (A.1.rest.length + 1) A.1 A.2 = F := ⟨_, rfl⟩
  have HF := Lib.hid hF
  rw [hF]
  clear hF HPOST h hf
  go_enter Tryz.func169, Tryz.ntmps169
  go_wp2_with fail
  refine HATOM.out.mono ?_
  rintro e w1 ⟨v1, rfl, hre1, hp1, hf1⟩
  have hst : PostAt w p s st F v1 w1 := ⟨_, _, _, hp1, hre1, hf1, HF.out, fun _ => Nat.lt_succ_self _, fun _ => HRES.out⟩
  have HST := Lib.hid hst
  clear hp1 hre1 hf1 hst HATOM HRES HF
  go_wp2_with fail
  go_loopw [3] (fun v wr => PostAt w p s st F v wr) (fun _ wr => psMeas p s wr)
  case atStart => exact HST.out
  case round =>
    clear HST
    obtain ⟨f', st', r, hp, hre, hfar, hgo, hfu, hres⟩ := hrel
    have HP := Lib.hid hp
    have HRE := Lib.hid hre
    have HFAR := Lib.hid hfar
    have HGO := Lib.hid hgo
    have c4 := hp.cells.2.2.2.2.1
    by_cases he : st'.e = 0
    · have ge : (((st'.e : Nat) : Int) == 0) = true := by rw [he]; rfl
      have HE := Lib.hid he
      have hr2 := hres he
      obtain ⟨k1, k2, k3, x, rfl⟩ := hr2.go he
      obtain ⟨xb, hxb, _⟩ := id hre
      subst hxb
      have HR2 := Lib.hid hr2
      have hnf := hr2.nf x rfl
      have hsz : x.size ≤ 5000000 := by have z1 := hr2.size; have z2 := hr2.nodes.2; simp only [RE.sizeO] at z1 z2; omega
      have hlen := hfu he
      obtain ⟨f'', rfl⟩ : ∃ g, f' = g + 1 := ⟨f' - 1, by omega⟩
      have HNF := Lib.hid hnf
      have HSZ := Lib.hid hsz
      have HLEN := Lib.hid hlen
      have hnd : st'.nodes ≤ 1000 := k2
      clear hp hre hfar hgo hfu hres he hr2 k1 k2 k3 hnf hsz hlen
      generalize st'.e = en at c4 ge
      go_upto_block 2 with fail
      go_cut [3] from 6 to 50 (fun s3 wx => ∃ t r', PMid w p s st' f'' F t r' s3 wx)
      case first =>
        go_wp2_with fail
        refine (psTake_any p s (st') _ HP.out hs 42 (by decide)).mono ?_
        rintro e w2 ⟨rfl, hp2, hf2⟩
        have HP2 := Lib.hid hp2
        have HF2 := Lib.hid (HFAR.out.trans hf2)
        have HRE2 := Lib.hid (HRE.out.far HP.out hf2)
        have HT2 := Lib.hid (PS.take_same (st') 42)
        have HRUN2 := Lib.hid ((PS.take_run HE.out 42))
        have HE2 : Hid (((st').take 42).1.e = 0) := HT2.out.1.trans HE.out
        have HLT2 := Lib.hid (fun (h : ((st').take 42).2 = true) => PS.take_go h)
        have HN2 : Hid ((st'.take 42).1.nodes = st'.nodes ∧ (st'.take 42).1.deep = st'.deep) := ⟨HT2.out.2.1, HT2.out.2.2.1⟩
        have HG2 : Hid ((st'.take 42).2 = true → PS.postGo f'' ((st'.take 42).1.bump (RE.many (some x))) (some (RE.many (some x))) = F) := fun h => by
          have e := HGO.out; rw [PS.postGo, if_neg (by have := HE.out; omega)] at e; simp only at e; rw [if_pos h] at e; exact e
        have HG2' : Hid ((st'.take 42).2 = false → (if ((st'.take 42).1.take 43).2 then PS.postGo f'' (((st'.take 42).1.take 43).1.bump (RE.thenL [some x, some (RE.many (some x))])) (some (RE.thenL [some x, some (RE.many (some x))])) else if (((st'.take 42).1.take 43).1.take 63).2 then PS.postGo f'' ((((st'.take 42).1.take 43).1.take 63).1.bump (RE.anyL [some x, some RE.empty])) (some (RE.anyL [some x, some RE.empty])) else ((((st'.take 42).1.take 43).1.take 63).1, some x)) = F) := fun h => by
          have e := HGO.out; rw [PS.postGo, if_neg (by have := HE.out; omega)] at e; simp only at e; rw [if_neg (by rw [h]; simp)] at e; exact e
        clear hp2 hf2
        generalize st'.take 42 = T2 at *
        obtain ⟨t2, b2⟩ := T2
        cases b2 with
        | true =>
          go_wp2_with fail
          refine (Many_any (ptr xb) (some x) _ HRE2.out (by have := HSZ.out; simp only [RE.sizeO]; omega)).mono ?_
          rintro e w3 ⟨rb, rfl, hm, hb3⟩
          have hmid : PMid w p s st' f'' F t2 (RE.many (some x)) (ptr rb) w3 :=
            ⟨⟨rb, rfl, hm⟩, HP2.out.later hb3, HF2.out.trans (Far.below hb3), HRUN2.out, HLT2.out (by first | rfl | trivial), HE2.out, HN2.out.1, HN2.out.2, RE.nf_many fun r hr => by cases hr; exact HNF.out, HG2.out (by first | rfl | trivial)⟩
          have HMID := Lib.hid hmid
          clear hm hb3 hmid
          go_wp2_with fail
          go_meet
          exact ⟨_, _, HMID.out⟩
        | false =>
          go_wp2_with fail
          refine (psTake_any p s (t2) _ HP2.out hs 43 (by decide)).mono ?_
          rintro e w3 ⟨rfl, hp3, hf3⟩
          have HP3 := Lib.hid hp3
          have HF3 := Lib.hid (HF2.out.trans hf3)
          have HRE3 := Lib.hid (HRE2.out.far HP2.out hf3)
          have HT3 := Lib.hid (PS.take_same (t2) 43)
          have HRUN3 := Lib.hid (HRUN2.out.trans (PS.take_run HE2.out 43))
          have HE3 : Hid (((t2).take 43).1.e = 0) := HT3.out.1.trans HE2.out
          have HLT3 := Lib.hid (fun (h : ((t2).take 43).2 = true) => PS.take_go h)
          have HN3 : Hid ((t2.take 43).1.nodes = st'.nodes ∧ (t2.take 43).1.deep = st'.deep) := ⟨HT3.out.2.1.trans HN2.out.1, HT3.out.2.2.1.trans HN2.out.2⟩
          have HLE2 : Hid (st'.at_ ≤ t2.at_) := HRUN2.out.le
          have HG3 := Lib.hid (HG2'.out (by first | rfl | trivial))
          clear hp3 hf3 HG2 HG2'
          generalize t2.take 43 = T3 at *
          obtain ⟨t3, b3⟩ := T3
          cases b3 with
          | true =>
            have HGG : Hid (PS.postGo f'' (t3.bump (RE.thenL [some x, some (RE.many (some x))])) (some (RE.thenL [some x, some (RE.many (some x))])) = F) := by have := HG3.out; show _ = _; simpa using this
            go_wp2_with fail
            refine (Many_any (ptr xb) (some x) _ HRE3.out (by have := HSZ.out; simp only [RE.sizeO]; omega)).mono ?_
            rintro e w4 ⟨rb, rfl, hm, hb4⟩
            have hms := RE.size_many (some x)
            have hl4 := listO_pair (HRE3.out.later hb4) (show IsReO w4 (ptr rb) (some (RE.many (some x))) from ⟨rb, rfl, hm⟩)
            have hxa := re_alloc w4 (.cells #[ptr xb, ptr rb] 37)
            have HL4 := Lib.hid hl4
            have HB4 := Lib.hid (hb4.trans (hxa.mono hb4.size))
            have HTH := Lib.hid (fun W (hl : ListO W (some ⟨w4.heap.size, 0, none⟩) [some x, some (RE.many (some x))]) => Then_any (some ⟨w4.heap.size, 0, none⟩) 2 [some x, some (RE.many (some x))] W hl (PS.nf_two HNF.out (RE.nf_many fun r hr => by cases hr; exact HNF.out)) (by
              have h1 := RE.sizes_flat 3 [some x, some (RE.many (some x))]
              have h2 := HSZ.out
              simp only [RE.sizeOs, List.map_cons, List.map_nil, List.sum_cons, List.sum_nil, RE.sizeO] at h1 hms
              omega) (by simp))
            clear hm hb4 hl4 hxa hms
            go_wp2_with fail
            refine (HTH.out _ HL4.out).mono ?_
            rintro e w5 ⟨rb2, rfl, hm5, hb5⟩
            have hB := HB4.out.trans (hb5.mono HB4.out.size)
            have hmid : PMid w p s st' f'' F t3 (RE.thenL [some x, some (RE.many (some x))]) (ptr rb2) w5 :=
              ⟨⟨rb2, rfl, hm5⟩, HP3.out.later hB, HF3.out.trans (Far.below hB), HRUN3.out, Nat.lt_of_le_of_lt HLE2.out (HLT3.out (by first | rfl | trivial)), HE3.out, HN3.out.1, HN3.out.2, RE.nf_thenL (PS.nf_two HNF.out (RE.nf_many fun r hr => by cases hr; exact HNF.out)), HGG.out⟩
            have HMID := Lib.hid hmid
            clear hm5 hb5 hmid hB
            go_wp2_with fail
            go_meet
            exact ⟨_, _, HMID.out⟩
          | false =>
            go_wp2_with fail
            refine (psTake_any p s (t3) _ HP3.out hs 63 (by decide)).mono ?_
            rintro e w4 ⟨rfl, hp4, hf4⟩
            have HP4 := Lib.hid hp4
            have HF4 := Lib.hid (HF3.out.trans hf4)
            have HRE4 := Lib.hid (HRE3.out.far HP3.out hf4)
            have HT4 := Lib.hid (PS.take_same (t3) 63)
            have HRUN4 := Lib.hid (HRUN3.out.trans (PS.take_run HE3.out 63))
            have HE4 : Hid (((t3).take 63).1.e = 0) := HT4.out.1.trans HE3.out
            have HLT4 := Lib.hid (fun (h : ((t3).take 63).2 = true) => PS.take_go h)
            have HN4 : Hid ((t3.take 63).1.nodes = st'.nodes ∧ (t3.take 63).1.deep = st'.deep) := ⟨HT4.out.2.1.trans HN3.out.1, HT4.out.2.2.1.trans HN3.out.2⟩
            have HLE3 : Hid (st'.at_ ≤ t3.at_) := HRUN3.out.le
            have HG4 : Hid ((if (t3.take 63).2 then PS.postGo f'' ((t3.take 63).1.bump (RE.anyL [some x, some RE.empty])) (some (RE.anyL [some x, some RE.empty])) else ((t3.take 63).1, some x)) = F) := by have := HG3.out; show _ = _; simpa using this
            clear hp4 hf4 HG3
            generalize t3.take 63 = T4 at *
            obtain ⟨t4, b4⟩ := T4
            cases b4 with
            | true =>
              have HGG : Hid (PS.postGo f'' (t4.bump (RE.anyL [some x, some RE.empty])) (some (RE.anyL [some x, some RE.empty])) = F) := by have := HG4.out; show _ = _; simpa using this
              go_wp2_with fail
              refine (EmptyRe_any _).mono ?_
              rintro e w5 ⟨rb, rfl, hm, hb5⟩
              have hl5 := listO_pair (HRE4.out.later hb5) (show IsReO w5 (ptr rb) (some RE.empty) from ⟨rb, rfl, hm.is⟩)
              have hxa := re_alloc w5 (.cells #[ptr xb, ptr rb] 37)
              have HL5 := Lib.hid hl5
              have HB5 := Lib.hid (hb5.trans (hxa.mono hb5.size))
              have HAN := Lib.hid (fun W (hl : ListO W (some ⟨w5.heap.size, 0, none⟩) [some x, some RE.empty]) => Any_any (some ⟨w5.heap.size, 0, none⟩) 2 [some x, some RE.empty] W hl (PS.nf_two HNF.out RE.nf_empty) (by
                have h1 := RE.sizes_flat 4 [some x, some RE.empty]
                have h2 := HSZ.out
                have h3 : RE.empty.size = 1 := rfl
                simp only [RE.sizeOs, List.map_cons, List.map_nil, List.sum_cons, List.sum_nil, RE.sizeO] at h1
                omega) (by simp))
              clear hm hb5 hl5 hxa
              go_wp2_with fail
              refine (HAN.out _ HL5.out).mono ?_
              rintro e w6 ⟨rb2, rfl, hm6, hb6⟩
              have hB := HB5.out.trans (hb6.mono HB5.out.size)
              have hmid : PMid w p s st' f'' F t4 (RE.anyL [some x, some RE.empty]) (ptr rb2) w6 :=
                ⟨⟨rb2, rfl, hm6⟩, HP4.out.later hB, HF4.out.trans (Far.below hB), HRUN4.out, Nat.lt_of_le_of_lt HLE3.out (HLT4.out (by first | rfl | trivial)), HE4.out, HN4.out.1, HN4.out.2, RE.nf_anyL (PS.nf_two HNF.out RE.nf_empty), HGG.out⟩
              have HMID := Lib.hid hmid
              clear hm6 hb6 hmid hB
              go_wp2_with fail
              go_meet
              exact ⟨_, _, HMID.out⟩
            | false =>
              have hF4 : F = (t4, some x) := by rw [← HG4.out]; simp
              subst hF4
              go_wp2_with fail
              go_ret
              exact ⟨_, rfl, HRE4.out, HP4.out, HF4.out⟩
      case rest =>
        obtain ⟨t, r', hmid⟩ := hcut
        obtain ⟨hsre, hspa, hsfar, hsrun, hslt, hse, hsn, hsd, hsnf, hsgo⟩ := hmid
        obtain ⟨rb, rfl, hsr⟩ := hsre
        have hsre : IsReO wc (ptr rb) (some r') := ⟨rb, rfl, hsr⟩
        have HSZR := Lib.hid (fun W (h : IsReO W (ptr rb) (some r')) => Size_any (ptr rb) (some r') W h)
        have HBR := Lib.hid (PS.bump_res HR2.out HE.out hsrun hslt hse hsn hsd hsnf)
        have HBL : Hid ((t.bump r').rest.length < f'') := by
          show _ < _
          have h1 := PS.rest_lt' hsrun hslt
          have h2 := PS.bump_rest t r'
          have := HLEN.out
          omega
        have HBA : Hid (st'.at_ < (t.bump r').at_) := Nat.lt_of_lt_of_le hslt (PS.bump_at t r')
        have c3 := hspa.cells.2.2.2.1
        have f3 := hspa.frz 3
        have htn : t.nodes ≤ 1000 := by omega
        have hp5 : PAt (wc.setCell ⟨p, 3, none⟩ (.int .i64 ((t.nodes : Int) + 1))) p s { t with nodes := t.nodes + 1 } := hspa.put 3 _ (by rfl) hspa.rest hspa.tot
        have HP5 := Lib.hid hp5
        have HF5 := Lib.hid (hsfar.set 3 (.int .i64 ((t.nodes : Int) + 1)))
        have HR5 := Lib.hid (hsre.far hspa ((Far.refl p wc).set 3 (.int .i64 ((t.nodes : Int) + 1))))
        have HSG := Lib.hid hsgo
        have d3 := hp5.cells.2.2.2.1
        obtain ⟨z, hz⟩ : ∃ z, r'.size = z := ⟨_, rfl⟩
        have HZ := Lib.hid hz
        have hszr : RE.sizeO (some r') = z := hz
        rw [hszr] at HSZR
        have hbump : t.bump r' = if 1000 < t.nodes + 1 ∨ 1000 < z then ({ t with nodes := t.nodes + 1 } : PS).fail 3 else { t with nodes := t.nodes + 1 } := by rw [← hz]; rfl
        have HBU := Lib.hid hbump
        clear hsre hspa hsfar hsrun hslt hse hsn hsd hsnf hsgo hp5 hz hszr hbump hsr c4 ge
        obtain ⟨tn, HTN⟩ : ∃ x, Hid (t.nodes = x) := ⟨_, rfl⟩
        have e3 : (({ t with nodes := t.nodes + 1 } : PS).nodes : Int) = (tn : Int) + 1 := by rw [← HTN.out]; rfl
        rw [HTN.out] at c3 htn
        rw [show ((t.nodes : Nat) : Int) = (tn : Int) by rw [HTN.out]] at HP5 HF5 HR5 d3
        rw [e3] at d3
        clear e3
        by_cases hm : 1000 < tn + 1
        · have hm' : (1000 : Int) < (tn : Int) + 1 := by omega
          have HBB : Hid (t.bump r' = ({ t with nodes := t.nodes + 1 } : PS).fail 3) := by show _ = _; rw [HBU.out, HTN.out, if_pos (.inl hm)]
          clear hm
          go_wp2_with fail
          refine (psFail_any p s _ _ HP5.out hs 3 (by omega)).mono ?_
          rintro e w9 ⟨rfl, hp9, hf9⟩
          have HR9 := Lib.hid (HR5.out.far HP5.out hf9)
          rw [← HBB.out] at hp9
          have HP9 := Lib.hid hp9
          have HF9 := Lib.hid (HF5.out.trans hf9)
          clear hp9 hf9
          go_wp2_with fail
          go_roundw
          case rel => exact ⟨f'', t.bump r', some r', HP9.out, HR9.out, HF9.out, HSG.out, fun _ => HBL.out, fun e => HBR.out e⟩
          case measure => exact psMeas_lt HP.out HP9.out HE.out fun _ => HBA.out
        · have hm' : ¬ (1000 : Int) < (tn : Int) + 1 := by omega
          by_cases hz : 1000 < z
          · have hz' : (1000 : Int) < (z : Int) := by omega
            have HBB : Hid (t.bump r' = ({ t with nodes := t.nodes + 1 } : PS).fail 3) := by show _ = _; rw [HBU.out, HTN.out, if_pos (.inr hz)]
            clear hm hz
            go_wp2_with fail
            refine (HSZR.out _ HR5.out).mono ?_
            rintro e w8 ⟨rfl, rfl⟩
            go_wp2_with fail
            refine (psFail_any p s _ _ HP5.out hs 3 (by omega)).mono ?_
            rintro e w9 ⟨rfl, hp9, hf9⟩
            have HR9 := Lib.hid (HR5.out.far HP5.out hf9)
            rw [← HBB.out] at hp9
            have HP9 := Lib.hid hp9
            have HF9 := Lib.hid (HF5.out.trans hf9)
            clear hp9 hf9
            go_wp2_with fail
            go_roundw
            case rel => exact ⟨f'', t.bump r', some r', HP9.out, HR9.out, HF9.out, HSG.out, fun _ => HBL.out, fun e => HBR.out e⟩
            case measure => exact psMeas_lt HP.out HP9.out HE.out fun _ => HBA.out
          · have hz' : ¬ (1000 : Int) < (z : Int) := by omega
            have HBB : Hid (t.bump r' = { t with nodes := t.nodes + 1 }) := by show _ = _; rw [HBU.out, HTN.out, if_neg (by omega)]
            have HP9 : Hid (PAt (wc.setCell ⟨p, 3, none⟩ (.int .i64 ((tn : Int) + 1))) p s (t.bump r')) := by rw [HBB.out]; exact HP5.out
            clear hm hz
            go_wp2_with fail
            refine (HSZR.out _ HR5.out).mono ?_
            rintro e w8 ⟨rfl, rfl⟩
            go_wp2_with fail
            go_roundw
            case rel => exact ⟨f'', t.bump r', some r', HP9.out, HR5.out, HF5.out, HSG.out, fun _ => HBL.out, fun e => HBR.out e⟩
            case measure => exact psMeas_lt HP.out HP9.out HE.out fun _ => HBA.out
    · have ge : (((st'.e : Nat) : Int) == 0) = false := by rw [beq_eq_false_iff_ne]; omega
      have hF2 : F = (st', none) := by rw [← HGO.out]; exact PS.postGo_bad _ _ _ he
      subst hF2
      clear hp hre hfar hgo hfu hres he
      generalize hee : st'.e = en at c4 ge
      go_wp2_with fail
      go_ret
      exact ⟨_, rfl, rfl, HP.out, HFAR.out⟩
end Go.Proofs.YticpjjmacmmpjaaGreatDoor
