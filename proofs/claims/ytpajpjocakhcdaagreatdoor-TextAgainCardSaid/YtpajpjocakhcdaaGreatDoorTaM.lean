/-
  Expressions made of shapes, walked through the program.
-/
import Derived.Test.YtpajpjocakhcdaaGreatDoorTaC
import Derived.Test.YtpajpjocakhcdaaGreatDoorPsL
import Derived.Test.YtpajpjocakhcdaaGreatDoorTbF
import Derived.Deep.DeepCutAuto
import Derived.Deep.CutBlock
set_option linter.unusedSimpArgs false
set_option linter.unusedVariables false
set_option maxRecDepth 100000
set_option linter.unnecessarySimpa false
namespace Go.Proofs.YtpajpjocakhcdaaGreatDoor
open Go.RowKit
abbrev shBox (p : SH) (sv : Value) : Obj := .cells #[.int .i64 p.op, .int .u8 p.lo, .int .u8 p.hi, .string p.tx, sv] 74
/-- a list of expressions that grows, beside an object -/
structure KAt (w : World) (ob : Obj) (acc : List (Option RE)) (g cap : Nat) (xs : List Value) (W : World) : Prop where
  row : RowN W g acc.length cap xs
  base : w.heap.size < g
  bel : Below w.heap.size w W
  box : W.heap[w.heap.size]? = some ob
  re : ∀ i, i < acc.length → IsReO W (xs.getD i undef) (acc.getD i none)
variable {w W W' : World} {ob : Obj} {acc : List (Option RE)} {g cap : Nat} {xs : List Value}
theorem KAt.lt (h : KAt w ob acc g cap xs W) : g < W.heap.size := (Array.getElem?_eq_some_iff.1 h.row.row).1
theorem KAt.later (h : KAt w ob acc g cap xs W) (hb : Below W.heap.size W W') : KAt w ob acc g cap xs W' :=
  ⟨h.row.kept (hb.block g h.lt), h.base, ext_step h.bel hb, (hb.block _ (Array.getElem?_eq_some_iff.1 h.box).1).trans h.box, fun i hi => (h.re i hi).later hb⟩
theorem KAt.listO (h : KAt w ob acc g cap xs W) : ListO W (some ⟨g, 0, none⟩) acc := .inr ⟨g, 0, rfl, fun i hi => ⟨xs.getD i undef, by
  rw [Nat.zero_add]
  exact h.row.cell i _ (by rw [List.getD_eq_getElem?_getD, List.getElem?_eq_getElem (by rw [h.row.len]; exact hi)]; rfl), h.re i hi⟩⟩
theorem KAt.append {g' cap' : Nat} {v : Value} {r : Option RE} (h : KAt w ob acc g cap xs W) (hr : IsReO W v r)
   (h1 : RowN W' g' (acc.length + 1) cap' (xs ++ [v])) (h2 : W.grownBy W' (some g)) (h3 : g' = g ∨ g' = W.heap.size) (h4 : ∀ u o, IsReO W u o → IsReO W' u o) : KAt w ob (acc ++ [r]) g' cap' (xs ++ [v]) W' := by
  have hb := h.base
  have hsz := h.bel.size
  have hbx := (Array.getElem?_eq_some_iff.1 h.box).1
  have hk : ∀ k, k < W.heap.size → k ≠ g → W'.heap[k]? = W.heap[k]? := fun k hk hne => h2.block k hk (fun e => hne (Option.some.inj e))
  refine ⟨by simpa using h1, by omega, ⟨h2.os.trans h.bel.os, h2.tape.trans h.bel.tape, h2.output.trans h.bel.output, Nat.le_trans hsz h2.size, fun k hlt => (hk k (by omega) (by omega)).trans (h.bel.block k hlt)⟩, (hk _ hbx (by omega)).trans h.box, fun i hi => ?_⟩
  have hl := h.row.len
  by_cases e : i < acc.length
  · have := h4 _ _ (h.re i e)
    simpa [List.getD, List.getElem?_append_left e, List.getElem?_append_left (show i < xs.length by omega)] using this
  · obtain rfl : i = acc.length := by simp at hi; omega
    have := h4 _ _ hr
    rw [← hl]
    simp only [List.getD, List.getElem?_append_right (Nat.le_refl _), Nat.sub_self]
    rw [hl]
    simpa [List.getD] using this
theorem KAt.first (w : World) (ob : Obj) : KAt w ob [] (w.heap.size + 1) 0 [] ((w.alloc ob).alloc (.cells #[] 39)) := by
  have e : (w.alloc ob).heap.size = w.heap.size + 1 := by simp
  have h1 := heap_alloc_last (w.alloc ob) (.cells #[] 39)
  rw [e] at h1
  refine ⟨⟨h1, rfl, Nat.le_refl _, by unfold maxLen; simp⟩, by omega, ext_alloc (re_alloc w ob) _, ?_, fun i hi => absurd hi (by simp)⟩
  exact ((re_alloc (w.alloc ob) _).block _ (by simp)).trans (heap_alloc_last w ob)
def ShMkAt (w : World) (p : SH) (sv : Value) (v i : Value) (wr : World) : Prop :=
  ∃ (k : Nat) (acc : List (Option RE)) (g cap : Nat) (xs : List Value), k ≤ p.kids.length ∧ i = .int .i64 k ∧ v = .slice (some ⟨g, 0, none⟩) acc.length cap ∧ Hid (acc = (p.kids.take k).map fun q => some q.mk) ∧ KAt w (shBox p sv) acc g cap xs wr
theorem KAt.shape {p : SH} {sv : Value} (h : KAt w (shBox p sv) acc g cap xs W) : W.cell? ⟨w.heap.size, 0, none⟩ = some (.int .i64 p.op) ∧ W.cell? ⟨w.heap.size, 1, none⟩ = some (.int .u8 p.lo) ∧ W.cell? ⟨w.heap.size, 2, none⟩ = some (.int .u8 p.hi) ∧ W.cell? ⟨w.heap.size, 3, none⟩ = some (.string p.tx) ∧ W.cell? ⟨w.heap.size, 4, none⟩ = some sv :=
  ⟨by rw [cell_of_row _ _ _ _ _ _ h.box]; rfl, by rw [cell_of_row _ _ _ _ _ _ h.box]; rfl, by rw [cell_of_row _ _ _ _ _ _ h.box]; rfl, by rw [cell_of_row _ _ _ _ _ _ h.box]; rfl, by rw [cell_of_row _ _ _ _ _ _ h.box]; rfl⟩
theorem acc_getD {p : SH} {acc : List (Option RE)} (h : acc = p.kids.map fun q => some q.mk) (i : Nat) (hi : i < acc.length) : acc.getD i none = some ((p.kids.map SH.mk).getD i RE.nothing) := by
  subst h
  have hi' : i < p.kids.length := by simpa using hi
  simp [List.getD, hi']
theorem KAt.kid {p : SH} (h : KAt w ob acc g cap xs W) (ha : acc = p.kids.map fun q => some q.mk) (i : Nat) (hi : i < acc.length) : ∃ b, W.cell? ⟨g, i, none⟩ = some (ptr b) ∧ IsRe W b ((p.kids.map SH.mk).getD i RE.nothing) := by
  have h1 := h.re i hi
  rw [acc_getD ha i hi] at h1
  obtain ⟨b, h2, h3⟩ := h1
  refine ⟨b, h.row.cell i _ ?_, h3⟩
  rw [← h2, List.getD_eq_getElem?_getD, List.getElem?_eq_getElem (by rw [h.row.len]; exact hi)]; rfl
set_option maxRecDepth 100000 in
set_option maxHeartbeats 8000000 in
theorem ShMake_step (p : SH) (sv : Value) (w : World) (hp : IsSh w sv p.kids) (hf : p.fit) (hz : p.sz ≤ 1000) (hM : ∀ k ∈ p.kids, ∀ W sv', IsSh W sv' k.kids → Calls Tryz.prog 45 #[shV k sv'] W (RePost W k.mk)) :
    Calls Tryz.prog 45 #[shV p sv] w (RePost w p.mk) := by
  obtain ⟨a, cap0, B, off, kv, rfl, ha, hml, hks⟩ := hp.open
  have hlz : p.kids.length ≤ 1000 := by
    have h1 := p.sz_eq
    have h2 : ∀ l : List SH, l.length ≤ SH.szs l := fun l => by
      induction l with
      | nil => simp
      | cons x l ih => have := x.sz_eq; simp only [List.length_cons, SH.szs]; omega
    have := h2 p.kids
    omega
  have HST := Lib.hid (KAt.first w (shBox p (.slice a p.kids.length cap0)))
  have HOP := Lib.hid (fun W => shop_any p a p.kids.length cap0 W)
  have HLO := Lib.hid (fun W => shlow_any p a p.kids.length cap0 W)
  have hol := sMod_lt p.op 9 (by omega)
  have hlow := sLow_eq p.lo
  have hhigh := sLow_eq p.hi
  have HFR := Lib.hid (fun W => FromS_any (sLow p.lo) (sLow p.hi) (by omega) (by omega) W)
  have htl : p.tx.data.toList.length ≤ 1099511627776 := by
    have h1 : p.tx.size ≤ 20 := by cases p; exact hf.1
    have h2 : p.tx.data.toList.length = p.tx.size := Array.length_toList
    omega
  have HWD : Hid (∀ W, Calls Tryz.prog 46 #[.string p.tx] W (RePost W (RE.wordL p.tx.data.toList))) := Word_any p.tx.data.toList htl
  have HE := Lib.hid p.mk_eq
  have hsz := p.sz_eq
  have hfew : ∀ k ∈ p.kids, RE.Few k.sz k.mk := fun k hk => RE.few_mk k.sz k (Nat.le_refl _) (SH.fit_kids hf hk)
  obtain ⟨s1, s2, s3⟩ := RE.few_sum _ hfew
  obtain ⟨b1, b2, b3⟩ := RE.few_getD _ hfew 0
  obtain ⟨c1, c2, c3⟩ := RE.few_getD _ hfew 1
  obtain ⟨d1, d2⟩ := RE.wt_getD2 _ hfew
  have hnf : RE.nfO ((p.kids.map SH.mk).map some) := fun r hr => by
    simp only [List.map_map, List.mem_map, Function.comp_def, Option.some.injEq] at hr
    obtain ⟨k, _, rfl⟩ := hr
    exact SH.nf_mk k.sz k (Nat.le_refl _)
  have HNF := Lib.hid hnf
  have hT : ∀ (acc : List (Option RE)) (g cap : Nat) (W : World), acc = (p.kids.map SH.mk).map some → ListO W (some ⟨g, 0, none⟩) acc →
      Calls Tryz.prog 40 #[.slice (some ⟨g, 0, none⟩) acc.length cap] W (RePost W (RE.thenL ((p.kids.map SH.mk).map some))) ∧
      Calls Tryz.prog 43 #[.slice (some ⟨g, 0, none⟩) acc.length cap] W (RePost W (RE.anyL ((p.kids.map SH.mk).map some))) ∧
      Calls Tryz.prog 41 #[.slice (some ⟨g, 0, none⟩) acc.length cap] W (RePost W (RE.bothL ((p.kids.map SH.mk).map some))) := fun acc g cap W e hl => by
    have hlen : acc.length ≤ 1099511627776 := by rw [e]; simp; omega
    have h3 := RE.sizes_flat 3 ((p.kids.map SH.mk).map some)
    have h4 := RE.sizes_flat 4 ((p.kids.map SH.mk).map some)
    have h6 := RE.sizes_flat 6 ((p.kids.map SH.mk).map some)
    rw [← e] at hnf s1 h3 h4 h6 ⊢
    exact ⟨Then_any _ cap acc W hl hnf (by omega) hlen, Any_any _ cap acc W hl hnf (by omega) hlen, Both_any _ cap acc W hl hnf (by omega) hlen⟩
  have HT := Lib.hid hT
  have hmany : RE.sizeO (some ((p.kids.map SH.mk).getD 0 RE.nothing)) ≤ 1099511627775 := by simp only [RE.sizeO]; omega
  have hbut : RE.sizeO (some ((p.kids.map SH.mk).getD 0 RE.nothing)) + RE.sizeO (some ((p.kids.map SH.mk).getD 1 RE.nothing)) ≤ 1099511627775 := by simp only [RE.sizeO]; omega
  have HMANY := Lib.hid (fun W b (h : IsRe W b ((p.kids.map SH.mk).getD 0 RE.nothing)) => Many_any (ptr b) (some _) W ⟨b, rfl, h⟩ hmany)
  have HBUT := Lib.hid (fun W b b' (h : IsRe W b ((p.kids.map SH.mk).getD 0 RE.nothing)) (h' : IsRe W b' ((p.kids.map SH.mk).getD 1 RE.nothing)) => But_any (ptr b) (ptr b') (some _) (some _) W ⟨b, rfl, h⟩ ⟨b', rfl, h'⟩ hbut)
  have HA := Lib.hid ha
  have HKS := Lib.hid hks
  have HMM := Lib.hid hM
  have hlo1 := hlow.2; have hhi1 := hhigh.2
  clear ha hks hM hp hml htl hlow hhigh hsz hfew s1 s2 s3 b1 b2 b3 c1 c2 c3 d1 d2 hnf hT hmany hbut hf hz
  go_enter Tryz.func45, Tryz.ntmps45
  go_wp2_with fail
  go_loopw [3, 14] (fun v i wr => ShMkAt w p (.slice a p.kids.length cap0) v i wr) (fun _ i _ => p.kids.length - (intOf i).toNat)
  case atStart => exact ⟨0, [], _, _, _, by omega, rfl, rfl, rfl, HST.out⟩
  case round =>
    obtain ⟨k, acc, g, cap, xs, hk, rfl, rfl, hacc, hka⟩ := hrel
    have HK := Lib.hid hka
    have hal : acc.length = k := by rw [hacc.out]; simp; omega
    have hall : acc.length ≤ 1000 := by omega
    have HAL := Lib.hid hal
    clear hka hal
    by_cases hlt : k < p.kids.length
    · have hne : p.kids ≠ [] := fun e => by rw [e] at hlt; simp at hlt
      have ha := HA.out hne
      subst ha
      obtain ⟨c0, c1, c2, c3, c4, hkp⟩ := HKS.out k hlt
      have hbk := World.block_lt_of_cell? w _ c0
      have hW := HK.out.bel
      rw [← hW.cell (p := ⟨B, off + k * 5, none⟩) hbk] at c0
      rw [← hW.cell (p := ⟨B, off + k * 5 + 1, none⟩) hbk] at c1
      rw [← hW.cell (p := ⟨B, off + k * 5 + 2, none⟩) hbk] at c2
      rw [← hW.cell (p := ⟨B, off + k * 5 + 3, none⟩) hbk] at c3
      rw [← hW.cell (p := ⟨B, off + k * 5 + 4, none⟩) hbk] at c4
      have hkp1 := hkp.later hW
      have hmem : p.kids.getD k SH.none ∈ p.kids := by simp [List.getD, hlt]
      have HCALL := Lib.hid (fun W (h : IsSh W (kv k) (p.kids.getD k SH.none).kids) => HMM.out (p.kids.getD k SH.none) hmem W (kv k) h)
      have HNX : Hid (acc ++ [some (p.kids.getD k SH.none).mk] = (p.kids.take (k + 1)).map fun q => some q.mk) := by
        show _ = _
        rw [hacc.out, List.map_take, List.map_take, List.take_succ_eq_append_getElem (by simpa using hlt)]; simp [List.getD, hlt]
      clear hW hmem hkp
      generalize p.kids.getD k SH.none = q at *
      generalize kv k = qv at *
      obtain ⟨a2, cap2, _, _, _, rfl, _⟩ := hkp1.open
      have HKP := Lib.hid hkp1
      clear hkp1 hne
      go_wp2_with fail
      refine (HCALL.out _ (HKP.out.later (by repeat (first | exact Below.refl _ _ | assumption | refine Below.drew ?_ | refine ext_drewN ?_ _ | refine ext_alloc ?_ _ | refine Below.setCell ?_ (by (try simp only [World.size_alloc, World.size_setCell, World.size_drew]); omega) _ | refine ext_step ?_ (by assumption))))).mono ?_
      rintro e w2 ⟨b, rfl, hre, hb2⟩
      have hB2 : Below wr.heap.size wr w2 := by repeat (first | exact Below.refl _ _ | assumption | refine Below.drew ?_ | refine ext_drewN ?_ _ | refine ext_alloc ?_ _ | refine Below.setCell ?_ (by (try simp only [World.size_alloc, World.size_setCell, World.size_drew]); omega) _ | refine ext_step ?_ (by assumption))
      have HK2 := Lib.hid (HK.out.later hB2)
      have HK3 := Lib.hid (HK2.out.later (re_alloc w2 (.cells #[ptr b] 39)))
      have HR3 : Hid (IsReO (w2.alloc (.cells #[ptr b] 39)) (ptr b) (some q.mk)) := ⟨b, rfl, hre.later (Nat.le_refl _) (re_alloc w2 _)⟩
      have hsrc : (w2.alloc (.cells #[ptr b] 39)).cell? ⟨w2.heap.size, 0, none⟩ = some (ptr b) := by rw [cell_of_row _ _ _ _ _ _ (heap_alloc_last w2 _)]; rfl
      have HSRC := Lib.hid hsrc
      clear hre hb2 hB2 hsrc c0 c1 c2 c3 c4
      go_wp2_with (at_builtin; refine wpList_append_ptr rfl _ _ rfl g acc.length cap w2.heap.size 1 xs (ptr b) rfl rfl HK3.out.row HSRC.out rfl (by omega) ?_; intro g7 cp7 w7 h71 h72 h73 h74)
      have HK7 := Lib.hid (HK3.out.append HR3.out h71 h72 h73 h74)
      clear h71 h72 h73 h74
      go_wp2_with fail
      go_roundw
      case rel => exact ⟨k + 1, acc ++ [some q.mk], g7, cp7, _, by omega, by go_num, by simp, HNX, HK7.out⟩
      case measure => simp [intOf]; omega
    · obtain rfl : k = p.kids.length := by omega
      have hacc2 : acc = (p.kids.map SH.mk).map some := by rw [hacc.out, List.take_length]; simp
      have hacc3 : acc = p.kids.map fun q => some q.mk := by rw [hacc2]; simp
      have HACC2 := Lib.hid hacc2
      have HACC3 := Lib.hid hacc3
      clear hacc hacc2 hacc3 hlt
      go_wp2_with fail
      refine (Nothing_any _).mono ?_
      rintro e w1 ⟨b1, rfl, h1, hb1⟩
      have HK1 := Lib.hid (HK.out.later hb1)
      have HN1 := Lib.hid h1.is
      clear h1 hb1 HK
      go_upto_if 27 with fail
      go_cut [6] (fun s6 wx => (∃ c, s6 = ptr c ∧ IsRe w1 c ((p.kids.map SH.mk).getD 0 RE.nothing)) ∧ wx = w1)
      case first =>
        by_cases h0 : 0 < acc.length
        · obtain ⟨c, hc1, hc2⟩ := HK1.out.kid HACC3.out 0 h0
          have HC2 := Lib.hid hc2
          have h0' : (0 : Int) < (acc.length : Int) := by omega
          clear hc2
          go_wp2_with fail
          go_meet
          exact ⟨⟨c, rfl, HC2.out⟩, rfl⟩
        · have h0' : ¬ (0 : Int) < (acc.length : Int) := by omega
          have hn : (p.kids.map SH.mk).getD 0 RE.nothing = RE.nothing := by
            have := HAL.out
            simp [List.getD, show p.kids.length = 0 by omega]
          have HN := Lib.hid hn
          clear hn
          go_wp2_with fail
          go_meet
          exact ⟨⟨b1, rfl, by rw [HN.out]; exact HN1.out⟩, rfl⟩
      case rest =>
        obtain ⟨⟨c1, rfl, hc1⟩, rfl⟩ := hcut
        have HC1 := Lib.hid hc1
        clear hc1 HN1
        go_wp2_with fail
        refine (Nothing_any _).mono ?_
        rintro e w2 ⟨b2, rfl, h2, hb2⟩
        have HK2 := Lib.hid (HK1.out.later hb2)
        have HC2 := Lib.hid (HC1.out.later (Nat.le_refl _) hb2)
        have HN2 := Lib.hid h2.is
        clear h2 hb2 HK1 HC1
        go_upto_if 34 with fail
        go_cut [7] (fun s7 wx => (∃ c, s7 = ptr c ∧ IsRe w2 c ((p.kids.map SH.mk).getD 1 RE.nothing)) ∧ wx = w2)
        case first =>
          by_cases h0 : 1 < acc.length
          · obtain ⟨c, hc1, hc2⟩ := HK2.out.kid HACC3.out 1 h0
            have HCC := Lib.hid hc2
            have h0' : (1 : Int) < (acc.length : Int) := by omega
            clear hc2
            go_wp2_with fail
            go_meet
            exact ⟨⟨c, rfl, HCC.out⟩, rfl⟩
          · have h0' : ¬ (1 : Int) < (acc.length : Int) := by omega
            have hn : (p.kids.map SH.mk).getD 1 RE.nothing = RE.nothing := by
              have := HAL.out
              simp [List.getD, show p.kids.length ≤ 1 by omega]
            have HN := Lib.hid hn
            clear hn
            go_wp2_with fail
            go_meet
            exact ⟨⟨b2, rfl, by rw [HN.out]; exact HN2.out⟩, rfl⟩
        case rest =>
          obtain ⟨⟨c2, rfl, hc2⟩, rfl⟩ := hcut
          have HD2 := Lib.hid hc2
          clear hc2 HN2
          obtain ⟨q0, q1, q2, q3, q4⟩ := HK2.out.shape
          go_wp2_with fail
          refine (HOP.out _).mono ?_
          rintro e w3 ⟨rfl, hb3⟩
          have HK3 := Lib.hid (HK2.out.later hb3)
          have HC3 := Lib.hid (HC2.out.later (Nat.le_refl _) hb3)
          have HD3 := Lib.hid (HD2.out.later (Nat.le_refl _) hb3)
          clear hb3 HK2 HC2 HD2 q0 q1 q2 q3 q4
          obtain ⟨q0, q1, q2, q3, q4⟩ := HK3.out.shape
          have ho : sMod p.op 9 = 0 ∨ sMod p.op 9 = 1 ∨ sMod p.op 9 = 2 ∨ sMod p.op 9 = 3 ∨ sMod p.op 9 = 4 ∨ sMod p.op 9 = 5 ∨ sMod p.op 9 = 6 ∨ sMod p.op 9 = 7 ∨ sMod p.op 9 = 8 := by omega
          have HB3 := Lib.hid HK3.out.bel
          generalize p.mk = out at *
          generalize sMod p.op 9 = o at *
          rcases ho with rfl | rfl | rfl | rfl | rfl | rfl | rfl | rfl | rfl
          · go_wp2_with fail
            refine (Nothing_any _).mono ?_
            rintro e w4 ⟨b4, rfl, h4, hb4⟩
            have H4 := Lib.hid (show IsRe w4 b4 out from HE.out ▸ h4.is)
            have HB4 := Lib.hid (ext_step HB3.out hb4)
            clear h4 hb4
            go_wp2_with fail
            go_ret
            exact ⟨b4, rfl, H4.out, HB4.out⟩
          · go_wp2_with fail
            refine (EmptyRe_any _).mono ?_
            rintro e w4 ⟨b4, rfl, h4, hb4⟩
            have H4 := Lib.hid (show IsRe w4 b4 out from HE.out ▸ h4.is)
            have HB4 := Lib.hid (ext_step HB3.out hb4)
            clear h4 hb4
            go_wp2_with fail
            go_ret
            exact ⟨b4, rfl, H4.out, HB4.out⟩
          · go_wp2_with fail
            refine (HLO.out _).mono ?_
            rintro e w4 ⟨rfl, hb4⟩
            have HB4 := Lib.hid (ext_step HB3.out hb4)
            clear hb4
            go_wp2_with fail
            refine (HFR.out _).mono ?_
            rintro e w5 ⟨rfl, hb5⟩
            have HB5 := Lib.hid (ext_step HB4.out hb5)
            clear hb5
            go_wp2_with fail
            refine (OneS_any _ _).mono ?_
            rintro e w6 ⟨b6, rfl, ⟨b6', hbe, h6⟩, hb6⟩
            cases hbe
            have H6 := Lib.hid (show IsRe w6 b6 out from HE.out ▸ h6)
            have HB6 := Lib.hid (ext_step HB5.out hb6)
            clear h6 hb6
            go_wp2_with fail
            go_ret
            exact ⟨b6, rfl, H6.out, HB6.out⟩
          · go_wp2_with fail
            refine ((HT.out acc g cap _ HACC2.out HK3.out.listO).1).mono ?_
            rintro e w4 ⟨b4, rfl, h4, hb4⟩
            have H4 := Lib.hid (show IsRe w4 b4 out from HE.out ▸ h4)
            have HB4 := Lib.hid (ext_step HB3.out hb4)
            clear h4 hb4
            go_wp2_with fail
            go_ret
            exact ⟨b4, rfl, H4.out, HB4.out⟩
          · go_wp2_with fail
            refine ((HT.out acc g cap _ HACC2.out HK3.out.listO).2.1).mono ?_
            rintro e w4 ⟨b4, rfl, h4, hb4⟩
            have H4 := Lib.hid (show IsRe w4 b4 out from HE.out ▸ h4)
            have HB4 := Lib.hid (ext_step HB3.out hb4)
            clear h4 hb4
            go_wp2_with fail
            go_ret
            exact ⟨b4, rfl, H4.out, HB4.out⟩
          · go_wp2_with fail
            refine (HMANY.out _ _ HC3.out).mono ?_
            rintro e w4 ⟨b4, rfl, h4, hb4⟩
            have H4 := Lib.hid (show IsRe w4 b4 out from HE.out ▸ h4)
            have HB4 := Lib.hid (ext_step HB3.out hb4)
            clear h4 hb4
            go_wp2_with fail
            go_ret
            exact ⟨b4, rfl, H4.out, HB4.out⟩
          · go_wp2_with fail
            refine ((HT.out acc g cap _ HACC2.out HK3.out.listO).2.2).mono ?_
            rintro e w4 ⟨b4, rfl, h4, hb4⟩
            have H4 := Lib.hid (show IsRe w4 b4 out from HE.out ▸ h4)
            have HB4 := Lib.hid (ext_step HB3.out hb4)
            clear h4 hb4
            go_wp2_with fail
            go_ret
            exact ⟨b4, rfl, H4.out, HB4.out⟩
          · go_wp2_with fail
            refine (HBUT.out _ _ _ HC3.out HD3.out).mono ?_
            rintro e w4 ⟨b4, rfl, h4, hb4⟩
            have H4 := Lib.hid (show IsRe w4 b4 out from HE.out ▸ h4)
            have HB4 := Lib.hid (ext_step HB3.out hb4)
            clear h4 hb4
            go_wp2_with fail
            go_ret
            exact ⟨b4, rfl, H4.out, HB4.out⟩
          · go_wp2_with fail
            refine (HWD.out _).mono ?_
            rintro e w4 ⟨b4, rfl, h4, hb4⟩
            have H4 := Lib.hid (show IsRe w4 b4 out from HE.out ▸ h4)
            have HB4 := Lib.hid (ext_step HB3.out hb4)
            clear h4 hb4
            go_wp2_with fail
            go_ret
            exact ⟨b4, rfl, H4.out, HB4.out⟩
/-- Shape.Make: at whatever shape of few parts -/
theorem ShMake_any (p : SH) (sv : Value) (w : World) (hp : IsSh w sv p.kids) (hf : p.fit) (hz : p.sz ≤ 1000) : Calls Tryz.prog 45 #[shV p sv] w (RePost w p.mk) := by
  have key : ∀ n (p : SH), p.sz ≤ n → n ≤ 1000 → p.fit → ∀ sv w, IsSh w sv p.kids → Calls Tryz.prog 45 #[shV p sv] w (RePost w p.mk) := by
    intro n
    induction n with
    | zero => intro p hn; have := p.sz_eq; omega
    | succ n ih =>
      intro p hn hn2 hf sv w hp
      refine ShMake_step p sv w hp hf (by omega) fun k hk W sv' hW => ih k ?_ (by omega) (SH.fit_kids hf hk) sv' W hW
      have := SH.mem_szs hk
      have := p.sz_eq
      omega
  exact key p.sz p (Nat.le_refl _) hz hf sv w hp
end Go.Proofs.YtpajpjocakhcdaaGreatDoor
