/-
  Parts one behind the other, read: walked through the program.
-/
import Derived.Test.YticpjjmacmmpjaaGreatDoorPsL
set_option linter.unusedSimpArgs false
set_option linter.unusedVariables false
set_option maxRecDepth 100000
set_option linter.unnecessarySimpa false
namespace Go.Proofs.YticpjjmacmmpjaaGreatDoor
open Go.RowKit
theorem IsReO.ptr {w : World} {v : Value} {o : Option RE} (h : IsReO w v o) : ∃ q, v = .pointer q := by
  cases o with
  | none => exact ⟨none, h⟩
  | some r => obtain ⟨b, h1, _⟩ := h; exact ⟨_, h1⟩
/-- the reader, and a list of what it has made -/
structure LAt (w : World) (p : Nat) (s : List UInt8) (st : PS) (acc : List (Option RE)) (g cap : Nat) (xs : List Value) (W : World) : Prop where
  row : RowN W g acc.length cap xs
  base : w.heap.size ≤ g
  pa : PAt W p s st
  far : Far p w W
  re : ∀ i, i < acc.length → IsReO W (xs.getD i undef) (acc.getD i none)
theorem LAt.lt {w : World} {p : Nat} {s : List UInt8} {st : PS} {acc : List (Option RE)} {g cap : Nat} {xs : List Value} {W : World} (h : LAt w p s st acc g cap xs W) : g < W.heap.size := (Array.getElem?_eq_some_iff.1 h.row.row).1
theorem LAt.call {w : World} {p : Nat} {s : List UInt8} {st st' : PS} {acc : List (Option RE)} {g cap : Nat} {xs : List Value} {W W' : World} (h : LAt w p s st acc g cap xs W) (hpl : p < w.heap.size) (hp : PAt W' p s st') (hf : Far p W W') : LAt w p s st' acc g cap xs W' :=
  ⟨h.row.kept (hf.block g h.lt (fun e => by have := Option.some.inj e; have := h.base; omega)), h.base, hp, h.far.trans hf, fun i hi => (h.re i hi).far h.pa hf⟩
theorem LAt.later {w : World} {p : Nat} {s : List UInt8} {st : PS} {acc : List (Option RE)} {g cap : Nat} {xs : List Value} {W W' : World} (h : LAt w p s st acc g cap xs W) (hb : Below W.heap.size W W') : LAt w p s st acc g cap xs W' :=
  ⟨h.row.kept (hb.block g h.lt), h.base, h.pa.later hb, h.far.trans (Far.below hb), fun i hi => (h.re i hi).later hb⟩
theorem LAt.listO {w : World} {p : Nat} {s : List UInt8} {st : PS} {acc : List (Option RE)} {g cap : Nat} {xs : List Value} {W : World} (h : LAt w p s st acc g cap xs W) : ListO W (some ⟨g, 0, none⟩) acc := .inr ⟨g, 0, rfl, fun i hi => ⟨xs.getD i undef, by
  rw [Nat.zero_add]
  exact h.row.cell i _ (by rw [List.getD_eq_getElem?_getD, List.getElem?_eq_getElem (by rw [h.row.len]; exact hi)]; rfl), h.re i hi⟩⟩
theorem LAt.first {w : World} {p : Nat} {s : List UInt8} {st : PS} {r : Option RE} {v : Value} {W : World} (hp : PAt W p s st) (hf : Far p w W) (hr : IsReO W v r) : LAt w p s st [r] W.heap.size 1 [v] (W.alloc (.cells #[v] 37)) :=
  ⟨⟨heap_alloc_last W _, rfl, Nat.le_refl _, by unfold maxLen; simp⟩, hf.size, hp.later (re_alloc W _), hf.trans (Far.below (re_alloc W _)), fun i hi => by
    obtain rfl : i = 0 := by simpa using hi
    exact hr.later (re_alloc W _)⟩
theorem LAt.append {w : World} {p : Nat} {s : List UInt8} {st : PS} {acc : List (Option RE)} {g cap g' cap' : Nat} {xs : List Value} {v : Value} {r : Option RE} {W W' : World} (h : LAt w p s st acc g cap xs W) (hpl : p < w.heap.size) (hr : IsReO W v r)
   (h1 : RowN W' g' (acc.length + 1) cap' (xs ++ [v])) (h2 : W.grownBy W' (some g)) (h3 : g' = g ∨ g' = W.heap.size) (h4 : ∀ u o, IsReO W u o → IsReO W' u o) : LAt w p s st (acc ++ [r]) g' cap' (xs ++ [v]) W' := by
  have hb := h.base
  have hsz := h.far.size
  have hk : ∀ k, k < w.heap.size → W'.heap[k]? = W.heap[k]? := fun k hk => h2.block k (by omega) (fun e => by have := Option.some.inj e; omega)
  refine ⟨by simpa using h1, by omega, ⟨(hk p hpl).trans h.pa.row, h.pa.rest, h.pa.tot⟩, ?_, fun i hi => ?_⟩
  · refine ⟨h2.os.trans h.far.os, h2.tape.trans h.far.tape, h2.output.trans h.far.output, Nat.le_trans hsz h2.size, fun k hlt hne => (hk k hlt).trans (h.far.block k hlt hne)⟩
  · have hl := h.row.len
    by_cases e : i < acc.length
    · have := h4 _ _ (h.re i e)
      simpa [List.getD, List.getElem?_append_left e, List.getElem?_append_left (show i < xs.length by omega)] using this
    · obtain rfl : i = acc.length := by simp at hi; omega
      have := h4 _ _ hr
      rw [← hl]
      simp only [List.getD, List.getElem?_append_right (Nat.le_refl _), Nat.sub_self]
      rw [hl]
      simpa [List.getD] using this
theorem LAt.drew {w : World} {p : Nat} {s : List UInt8} {st : PS} {acc : List (Option RE)} {g cap : Nat} {xs : List Value} {W : World} (h : LAt w p s st acc g cap xs W) (n : Nat) : LAt w p s st acc g cap xs (W.drewN n) := h.later (ext_drewN (Below.refl _ _) n)
def CatAt (w : World) (p : Nat) (s : List UInt8) (fo : PS → PS × Option RE) (a : PS) (F : PS × RE) (v : Value) (wr : World) : Prop :=
  ∃ (f : Nat) (st : PS) (acc : List (Option RE)) (g cap : Nat) (xs : List Value), v = .slice (some ⟨g, 0, none⟩) acc.length cap ∧ LAt w p s st acc g cap xs wr ∧ PS.catGo fo f st acc = F ∧ (st.e = 0 → st.rest.length < f) ∧ PS.Acc 99 a st acc
theorem acc_len {c : Nat} {a st : PS} {acc : List (Option RE)} (h : PS.Acc c a st acc) (hc : 1 ≤ c) : acc.length ≤ 5000000 ∧ RE.sizeOs acc ≤ 5000000 := by
  have h1 := h.size
  have h2 := h.nodes.2
  have h3 : acc.length ≤ c * acc.length := Nat.le_mul_of_pos_left _ hc
  omega
set_option maxRecDepth 100000 in
set_option maxHeartbeats 8000000 in
theorem cat_any (d p : Nat) (s : List UInt8) (hs : s.length ≤ 65536) (f : PS → PS × Option RE) (hf : ∀ d', d' + 1 = d → PS.Gd d' f ∧ Orr d' p s f ∧ ∀ a, PS.At d' a → PS.Dk a (f a).1) (st : PS) (w : World) (h : PAt w p s st) (ha : PS.At d st) :
    Calls Tryz.prog 157 #[ptr p] w (PrPost p s w ((PS.cat f st).1, some (PS.cat f st).2)) := by
  have hpl := h.lt
  have HPO := Lib.hid (post_any d p s hs f hf st w h ha)
  have HRES := Lib.hid (PS.post_res (fun d' e => (hf d' e).1) st ha)
  have HNX := Lib.hid (fun (st' : PS) (W : World) (hp : PAt W p s st') (hat : PS.At d st') => post_any d p s hs f hf st' W hp hat)
  have HNR := Lib.hid (fun (st' : PS) (hat : PS.At d st') => PS.post_res (fun d' e => (hf d' e).1) st' hat)
  have HCAT : Hid (PS.cat f st = PS.catGo f ((PS.post f st).1.rest.length + 1) (PS.post f st).1 [(PS.post f st).2]) := rfl
  rw [HCAT.out]
  have hd60 := ha.2.2
  generalize PS.post f st = A at *
  obtain ⟨F, hF⟩ : ∃ F, PS.catGo f (A.1.rest.length + 1) A.1 [A.2] = F := ⟨_, rfl⟩
  have HF := Lib.hid hF
  rw [hF]
  have HA := Lib.hid ha
  clear hF HCAT h hf ha
  go_enter Tryz.func157, Tryz.ntmps157
  go_wp2_with fail
  refine HPO.out.mono ?_
  rintro e w1 ⟨v1, rfl, hre1, hp1, hf1⟩
  obtain ⟨q1, rfl⟩ := hre1.ptr
  have hst : CatAt w p s f st F (.slice (some ⟨w1.heap.size, 0, none⟩) 1 1) (w1.alloc (.cells #[.pointer q1] 37)) :=
    ⟨_, _, [A.2], _, _, _, rfl, LAt.first hp1 hf1 hre1, HF.out, fun _ => Nat.lt_succ_self _, PS.Acc.one HRES.out⟩
  have HST := Lib.hid hst
  clear hp1 hre1 hf1 hst HPO HRES HF
  go_wp2_with fail
  go_loopw [3] (fun v wr => CatAt w p s f st F v wr) (fun _ wr => psMeas p s wr)
  case atStart => exact HST.out
  case round =>
    clear HST
    obtain ⟨f', st', acc, g, cap, xs, rfl, hl, hgo, hfu, hacc⟩ := hrel
    have HL := Lib.hid hl
    have HGO := Lib.hid hgo
    have HFU := Lib.hid hfu
    have HACC := Lib.hid hacc
    have c4 := hl.pa.cells.2.2.2.2.1
    obtain ⟨hal, has⟩ := acc_len hacc (by omega)
    have HTH := Lib.hid (fun W (hl : ListO W (some ⟨g, 0, none⟩) acc) => Then_any (some ⟨g, 0, none⟩) cap acc W hl HACC.out.nf (by have h1 := RE.sizes_flat 3 acc; omega) (by omega))
    clear hl hgo hfu hacc
    by_cases he : st'.e = 0
    · have ge : (((st'.e : Nat) : Int) == 0) = true := by rw [he]; rfl
      have HE := Lib.hid he
      have hlen := HFU.out he
      obtain ⟨f'', rfl⟩ : ∃ g, f' = g + 1 := ⟨f' - 1, by omega⟩
      have HLEN := Lib.hid hlen
      have hgo2 := HGO.out
      rw [PS.catGo, if_neg (by omega)] at hgo2
      have HGO2 := Lib.hid hgo2
      clear he hlen hgo2 HGO HFU
      generalize st'.e = en at c4 ge
      go_wp2_with fail
      refine (psPeek_any p s st' _ HL.out.pa hs).mono ?_
      rintro e w2 ⟨rfl, hp2, hf2⟩
      have HL2 := Lib.hid (HL.out.call hpl hp2 hf2)
      have HRUN := Lib.hid (PS.skip_run HE.out)
      have HSKE : Hid (st'.skip.e = 0) := HE.out
      have HSKN : Hid (st'.skip.nodes = st'.nodes) := rfl
      have HSKD : Hid (st'.skip.deep = st'.deep) := rfl
      obtain ⟨d0, d1, _⟩ := hp2.cells
      have hrest := hp2.rest
      have htot := hp2.tot
      have hsz : (⟨s.toArray⟩ : ByteArray).size = s.length := str_size s
      clear hp2 hf2 c4 ge
      generalize st'.skip = sk at *
      obtain ⟨go, hgo⟩ : ∃ b, sk.stops = b := ⟨_, rfl⟩
      have HSTOP := Lib.hid hgo
      go_upto_region 4 with fail
      go_cut [33] from 8 to 38 (fun s33 wx => s33 = .bool go ∧ ∃ n, wx = w2.drewN n)
      case first =>
        have HIX : Hid (∀ W, Calls Tryz.prog 93 #[.string ⟨#[41, 124, 38, 45]⟩, .int .u8 (sk.head.toNat : Nat)] W fun e w' => e = .returned (.int .i64 (Lib.indexByte [41, 124, 38, 45] sk.head)) ∧ w' = W) := fun W => by
          have := IndexByte_any ⟨#[41, 124, 38, 45]⟩ ((sk.head.toNat : Nat) : Int) W
          simpa using this
        have hge := index_ge [41, 124, 38, 45] sk.head
        match hr : sk.rest with
        | [] =>
          have hh : sk.head = 0 := by show sk.rest.headD 0 = 0; rw [hr]; rfl
          have hnf : go = true := by rw [← hgo]; unfold PS.stops; rw [hr]; rfl
          rw [hr] at htot
          have hc1 : ((s.length : Nat) : Int) ≤ ((sk.at_ : Nat) : Int) := by simp at htot; omega
          have hc2 : s.length ≤ sk.at_ := by omega
          subst hnf
          clear hgo hrest htot hr
          have e0 : (((sk.head.toNat : Nat) : Int) == 0) = true := by rw [hh]; decide
          clear hh hge
          generalize Lib.indexByte [41, 124, 38, 45] sk.head = ix at *
          generalize sk.at_ = a at *
          go_quiet (exact Calls.quiet_of_same (HIX.out _))
          go_wp2_with fail
          go_meet
          exact ⟨rfl, _, rfl⟩
        | c :: r =>
          have hh : sk.head = c := by show sk.rest.headD 0 = c; rw [hr]; rfl
          rw [hr] at htot
          have hc1 : ¬ ((s.length : Nat) : Int) ≤ ((sk.at_ : Nat) : Int) := by simp at htot; omega
          have hc2 : ¬ s.length ≤ sk.at_ := by omega
          have hnf : ([41, 124, 38, 45] : List UInt8).contains c = go := by
            rw [← hgo]; unfold PS.stops; rw [hr, hh]
            simp only [List.contains_cons, List.contains_nil, List.isEmpty_cons, Bool.false_or, Bool.or_false, Bool.or_assoc]
          rw [hh, hnf, ← hh] at hge
          clear hgo hrest htot hr hh hnf
          generalize sk.at_ = a at *
          generalize Lib.indexByte [41, 124, 38, 45] sk.head = ix at *
          have e0 := byteIs sk.head 0 (by omega)
          generalize decide (sk.head = (0 : Nat).toUInt8) = z at e0
          have e0' : (((sk.head.toNat : Nat) : Int) == 0) = z := e0
          clear e0
          cases go with
          | true =>
            have hix : 0 ≤ ix := of_decide_eq_true hge
            clear hge
            cases z
            all_goals
              go_quiet (exact Calls.quiet_of_same (HIX.out _))
              go_wp2_with fail
              go_meet
              exact ⟨rfl, _, rfl⟩
          | false =>
            have hix : ¬ 0 ≤ ix := of_decide_eq_false hge
            clear hge
            cases z
            all_goals
              go_quiet (exact Calls.quiet_of_same (HIX.out _))
              go_wp2_with fail
              go_meet
              exact ⟨rfl, _, rfl⟩
      case rest =>
        obtain ⟨rfl, n, rfl⟩ := hcut
        have HL3 := Lib.hid (HL2.out.drew n)
        clear d0 d1 hrest htot hsz hgo
        cases go with
        | true =>
          have hF2 : F = (sk, RE.thenL acc) := by
            rw [← HGO2.out, if_pos HSTOP.out]
          subst hF2
          go_wp2_with fail
          refine (HTH.out _ HL3.out.listO).mono ?_
          rintro e w5 ⟨rb, rfl, hm, hb⟩
          have HL5 := Lib.hid (HL3.out.later hb)
          have HM := Lib.hid hm
          clear hm hb
          go_wp2_with fail
          go_ret
          exact ⟨_, rfl, ⟨rb, rfl, HM.out⟩, HL5.out.pa, HL5.out.far⟩
        | false =>
          have hg3 := HGO2.out
          rw [if_neg (by rw [HSTOP.out]; simp)] at hg3
          have HG3 := Lib.hid hg3
          have hat : PS.At d sk := ⟨HSKE.out, by rw [HSKN.out]; exact (HACC.out.go HE.out).2.1, by rw [HSKD.out, (HACC.out.go HE.out).2.2]; exact hd60⟩
          have hres := HNR.out sk hat
          have HRS := Lib.hid hres
          have HPX := Lib.hid (HNX.out sk _ HL3.out.pa hat)
          clear hg3 hres hat
          generalize PS.post f sk = R at *
          go_wp2_with fail
          refine HPX.out.mono ?_
          rintro e w5 ⟨v5, rfl, hre5, hp5, hf5⟩
          obtain ⟨q5, rfl⟩ := hre5.ptr
          have HL5 := Lib.hid (HL3.out.call hpl hp5 hf5)
          have HL6 := Lib.hid (HL5.out.later (re_alloc w5 (.cells #[.pointer q5] 37)))
          have HRE6 := Lib.hid (hre5.later (re_alloc w5 (.cells #[.pointer q5] 37)))
          have hsrc : (w5.alloc (.cells #[.pointer q5] 37)).cell? ⟨w5.heap.size, 0, none⟩ = some (.pointer q5) := by rw [cell_of_row _ _ _ _ _ _ (heap_alloc_last w5 _)]; rfl
          have HSRC := Lib.hid hsrc
          clear hre5 hp5 hf5 hsrc
          go_wp2_with (at_builtin; refine wpList_append_ptr rfl _ _ rfl g acc.length cap w5.heap.size 1 xs (.pointer q5) rfl rfl HL6.out.row HSRC.out rfl (by omega) ?_; intro g7 cp7 w7 h71 h72 h73 h74)
          have HL7 := Lib.hid (HL6.out.append hpl HRE6.out h71 h72 h73 h74)
          have HAC7 := Lib.hid (HACC.out.snoc (d := d) HE.out HRUN.out HSKN.out HSKD.out HRS.out)
          clear h71 h72 h73 h74
          have hfu7 : R.1.e = 0 → R.1.rest.length < f'' := fun e => by
            have h1 := PS.rest_lt' HRS.out.run (HRS.out.go e).1
            have h2 := HRUN.out.tot
            have h3 := HRUN.out.le
            have h4 := HLEN.out
            omega
          have hat7 : R.1.e = 0 → st'.at_ < R.1.at_ := fun e => by
            have h1 := (HRS.out.go e).1
            have h3 := HRUN.out.le
            omega
          have HFU7 := Lib.hid hfu7
          have HAT7 := Lib.hid hat7
          clear hfu7 hat7
          go_wp2_with fail
          go_roundw
          case rel => exact ⟨f'', R.1, acc ++ [R.2], g7, cp7, _, by simp, HL7.out, HG3.out, HFU7.out, HAC7.out⟩
          case measure => exact psMeas_lt HL.out.pa HL7.out.pa HE.out HAT7.out
    · have ge : (((st'.e : Nat) : Int) == 0) = false := by rw [beq_eq_false_iff_ne]; omega
      have hF2 : F = (st', RE.thenL acc) := by rw [← HGO.out]; exact PS.catGo_bad _ _ _ _ he
      subst hF2
      clear he HGO HFU
      generalize hee : st'.e = en at c4 ge
      go_wp2_with fail
      refine (HTH.out _ HL.out.listO).mono ?_
      rintro e w5 ⟨rb, rfl, hm, hb⟩
      have HL5 := Lib.hid (HL.out.later hb)
      have HM := Lib.hid hm
      clear hm hb
      go_wp2_with fail
      go_ret
      exact ⟨_, rfl, ⟨rb, rfl, HM.out⟩, HL5.out.pa, HL5.out.far⟩
end Go.Proofs.YticpjjmacmmpjaaGreatDoor
