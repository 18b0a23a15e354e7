/-
  All the tokens of a text: walked through the program.
-/
import Derived.Test.YticpjjmacmmpjaaGreatDoorLxN
set_option linter.unusedSimpArgs false
set_option linter.unusedVariables false
set_option maxRecDepth 100000
set_option linter.unnecessarySimpa false
namespace Go.Proofs.YticpjjmacmmpjaaGreatDoor
open Go.RowKit
theorem infoTok : (Tryz.prog.info? 40).map (fun i => (i.zero, i.size, i.bytes)) = some (some (.agg #[.int .i64 0, .string ⟨#[]⟩, .pointer none, .int .i64 0]), 4, 40) := by kernel_rfl
def cellsT (x : LT × Value) : List Value := [.int .i64 (x.1.kind : Nat), .string ⟨x.1.text.toArray⟩, x.2, .int .i64 (x.1.at_ : Nat)]
/-- tokens in a row of one's own -/
def ToksAt (base : Nat) (v : Value) (out : List LT) (W : World) : Prop :=
  ∃ tvs : List (LT × Value), tvs.map Prod.fst = out ∧ W.ownsRow base 40 4 v out.length (tvs.flatMap cellsT) ∧ ∀ x ∈ tvs, IsReO W x.2 x.1.re
theorem ToksAt.nil (W : World) (base : Nat) : ToksAt base (.slice none 0 0) [] W := ⟨[], rfl, World.ownsRow_nil _ _ _ _, by simp⟩
theorem reO_rowT {W W' : World} {v u : Value} {o : Option RE} {base n : Nat} {xs : List Value} (hown : W.ownsRow base 40 4 v n xs) (hg : W.grownBy W' v.ownBlock) (hu : IsReO W u o) : IsReO W' u o := by
  rcases hown.2 with ⟨rfl, _⟩ | ⟨g, cap, cur, rfl, _, hb, _⟩
  · exact hu.later ⟨hg.os, hg.tape, hg.output, hg.size, fun k hk => hg.block k hk (by intro e; cases e)⟩
  · exact hu.put hb (by decide) (by decide) fun k hk hne => hg.block k hk (fun e => by first | exact hne (Option.some.inj e) | exact hne (Option.some.inj e).symm)
theorem ToksAt.far {base p a : Nat} {v : Value} {s : List UInt8} {out : List LT} {W W' : World} (h : ToksAt base v out W) (hb : p < base) (hl : LxAt W p s a) (hf : Far p W W') : ToksAt base v out W' := by
  obtain ⟨tvs, h1, h2, h3⟩ := h
  refine ⟨tvs, h1, World.ownsRow.kept h2 hf ?_, fun x hx => (h3 x hx).farL hl hf⟩
  rcases h2.2 with ⟨rfl, _⟩ | ⟨g, cap, cur, rfl, hbg, _⟩
  · exact .inl rfl
  · refine .inr fun e => ?_
    have : g = p := by simpa [Value.ownBlock] using e
    omega
theorem ToksAt.later {base : Nat} {v : Value} {out : List LT} {W W' : World} (h : ToksAt base v out W) (hb : Below W.heap.size W W') : ToksAt base v out W' := by
  obtain ⟨tvs, h1, h2, h3⟩ := h
  exact ⟨tvs, h1, World.ownsRow.kept h2 (re_grownBy hb) (by cases v.ownBlock <;> simp), fun x hx => (h3 x hx).later hb⟩
theorem below_farB {w wr w1 : World} (h : Below w.heap.size w wr) (hf : Far w.heap.size wr w1) : Below w.heap.size w w1 :=
  ⟨hf.os.trans h.os, hf.tape.trans h.tape, hf.output.trans h.output, Nat.le_trans h.size hf.size, fun k hk => (hf.block k (Nat.lt_of_lt_of_le hk h.size) (fun e => by have := Option.some.inj e; omega)).trans (h.block k hk)⟩
theorem below_grownB {B : Nat} {w W W' : World} {row : Option Nat} (h : Below B w W) (hB : B ≤ W.heap.size) (hg : W.grownBy W' row) (hrow : ∀ g, row = some g → B ≤ g) : Below B w W' :=
  ⟨hg.os.trans h.os, hg.tape.trans h.tape, hg.output.trans h.output, Nat.le_trans h.size hg.size, fun k hk => (hg.block k (by omega) (fun e => by
    first
      | (have := hrow k e; omega)
      | (have := hrow k e.symm; omega))).trans (h.block k hk)⟩
/-- what the tokens' maker leaves -/
def LexPost (w : World) (r : List LT × Nat × Nat) (e : Ending) (w' : World) : Prop :=
  ∃ v, e = .returned (.tuple #[v, .int .i64 (r.2.1 : Nat), .int .i64 (r.2.2 : Nat)]) ∧ ToksAt (w.heap.size + 1) v r.1 w' ∧ Below w.heap.size w w'
def LxAllAt (w : World) (s : List UInt8) (R : List LT × Nat × Nat) (f : Nat) (v : Value) (wr : World) : Prop :=
  ∃ (a : Nat) (out : List LT), a ≤ s.length ∧ s.length - a < f ∧ out.length ≤ a ∧ Hid (LX.allGo s f a out = R) ∧ Hid (LxAt wr w.heap.size s a) ∧ Hid (ToksAt (w.heap.size + 1) v out wr) ∧ Hid (Below w.heap.size w wr) ∧ Hid (Tab wr)
set_option maxRecDepth 100000 in
set_option maxHeartbeats 1600000 in
theorem lxAll_any (w : World) (s : List UInt8) (hT : Tab w) (hs0 : s.length ≤ 140737488355328) :
    Calls Tryz.prog 20 #[.string ⟨s.toArray⟩] w (LexPost w (lexW s)) := by
  have hsz : (⟨s.toArray⟩ : ByteArray).size = s.length := str_size s
  have HT := Lib.hid hT
  by_cases hbig : 65536 < s.length
  · have HR : Hid (lexW s = ([], 3, 0)) := by show _ = _; unfold lexW; rw [if_pos hbig]
    have hb' : (65536 : Int) < (s.length : Nat) := by omega
    generalize lexW s = R at *
    generalize hS : (⟨s.toArray⟩ : ByteArray) = S at *
    clear hS hT
    go_enter Tryz.func20, Tryz.ntmps20
    go_wp2_with fail
    refine bodyPost_ret (v := .tuple #[.slice none 0 0, .int .i64 3, .int .i64 0]) (by simp [results, Tryz.results20, go_sem]) rfl ?_
    rw [HR.out]
    exact ⟨_, rfl, ToksAt.nil _ _, Below.refl _ _⟩
  · have HR : Hid (lexW s = LX.allGo s (s.length + 1) 0 []) := by show _ = _; unfold lexW; rw [if_neg hbig]
    have hb' : ¬ (65536 : Int) < (s.length : Nat) := by omega
    have hs : s.length ≤ 65536 := by omega
    obtain ⟨R, hR⟩ : ∃ R, lexW s = R := ⟨_, rfl⟩
    rw [hR] at HR ⊢
    have HR2 : Hid (LX.allGo s (s.length + 1) 0 [] = R) := HR.out.symm
    have hl : LxAt (w.alloc (.cells (lxCells s 0) 103)) w.heap.size s 0 := heap_alloc_last w _
    have HL := Lib.hid hl
    obtain ⟨i0, hi, hz0, hz1, hz2⟩ := info_parts infoTok
    have HI := Lib.hid hi; have HZ0 := Lib.hid hz0; have HZ1 := Lib.hid hz1; have HZ2 := Lib.hid hz2
    clear hR HR hl hi hz0 hz1 hz2 hT
    go_enter Tryz.func20, Tryz.ntmps20
    go_wp2_with fail
    go_loopg [6] (s.length + 1) (fun f v wr => LxAllAt w s R f v wr)
    case atStart => exact ⟨0, [], Nat.zero_le _, by omega, Nat.le_refl _, HR2.out, HL.out, ToksAt.nil _ _, re_alloc _ _, HT.out.later (re_alloc _ _)⟩
    case round =>
      obtain ⟨a, out, ha, hf, ho, hgo, hlx, htk, hbel, htab⟩ := hrel
      cases gk with
      | zero => omega
      | succ f =>
      have HNR := Lib.hid (LX.next_res s a ha)
      have HST : Hid (R = if (LX.next s a).2.1 ≠ 0 then ([], (LX.next s a).2.1, (LX.next s a).2.2)
        else if (LX.next s a).1.kind = 0 then (out ++ [(LX.next s a).1], 0, 0)
        else LX.allGo s f (LX.next s a).2.2 (out ++ [(LX.next s a).1])) := by show _ = _; rw [← hgo.out]; rfl
      have HNX := Lib.hid (lxNext_any wr w.heap.size a s ha hs hlx.out htab.out)
      generalize LX.next s a = NX at *
      obtain ⟨⟨kd, tx, ro, pa⟩, en, q⟩ := NX
      have hoB : out.length ≤ 65536 := by omega
      go_wp2_with fail
      refine (HNX.out).mono ?_
      rintro e w1 ⟨rv, rfl, hre, hlx1, hfar⟩
      simp only at hre hlx1
      obtain ⟨po, rfl⟩ := reO_ptr hre
      have HRE1 := Lib.hid hre
      have HLX1 := Lib.hid hlx1
      have HTK1 := Lib.hid (htk.out.far (by omega) hlx.out hfar)
      have HB1 : Hid (Below w.heap.size w w1) := below_farB hbel.out hfar
      have HTAB1 := Lib.hid (htab.out.farL hlx.out hfar)
      clear hre hlx1 hfar
      simp only [tkV]
      generalize hTX : (⟨tx.toArray⟩ : ByteArray) = TX at *
      have HTX := Lib.hid hTX
      clear hTX
      by_cases hen : en = 0
      · subst hen
        obtain ⟨tvs, htv, hown1, hre1⟩ := HTK1.out
        have HTV := Lib.hid htv
        have HREV := Lib.hid hre1
        have HOWN3 := Lib.hid ((hown1.alloc (.cells #[.int .i64 (kd : Nat), .string TX, .pointer po, .int .i64 (pa : Nat)] 40)).alloc (.cells #[.int .i64 (kd : Nat), .string TX, .pointer po, .int .i64 (pa : Nat)] 40))
        have HLOW := Lib.hid hown1.lt
        have e1 : (w1.alloc (.cells #[.int .i64 (kd : Nat), .string TX, .pointer po, .int .i64 (pa : Nat)] 40)).heap.size = w1.heap.size + 1 := by simp
        have h3 := heap_alloc_last (w1.alloc (.cells #[.int .i64 (kd : Nat), .string TX, .pointer po, .int .i64 (pa : Nat)] 40)) (.cells #[.int .i64 (kd : Nat), .string TX, .pointer po, .int .i64 (pa : Nat)] 40)
        rw [e1] at h3
        have HN3 := Lib.hid h3
        have HT3 := Lib.hid (heap_in (heap_alloc_last w1 (.cells #[.int .i64 (kd : Nat), .string TX, .pointer po, .int .i64 (pa : Nat)] 40)) (re_alloc (w1.alloc (.cells #[.int .i64 (kd : Nat), .string TX, .pointer po, .int .i64 (pa : Nat)] 40)) (.cells #[.int .i64 (kd : Nat), .string TX, .pointer po, .int .i64 (pa : Nat)] 40)))
        have HB3 : Hid (Below w1.heap.size w1 ((w1.alloc (.cells #[.int .i64 (kd : Nat), .string TX, .pointer po, .int .i64 (pa : Nat)] 40)).alloc (.cells #[.int .i64 (kd : Nat), .string TX, .pointer po, .int .i64 (pa : Nat)] 40))) := ext_alloc (re_alloc _ _) _
        have e3 : ((w1.alloc (.cells #[.int .i64 (kd : Nat), .string TX, .pointer po, .int .i64 (pa : Nat)] 40)).alloc (.cells #[.int .i64 (kd : Nat), .string TX, .pointer po, .int .i64 (pa : Nat)] 40)).heap.size = w1.heap.size + 2 := by simp
        have HE3 := Lib.hid e3
        have hlen1 : w.heap.size < w1.heap.size := HLX1.out.lt
        have HCT : Hid (cellsT (⟨kd, tx, ro, pa⟩, .pointer po) = [.int .i64 (kd : Nat), .string TX, .pointer po, .int .i64 (pa : Nat)]) := by show _ = _; rw [← HTX.out]; rfl
        clear htv hown1 hre1 h3 e1 e3 HTK1 htk
        by_cases hkd : kd = 0
        · have HO : Hid (R = (out ++ [⟨kd, tx, ro, pa⟩], 0, 0)) := by show _ = _; rw [HST.out, if_neg (by decide), if_pos hkd]
          have hk' : (((kd : Nat) : Int) == 0) = true := by rw [hkd]; rfl
          clear hkd
          go_wp2_with (at_builtin; refine wpList_append_lies _ rfl _ _ _ rfl (w.heap.size + 1) 40 i0 _ 4 40 Tryz.underlying29 HI.out HZ0.out HZ1.out HZ2.out rfl (by omega) _ out.length (tvs.flatMap cellsT) rfl HOWN3.out ⟨w1.heap.size + 1, 0, none⟩ 1 1 [.int .i64 (kd : Nat), .string TX, .pointer po, .int .i64 (pa : Nat)] rfl rfl (World.news_of_block (cs := #[.int .i64 (kd : Nat), .string TX, .pointer po, .int .i64 (pa : Nat)]) (t := 40) (fr := (0, 0)) HN3.out) (by intro u hu; simp at hu; rcases hu with rfl | rfl | rfl | rfl <;> rfl) (by omega) (by unfold maxLen; omega) (by omega) (by rw [HE3.out]; omega) _ rfl ?_; intro g5 cp5 W9 hown9 hg9 hat9 hlt9; have h9 := (hg9.block w1.heap.size (by rw [HE3.out]; omega) (fun e => by first | (have := (HLOW.out _ e.symm).2; omega) | (have := (HLOW.out _ e).2; omega))).trans HT3.out; have t0 : W9.cell? ⟨w1.heap.size, 0, none⟩ = some (.int .i64 (kd : Nat)) := (by rw [cell_of_row _ _ _ _ _ _ h9]; rfl); clear h9)
          have HL9 : Hid (LxAt W9 w.heap.size s q) := (hg9.block _ (by rw [HE3.out]; omega) (fun e => by first | (have := (HLOW.out _ e.symm).1; omega) | (have := (HLOW.out _ e).1; omega))).trans (HLX1.out.later HB3.out)
          have HB9 : Hid (Below w.heap.size w W9) := below_grownB (ext_step HB1.out (HB3.out.mono (by omega))) (by rw [HE3.out]; omega) hg9 (fun g hg => by have := (HLOW.out g hg).1; omega)
          have HTK9 : Hid (ToksAt (w.heap.size + 1) (.slice (some ⟨g5, 0, none⟩) (out.length + 1) cp5) (out ++ [⟨kd, tx, ro, pa⟩]) W9) := by
            refine ⟨tvs ++ [(⟨kd, tx, ro, pa⟩, .pointer po)], by rw [List.map_append, HTV.out]; rfl, ?_, fun x hx => reO_rowT HOWN3.out hg9 (IsReO.later ?_ HB3.out)⟩
            · rw [List.length_append, List.length_singleton, List.flatMap_append, List.flatMap_singleton, HCT.out]; exact hown9
            · rcases List.mem_append.1 hx with hx | hx
              · exact HREV.out x hx
              · rw [List.mem_singleton.1 hx]; exact HRE1.out
          clear hown9 hg9 hat9 hlt9
          try rw [Exit.noGoto_ret]
          refine bodyPost_ret (v := .tuple #[.slice (some ⟨g5, 0, none⟩) (out.length + 1) cp5, .int .i64 0, .int .i64 0]) (by simp [results, Tryz.results20, go_sem]) rfl ?_
          rw [HO.out]
          exact ⟨_, rfl, HTK9.out, HB9.out⟩
        · have HO : Hid (LX.allGo s f q (out ++ [⟨kd, tx, ro, pa⟩]) = R) := by show _ = _; rw [HST.out, if_neg (by decide), if_neg hkd]
          have hk' : (((kd : Nat) : Int) == 0) = false := by rw [beq_eq_false_iff_ne]; omega
          have hq : a < q ∧ q ≤ s.length := by
            obtain ⟨h1, h2⟩ := HNR.out
            rcases h2 with ⟨_, _, _, h3, h4, _⟩ | ⟨h3, _⟩
            · have := h4 hkd; simp only at this h3; omega
            · simp at h3
          clear hkd
          go_wp2_with (at_builtin; refine wpList_append_lies _ rfl _ _ _ rfl (w.heap.size + 1) 40 i0 _ 4 40 Tryz.underlying29 HI.out HZ0.out HZ1.out HZ2.out rfl (by omega) _ out.length (tvs.flatMap cellsT) rfl HOWN3.out ⟨w1.heap.size + 1, 0, none⟩ 1 1 [.int .i64 (kd : Nat), .string TX, .pointer po, .int .i64 (pa : Nat)] rfl rfl (World.news_of_block (cs := #[.int .i64 (kd : Nat), .string TX, .pointer po, .int .i64 (pa : Nat)]) (t := 40) (fr := (0, 0)) HN3.out) (by intro u hu; simp at hu; rcases hu with rfl | rfl | rfl | rfl <;> rfl) (by omega) (by unfold maxLen; omega) (by omega) (by rw [HE3.out]; omega) _ rfl ?_; intro g5 cp5 W9 hown9 hg9 hat9 hlt9; have h9 := (hg9.block w1.heap.size (by rw [HE3.out]; omega) (fun e => by first | (have := (HLOW.out _ e.symm).2; omega) | (have := (HLOW.out _ e).2; omega))).trans HT3.out; have t0 : W9.cell? ⟨w1.heap.size, 0, none⟩ = some (.int .i64 (kd : Nat)) := (by rw [cell_of_row _ _ _ _ _ _ h9]; rfl); clear h9)
          have HL9 : Hid (LxAt W9 w.heap.size s q) := (hg9.block _ (by rw [HE3.out]; omega) (fun e => by first | (have := (HLOW.out _ e.symm).1; omega) | (have := (HLOW.out _ e).1; omega))).trans (HLX1.out.later HB3.out)
          have HB9 : Hid (Below w.heap.size w W9) := below_grownB (ext_step HB1.out (HB3.out.mono (by omega))) (by rw [HE3.out]; omega) hg9 (fun g hg => by have := (HLOW.out g hg).1; omega)
          have HTK9 : Hid (ToksAt (w.heap.size + 1) (.slice (some ⟨g5, 0, none⟩) (out.length + 1) cp5) (out ++ [⟨kd, tx, ro, pa⟩]) W9) := by
            refine ⟨tvs ++ [(⟨kd, tx, ro, pa⟩, .pointer po)], by rw [List.map_append, HTV.out]; rfl, ?_, fun x hx => reO_rowT HOWN3.out hg9 (IsReO.later ?_ HB3.out)⟩
            · rw [List.length_append, List.length_singleton, List.flatMap_append, List.flatMap_singleton, HCT.out]; exact hown9
            · rcases List.mem_append.1 hx with hx | hx
              · exact HREV.out x hx
              · rw [List.mem_singleton.1 hx]; exact HRE1.out
          clear hown9 hg9 hat9 hlt9
          go_roundg f
          case measure => omega
          case rel => exact ⟨q, out ++ [(⟨kd, tx, ro, pa⟩ : LT)], hq.2, by omega, by rw [List.length_append, List.length_singleton]; omega, HO, HL9, HTK9, HB9, Lib.hid (HT.out.later HB9.out)⟩
      · have hen' : (((en : Nat) : Int) != 0) = true := by simp; omega
        have HO : Hid (R = ([], en, q)) := by show _ = _; rw [HST.out]; exact if_pos hen
        obtain ⟨c0, c1⟩ := (HLX1.out.later (re_alloc w1 (.cells #[.int .i64 (kd : Nat), .string TX, .pointer po, .int .i64 (pa : Nat)] 40))).cells
        go_wp2_with fail
        go_quiet (fail)
        go_wp2_with fail
        try rw [Exit.noGoto_ret]
        refine bodyPost_ret (v := .tuple #[.slice none 0 0, .int .i64 (en : Nat), .int .i64 (q : Nat)]) (by simp [results, Tryz.results20, go_sem]) rfl ?_
        rw [HO.out]
        exact ⟨_, rfl, ToksAt.nil _ _, ext_drewN (ext_alloc HB1.out _) _⟩
end Go.Proofs.YticpjjmacmmpjaaGreatDoor
