/-
  Expressions of an op joined, walked through the program: the sets of those of one byte made one, all in order, each once.
-/
import Derived.Test.YticpjjmacmmpjaaGreatDoorReW
import Derived.Test.YticpjjmacmmpjaaGreatDoorSetX
set_option linter.unusedSimpArgs false
set_option linter.unusedVariables false
set_option maxRecDepth 100000
set_option linter.unnecessarySimpa false
namespace Go.Proofs.YticpjjmacmmpjaaGreatDoor
open Go.RowKit Go.Sort Go.Lib

theorem OwnRe.base {w w1 wr : World} {ls : List RE} {bs : List Nat} {v : Value} (h : OwnRe w1 ls bs v wr) (hb : Below w.heap.size w w1) : OwnRe w ls bs v wr := by
  have hle := hb.size
  refine ⟨?_, h.are, hb.trans (h.bel.mono hle)⟩
  refine ⟨h.own.1, ?_⟩
  rcases h.own.2 with h0 | ⟨g, cap, cur, e, hgB, h1⟩
  · exact .inl h0
  · exact .inr ⟨g, cap, cur, e, Nat.le_trans hle hgB, h1⟩
/-- a set as a value -/
abbrev aggS (s : BS) : Value := .agg #[.int .u64 (wN s.a), .int .u64 (wN s.b), .int .u64 (wN s.c), .int .u64 (wN s.d)]
def OneAt (v7 v8 : Value) (wr : World) : Option RE → Prop
  | none => v8 = .pointer none
  | some r => ∃ b, v8 = ptr b ∧ IsReX (fun k => v7.ownBlock = some k) wr b r ∧ RE.wf r
def JoinAt (w : World) (f : BS → BS → BS) (F : List RE) (v7 v8 i : Value) (wr : World) : Prop :=
  ∃ (k : Nat) (bs : List Nat) (O : List RE) (x : Option RE), k ≤ F.length ∧ i = .int .i64 k ∧ OwnRe w O bs v7 wr ∧ OneAt v7 v8 wr x ∧ O.length ≤ k ∧ (∀ r ∈ O, RE.wf r) ∧ RE.joinGo f (F.drop k) O x = RE.joinGo f F [] none
def ListPost (w : World) (L : List RE) (e : Ending) (w' : World) : Prop := ∃ v bs, e = .returned v ∧ OwnRe w L bs v w'
theorem RE.one_wf (s : BS) : RE.wf (RE.one s) := by
  unfold RE.one
  split
  · simp [RE.nothing, RE.wf, RE.wfs]
  · simp [RE.wf, RE.wfs]
theorem OneAt.later {v7 v8 : Value} {wr wr' : World} {x : Option RE} (h : OneAt v7 v8 wr x) (hb : Below wr.heap.size wr wr') : OneAt v7 v8 wr' x := by
  cases x with
  | none => exact h
  | some r => obtain ⟨b, h1, h2, h3⟩ := h; exact ⟨b, h1, h2.keep (fun k hk _ => hb.block k hk), h3⟩
theorem OneAt.appended {v v8 : Value} {g n cp H : Nat} {Wa W' : World} {x : Option RE} (h : OneAt v v8 Wa x) (hg : Wa.grownBy W' v.ownBlock) (hat : v.ownBlock = some g ∨ g = H) (hH : Wa.heap.size ≤ H) : OneAt (.slice (some ⟨g, 0, none⟩) n cp) v8 W' x := by
  cases x with
  | none => exact h
  | some r =>
    obtain ⟨b, h1, h2, h3⟩ := h
    refine ⟨b, h1, ?_, h3⟩
    have h4 : IsReX (fun k => v.ownBlock = some k ∨ Wa.heap.size ≤ k) Wa b r := h2.mono fun k hk hy => by
      rcases hy with hy | hy
      · exact hy
      · omega
    refine (h4.keep (w' := W') fun k hk hx => hg.block k hk (fun e => hx (.inl e.symm))).mono fun k _ e => ?_
    have e : g = k := by simpa [Value.ownBlock] using e
    subst e
    rcases hat with e | e
    · exact .inl e
    · exact .inr (by omega)
set_option maxRecDepth 100000 in
set_option maxHeartbeats 4000000 in
theorem join_any (o g : Nat) (f : BS → BS → BS) (hf : ∀ (s t : BS) (W : World), Calls Tryz.prog g #[aggS s, aggS t] W fun e w' => e = .returned (aggS (f s t)) ∧ Below W.heap.size W w') (eg : ∀ args w, (callFunc g args).run Tryz.prog w = .ok (.enter g args) w)
   (kp : Option Addr) (cap : Nat) (l : List (Option RE)) (w : World) (hl : ListO w kp l) (hne : ∀ r, some r ∈ l → r.op = o → r.kids ≠ []) (hwf : ∀ r ∈ RE.flat o l, RE.wf r) (hsz : (RE.flat o l).length ≤ 1099511627775) (hln : l.length ≤ 1099511627776) :
    Calls Tryz.prog 125 #[.int .i64 o, .slice kp l.length cap, .func (.func g) #[] #[]] w (ListPost w (RE.joinL o f l)) := by
  have HF := Lib.hid (flat_any o kp cap l w hl hne (by omega) hln)
  have HWF := Lib.hid hwf
  have HG := Lib.hid hf
  have HJ : Hid (RE.joinL o f l = RE.joinGo f (RE.flat o l) [] none) := rfl
  obtain ⟨i0, hi, hz0, hz1, hz2⟩ := info_parts infoPtr
  have HI := Lib.hid hi; have HZ0 := Lib.hid hz0; have HZ1 := Lib.hid hz1; have HZ2 := Lib.hid hz2
  clear hl hne hwf hf hi hz0 hz1 hz2
  generalize RE.joinL o f l = R at *
  generalize hFF : RE.flat o l = F at *
  clear hFF
  go_enter Tryz.func125, Tryz.ntmps125
  go_wp2_with fail
  refine HF.out.mono ?_
  rintro e w1 ⟨v, bsF, rfl, hO⟩
  obtain ⟨kp1, cap1, rfl, hrow, _⟩ := hO.row
  have HBEL := Lib.hid hO.bel
  have HARE := Lib.hid hO.are.is
  have HROW := Lib.hid hrow
  clear hO hrow
  go_wp2_with fail
  go_loopw [7, 8, 15] (fun v7 v8 i wr => JoinAt w1 f F v7 v8 i wr) (fun _ _ i _ => F.length - (intOf i).toNat)
  case atStart => exact ⟨0, [], [], none, by omega, rfl, ⟨World.ownsRow_nil _ _ _ _, AreReX.nil, Below.refl _ _⟩, rfl, by simp, by simp, rfl⟩
  case round =>
    obtain ⟨k, bs, O, x, hk, rfl, hW, hx, hOk, hOw, hgo⟩ := hrel
    by_cases hlt : k < F.length
    · obtain ⟨hbl, hkids⟩ := HARE.out
      rcases HROW.out with h0 | ⟨kb, ko, rfl, hrw⟩
      · rw [h0] at hbl; simp at hbl; omega
      have hptr : w1.cell? ⟨kb, ko + k, none⟩ = some (.pointer (some ⟨bsF.getD k 0, 0, none⟩)) := hrw k (by omega)
      have hkbl := World.block_lt_of_cell? w1 _ hptr
      rw [← hW.bel.cell (p := ⟨kb, ko + k, none⟩) hkbl] at hptr
      have hb0 := hkids k hlt
      have hrwf := HWF.out (F.getD k RE.nothing) (by simp [List.getD, hlt])
      have hdrop : F.drop k = F.getD k RE.nothing :: F.drop (k + 1) := by rw [List.drop_eq_getElem_cons hlt]; simp [List.getD, hlt]
      rw [hdrop] at hgo
      have hb := hb0.later (Nat.le_refl _) hW.bel
      have hbX : IsReX (fun j => u7.ownBlock = some j) wr (bsF.getD k 0) (F.getD k RE.nothing) := (hb0.avoid (X := fun j => u7.ownBlock = some j) fun j hj e => by have := (hW.own.lt j e).1; omega).keep fun j hj _ => hW.bel.block j hj
      generalize F.getD k RE.nothing = r at *
      generalize bsF.getD k 0 = b at *
      obtain ⟨kp2, cap2, bs2, hnode, _, _⟩ := hb.open
      have hop : wr.cell? ⟨b, 0, none⟩ = some (.int .i64 (r.op : Nat)) := by rw [cell_of_row _ _ _ _ _ _ hnode]; rfl
      have hbO : bs.length ≤ 1099511627774 := by rw [hW.are.1]; omega
      by_cases hr2 : r.op = 2
      · rw [hr2] at hop
        cases x with
        | none =>
          have hv : u8 = .pointer none := hx
          subst hv
          have HGO : Hid (RE.joinGo f (F.drop (k + 1)) O (some r) = RE.joinGo f F [] none) := by
            show _ = _
            rw [← hgo]; simp [RE.joinGo, hr2]
          have HX : Hid (OneAt u7 (ptr b) wr (some r)) := ⟨b, rfl, hbX, hrwf⟩
          have HW := Lib.hid hW
          have HOW := Lib.hid hOw
          clear hnode hb hbX hb0 hkids hrw hgo hW hx hOw hrwf hdrop hbl
          go_wp2_with fail
          go_roundw
          case rel => exact ⟨k + 1, _, O, some r, by omega, by go_num, HW.out, HX.out, by omega, HOW.out, HGO.out⟩
          case measure => simp [intOf]; omega
        | some y =>
          obtain ⟨b1, hv, hyX, hyw⟩ := hx
          subst hv
          obtain ⟨kp3, cap3, bs3, hnode1, _, _⟩ := hyX.is.open
          have hop1 : wr.cell? ⟨b1, 0, none⟩ = some (.int .i64 (y.op : Nat)) := by rw [cell_of_row _ _ _ _ _ _ hnode1]; rfl
          have hcs : ∀ (j : Nat), j < 4 → wr.cell? ⟨b1, 1 + j, none⟩ = some (.int .u64 (wN (wordAt y.set j))) ∧ wr.cell? ⟨b, 1 + j, none⟩ = some (.int .u64 (wN (wordAt r.set j))) := fun j hj => by
            match j, hj with
            | 0, _ => exact ⟨by rw [cell_of_row _ _ _ _ _ _ hnode1]; rfl, by rw [cell_of_row _ _ _ _ _ _ hnode]; rfl⟩
            | 1, _ => exact ⟨by rw [cell_of_row _ _ _ _ _ _ hnode1]; rfl, by rw [cell_of_row _ _ _ _ _ _ hnode]; rfl⟩
            | 2, _ => exact ⟨by rw [cell_of_row _ _ _ _ _ _ hnode1]; rfl, by rw [cell_of_row _ _ _ _ _ _ hnode]; rfl⟩
            | 3, _ => exact ⟨by rw [cell_of_row _ _ _ _ _ _ hnode1]; rfl, by rw [cell_of_row _ _ _ _ _ _ hnode]; rfl⟩
          obtain ⟨ys, hys⟩ : ∃ s, y.set = s := ⟨_, rfl⟩
          obtain ⟨rs, hrs⟩ : ∃ s, r.set = s := ⟨_, rfl⟩
          rw [hys, hrs] at hcs
          have HGO0 : Hid ((RE.one (f ys rs)).op = 0 → O ++ [RE.one (f ys rs)] = RE.joinGo f F [] none) := fun h0 => by
            rw [← hgo]; simp [RE.joinGo, hr2, hys, hrs, h0]
          have HGO1 : Hid ((RE.one (f ys rs)).op ≠ 0 → RE.joinGo f (F.drop (k + 1)) O (some (RE.one (f ys rs))) = RE.joinGo f F [] none) := fun h0 => by
            rw [← hgo]; simp [RE.joinGo, hr2, hys, hrs, h0]
          obtain ⟨y0, y1, y2, y3⟩ := ys
          obtain ⟨r0, r1, r2, r3⟩ := rs
          obtain ⟨S, hS⟩ : ∃ S : World → Prop, ∀ W', S W' ↔ ((W'.cell? ⟨b1, 1, none⟩ = some (.int .u64 (wN y0)) ∧ W'.cell? ⟨b1, 1 + 1, none⟩ = some (.int .u64 (wN y1)) ∧ W'.cell? ⟨b1, 1 + 2, none⟩ = some (.int .u64 (wN y2)) ∧ W'.cell? ⟨b1, 1 + 3, none⟩ = some (.int .u64 (wN y3))) ∧
              (W'.cell? ⟨b, 1, none⟩ = some (.int .u64 (wN r0)) ∧ W'.cell? ⟨b, 1 + 1, none⟩ = some (.int .u64 (wN r1)) ∧ W'.cell? ⟨b, 1 + 2, none⟩ = some (.int .u64 (wN r2)) ∧ W'.cell? ⟨b, 1 + 3, none⟩ = some (.int .u64 (wN r3)))) := ⟨_, fun _ => Iff.rfl⟩
          have HS := Lib.hid hS
          clear hS
          have cs : ∀ p : InC S, (p.w.cell? ⟨b1, 1, none⟩ = some (.int .u64 (wN y0)) ∧ p.w.cell? ⟨b1, 1 + 1, none⟩ = some (.int .u64 (wN y1)) ∧ p.w.cell? ⟨b1, 1 + 2, none⟩ = some (.int .u64 (wN y2)) ∧ p.w.cell? ⟨b1, 1 + 3, none⟩ = some (.int .u64 (wN y3))) ∧
              (p.w.cell? ⟨b, 1, none⟩ = some (.int .u64 (wN r0)) ∧ p.w.cell? ⟨b, 1 + 1, none⟩ = some (.int .u64 (wN r1)) ∧ p.w.cell? ⟨b, 1 + 2, none⟩ = some (.int .u64 (wN r2)) ∧ p.w.cell? ⟨b, 1 + 3, none⟩ = some (.int .u64 (wN r3))) := fun p => (HS.out p.w).1 p.h
          have hS0 : S wr.drew := (HS.out _).2 ⟨⟨(hcs 0 (by omega)).1, (hcs 1 (by omega)).1, (hcs 2 (by omega)).1, (hcs 3 (by omega)).1⟩, ⟨(hcs 0 (by omega)).2, (hcs 1 (by omega)).2, (hcs 2 (by omega)).2, (hcs 3 (by omega)).2⟩⟩
          have hne : Nonempty (InC S) := ⟨⟨_, hS0⟩⟩
          have HW := Lib.hid hW
          have HOW := Lib.hid hOw
          have HCALL := Lib.hid (HG.out ⟨y0, y1, y2, y3⟩ ⟨r0, r1, r2, r3⟩)
          generalize f ⟨y0, y1, y2, y3⟩ ⟨r0, r1, r2, r3⟩ = fs at *
          obtain ⟨f0, f1, f2, f3⟩ := fs
          clear hnode hnode1 hb hbX hb0 hkids hrw hgo hW hyX hOw hrwf hdrop hbl hcs hys hrs
          go_wp2_with fail
          clear hop hop1 hptr
          refine wp_region_mix S [0, 1, 2, 3, 4, 5, 6, 7, 8] [0, 1, 2, 3, 4, 5, 6, 7, 8, 9, 10, 11] (by kernel_rfl) (by kernel_rfl) hS0 ?_
          (repeat (refine wpMix_read rfl rfl ?_; go_big_quiet_step (fail); refine wpQuiet_nil ?_))
          clear cs hne hS0
          refine wpMix_eff (k := false) rfl rfl (by kernel_rfl) ?_
          go_wp2_with fail
          refine (HCALL.out _).mono ?_
          rintro e w2 ⟨rfl, hb2⟩
          have hB2 : Below wr.heap.size wr w2 := by repeat (first | exact Below.refl _ _ | assumption | refine Below.drew ?_ | refine ext_drewN ?_ _ | refine ext_alloc ?_ _ | refine Below.setCell ?_ (by (try simp only [World.size_alloc, World.size_setCell, World.size_drew]); omega) _ | refine ext_step ?_ (by assumption))
          go_wp2_with fail
          refine mixPost_last ?_
          refine wpMix_eff (k := false) rfl rfl (by kernel_rfl) ?_
          go_wp2_with fail
          refine (One_any f0 f1 f2 f3 _).mono ?_
          rintro e w3 ⟨b2, rfl, hone, hb3⟩
          have hB3 := ext_step hB2 hb3
          have hoX : IsReX (fun j => u7.ownBlock = some j) w3 b2 (RE.one ⟨f0, f1, f2, f3⟩) := hone.mono fun j _ e => by have := (HW.out.own.lt j e).2; have := hB2.size; omega
          have howf := RE.one_wf ⟨f0, f1, f2, f3⟩
          have hW3 := HW.out.later hB3
          clear hone hb3 hb2 hB2
          generalize RE.one ⟨f0, f1, f2, f3⟩ = z at *
          obtain ⟨kp4, cap4, bs4, hnode2, _, _⟩ := hoX.is.open
          have hop2 : w3.cell? ⟨b2, 0, none⟩ = some (.int .i64 (z.op : Nat)) := by rw [cell_of_row _ _ _ _ _ _ hnode2]; rfl
          have HW3 := Lib.hid hW3
          have HOX := Lib.hid hoX
          have HZW := Lib.hid howf
          clear hnode2 hW3 hoX howf HW
          go_wp2_with fail
          refine mixPost_last ?_
          refine wpMix_eff (k := false) rfl rfl (by kernel_rfl) ?_
          go_wp2_with fail
          refine mixPost_last (wpMix_nil ?_)
          by_cases hz0 : z.op = 0
          · rw [hz0] at hop2
            have HL := Lib.hid (HGO0.out hz0)
            clear hz0
            go_wp2_with (at_builtin; refine wpList_append_lies _ rfl _ _ _ rfl w1.heap.size 37 i0 _ 1 8 Tryz.underlying113 HI.out HZ0.out HZ1.out HZ2.out rfl (by omega) u7 bs.length (bs.map ptr) rfl (HW3.out.own.alloc _) ⟨w3.heap.size, 0, none⟩ 1 1 [ptr b2] rfl rfl (World.news_of_block (cs := #[ptr b2]) (t := 37) (fr := (0, 0)) (heap_alloc_last w3 _)) (ptr_one [b2]) (by omega) (by unfold maxLen; omega) (by omega) (by have := HW3.out.bel.size; simp; omega) (w3.heap.size + 1) (by simp) ?_; intro g5 cp5 W9 hown9 hg9 hat9 hlt9)
            have hb1 := HOX.out.keep (w' := w3.alloc (.cells #[ptr b2] 37)) fun j hj _ => (re_alloc w3 _).block j hj
            have hW9 := (HW3.out.later (re_alloc w3 _)).appended (n := bs.length + 1) (AreReX.one hb1) (by simp) rfl hown9 hg9 hat9
            have HW9 : Hid (ListPost w R (.returned (.slice (some ⟨g5, 0, none⟩) (bs.length + 1) cp5)) W9) := ⟨_, _, rfl, by rw [HJ.out, ← HL.out]; exact hW9.base HBEL.out⟩
            clear hW9 hb1 hown9 hg9 hat9
            go_wp2
            go_ret
            exact HW9.out
          · have hz0' : ((z.op : Int) == 0) = false := by rw [beq_eq_false_iff_ne]; omega
            have HGO := Lib.hid (HGO1.out hz0)
            have HX : Hid (OneAt u7 (ptr b2) w3 (some z)) := ⟨b2, rfl, HOX.out, HZW.out⟩
            clear hz0
            go_wp2_with fail
            go_roundw
            case rel => exact ⟨k + 1, _, O, some z, by omega, by go_num, HW3.out, HX.out, by omega, HOW.out, HGO.out⟩
            case measure => simp [intOf]; omega
      · have hr2' : ((r.op : Int) != 2) = true := by rw [bne_iff_ne]; omega
        have HGO : Hid (RE.joinGo f (F.drop (k + 1)) (O ++ [r]) x = RE.joinGo f F [] none) := by
          show _ = _
          rw [← hgo]; simp [RE.joinGo, hr2]
        have HX := Lib.hid hx
        have HW := Lib.hid hW
        have HOW : Hid (∀ r' ∈ O ++ [r], RE.wf r') := fun r' hr' => by
          rcases List.mem_append.1 hr' with h | h
          · exact hOw r' h
          · rw [List.mem_singleton.1 h]; exact hrwf
        have HBX := Lib.hid hbX
        clear hnode hb hbX hb0 hkids hrw hgo hW hx hOw hrwf hdrop hbl hr2
        go_wp2_with (at_builtin; refine wpList_append_lies _ rfl _ _ _ rfl w1.heap.size 37 i0 _ 1 8 Tryz.underlying113 HI.out HZ0.out HZ1.out HZ2.out rfl (by omega) u7 bs.length (bs.map ptr) rfl (HW.out.own.alloc _) ⟨wr.heap.size, 0, none⟩ 1 1 [ptr b] rfl rfl (World.news_of_block (cs := #[ptr b]) (t := 37) (fr := (0, 0)) (heap_alloc_last wr _)) (ptr_one [b]) (by omega) (by unfold maxLen; omega) (by omega) (by have := HW.out.bel.size; simp; omega) (wr.heap.size + 1) (by simp) ?_; intro g5 cp5 W9 hown9 hg9 hat9 hlt9)
        have hb1 := HBX.out.keep (w' := wr.alloc (.cells #[ptr b] 37)) fun j hj _ => (re_alloc wr _).block j hj
        have hW9 := (HW.out.later (re_alloc wr _)).appended (n := bs.length + 1) (AreReX.one hb1) (by simp) rfl hown9 hg9 hat9
        have hX9 := (HX.out.later (re_alloc wr (.cells #[ptr b] 37))).appended (n := bs.length + 1) (cp := cp5) (H := wr.heap.size + 1) hg9 hat9 (by simp)
        have HW9 := Lib.hid hW9
        have HX9 := Lib.hid hX9
        have hlO2 : (O ++ [r]).length ≤ k + 1 := by simp; omega
        clear hW9 hX9 hb1 hown9 hg9 hat9
        go_wp2
        go_roundw
        case rel => exact ⟨k + 1, _, O ++ [r], x, by omega, by go_num, HW9.out, HX9.out, hlO2, HOW.out, HGO.out⟩
        case measure => simp [intOf]; omega
    · obtain rfl : k = F.length := by omega
      rw [List.drop_length] at hgo
      have hbO : bs.length ≤ 1099511627775 := by rw [hW.are.1]; omega
      cases x with
      | none =>
        have hv : u8 = .pointer none := hx
        subst hv
        have HU := Lib.hid (unique_any u7 bs O w1 wr hW hOw (by omega))
        have HL : Hid (RE.uniq O = R) := by show _ = _; rw [HJ.out, ← hgo]; rfl
        clear hW hOw hgo hx
        go_wp2_with fail
        refine HU.out.mono ?_
        rintro e w2 ⟨v', bs', rfl, hO'⟩
        rw [HL.out] at hO'
        have HO' := Lib.hid (hO'.base HBEL.out)
        clear hO'
        go_wp2_with fail
        go_ret
        exact ⟨_, _, rfl, HO'.out⟩
      | some y =>
        obtain ⟨b1, hv, hyX, hyw⟩ := hx
        subst hv
        have HW := Lib.hid hW
        have HL : Hid (RE.uniq (O ++ [y]) = R) := by show _ = _; rw [HJ.out, ← hgo]; rfl
        have HOW : Hid (∀ r' ∈ O ++ [y], RE.wf r') := fun r' hr' => by
          rcases List.mem_append.1 hr' with h | h
          · exact hOw r' h
          · rw [List.mem_singleton.1 h]; exact hyw
        have HBX := Lib.hid hyX
        clear hW hOw hgo hyX hyw
        go_wp2_with (at_builtin; refine wpList_append_lies _ rfl _ _ _ rfl w1.heap.size 37 i0 _ 1 8 Tryz.underlying113 HI.out HZ0.out HZ1.out HZ2.out rfl (by omega) u7 bs.length (bs.map ptr) rfl (HW.out.own.alloc _) ⟨wr.heap.size, 0, none⟩ 1 1 [ptr b1] rfl rfl (World.news_of_block (cs := #[ptr b1]) (t := 37) (fr := (0, 0)) (heap_alloc_last wr _)) (ptr_one [b1]) (by omega) (by unfold maxLen; omega) (by omega) (by have := HW.out.bel.size; simp; omega) (wr.heap.size + 1) (by simp) ?_; intro g5 cp5 W9 hown9 hg9 hat9 hlt9)
        have hb1 := HBX.out.keep (w' := wr.alloc (.cells #[ptr b1] 37)) fun j hj _ => (re_alloc wr _).block j hj
        have hW9 := (HW.out.later (re_alloc wr _)).appended (n := bs.length + 1) (AreReX.one hb1) (by simp) rfl hown9 hg9 hat9
        have HU := Lib.hid (unique_any _ _ _ w1 _ hW9 HOW.out (by simp; omega))
        clear hW9 hb1 hown9 hg9 hat9
        go_wp2_with fail
        refine HU.out.mono ?_
        rintro e w2 ⟨v', bs', rfl, hO'⟩
        rw [HL.out] at hO'
        have HO' := Lib.hid (hO'.base HBEL.out)
        clear hO'
        go_wp2_with fail
        go_ret
        exact ⟨_, _, rfl, HO'.out⟩
end Go.Proofs.YticpjjmacmmpjaaGreatDoor
