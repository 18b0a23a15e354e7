/-
  What makes expressions of expressions, walked through the program: of one of them, of all of them, one behind the other, as often as one likes, of one and not of another one.
-/

import Derived.Test.YtgamknphlmcgnaaGreatDoorZrA
import Derived.Test.YtgamknphlmcgnaaGreatDoorZrC
import Derived.Test.YtgamknphlmcgnaaGreatDoorZrD
import Derived.Test.YtgamknphlmcgnaaGreatDoorZrE
import Derived.Test.YtgamknphlmcgnaaGreatDoorZrF
set_option linter.unusedSimpArgs false
set_option linter.unusedVariables false
set_option maxRecDepth 100000
set_option linter.unnecessarySimpa false
namespace Go.Proofs.YtgamknphlmcgnaaGreatDoor
open Go.RowKit Go.Sort Go.Lib
def RePost (w : World) (r : RE) (e : Ending) (w' : World) : Prop := ∃ b, e = .returned (ptr b) ∧ IsRe w' b r ∧ Below w.heap.size w w'
theorem Del_own (g : Nat) (p : RE → Bool) (hg : Asks g p) (eg : ∀ args w, (callFunc g args).run Tryz.prog w = .ok (.enter g args) w) (v : Value) (bs : List Nat) (ls : List RE) (w wr : World) (h : OwnRe w ls bs v wr) (hsz : ls.length ≤ 1099511627776) :
    Calls Tryz.prog 60 #[v, .func (.func g) #[] #[]] wr (ListPost w (ls.filter fun r => !p r)) := by
  by_cases hne : ls = []
  · subst hne
    obtain ⟨kp, cap, rfl, hrow, _⟩ := h.row
    refine (DeleteFunc_none g p hg eg kp cap bs [] wr hrow h.are.is (by simp) (by simp)).mono fun e w' hh => ?_
    obtain ⟨rfl, rfl⟩ := hh
    exact ⟨_, bs, rfl, by simpa using h⟩
  · obtain ⟨g1, cap, rfl, hcap, hg1, hQ⟩ := h.rowQ hne
    have hl := h.are.1
    have hds : (((bs.zip ls).map some).toArray : Array QE).size = ls.length := by simp; omega
    have hd := DeleteFunc_any g p hg eg g1 0 cap ((bs.zip ls).map some).toArray wr hQ (by omega) (by omega)
    rw [hds] at hd
    refine hd.mono fun e w' hh => ?_
    have hz : (bs.zip ls).map Prod.snd = ls := List.map_snd_zip (by omega)
    have hlq : leftQ p ((bs.zip ls).map some).toArray = ((bs.zip ls).filter fun q => !p q.2).map some := by
      unfold leftQ
      rw [List.toList_toArray, List.filter_map]; rfl
    rw [hlq] at hh
    have hf := h.left hne (L := ((bs.zip ls).filter fun q => !p q.2).map some) (fun x hx => by
      obtain ⟨q, hq, rfl⟩ := List.mem_map.1 hx
      exact List.mem_map.2 ⟨q, (List.mem_filter.1 hq).1, rfl⟩) (by
      rw [List.length_map]
      exact Nat.le_trans (List.length_filter_le _ _) (by simp; omega)) hh
    obtain ⟨he, hF⟩ := hf
    have e2 : (((bs.zip ls).filter fun q => !p q.2).map some).map treeQ = ls.filter fun r => !p r := by
      conv => rhs; rw [← hz]
      rw [List.map_map, List.filter_map]; rfl
    rw [e2] at hF
    exact ⟨_, _, he, hF⟩
theorem any_of_idx {p : RE → Bool} {ls : List RE} {i : Int} (h : IdxRes p ls i) : decide (i ≥ 0) = ls.any p := by
  rcases h with ⟨rfl, h⟩ | ⟨k, hk, rfl, h, _⟩
  · rw [List.any_eq_false.2 fun r hr => by simp [h r hr]]; rfl
  · rw [List.any_eq_true.2 ⟨_, List.getElem_mem hk, by simpa [List.getD, hk] using h⟩]; simp
theorem Contains_any (g : Nat) (p : RE → Bool) (hg : Asks g p) (eg : ∀ args w, (callFunc g args).run Tryz.prog w = .ok (.enter g args) w) (kp : Option Addr) (cap : Nat) (bs : List Nat) (ls : List RE) (w : World) (hr : PtrsAt w kp bs) (hk : AreRe w bs ls) (hln : ls.length ≤ 1099511627776) :
    Calls Tryz.prog 155 #[.slice kp ls.length cap, .func (.func g) #[] #[]] w fun e w' => e = .returned (.bool (ls.any p)) ∧ w' = w := by
  have HI := Lib.hid (IndexFunc_any g p hg eg kp cap bs ls w hr hk hln)
  clear hr hk hg
  go_enter Tryz.func155, Tryz.ntmps155
  go_wp2_with fail
  refine HI.out.mono ?_
  rintro e w' ⟨⟨i, hres, rfl⟩, rfl⟩
  have HA : Hid (decide (i ≥ 0) = ls.any p) := any_of_idx hres
  clear hres
  go_wp2_with fail
  go_ret
  exact ⟨congrArg (fun b => Ending.returned (.bool b)) HA.out, rfl⟩
theorem isNone : Asks 154 (fun r => r.op == 0) := by
  intro W b r hb
  obtain ⟨kp1, cap1, bs1, hnode, hptr, hkids⟩ := hb.open
  have hop : W.cell? ⟨b, 0, none⟩ = some (.int .i64 (r.op : Nat)) := by rw [cell_of_row _ _ _ _ _ _ hnode]; rfl
  clear hnode hptr hkids hb
  have he : ((r.op : Int) == 0) = (r.op == 0) := by
    by_cases h : r.op = 0
    · simp [h]
    · have h2 : ¬ ((r.op : Int) = 0) := by omega
      rw [beq_eq_false_iff_ne.2 h, beq_eq_false_iff_ne.2 h2]
  have HE := Lib.hid he
  clear he
  go_enter Tryz.func154, Tryz.ntmps154
  go_wp2_with fail
  rw [HE.out]
  go_wp2_with fail
  go_ret
  exact ⟨rfl, rfl⟩
theorem node_of {o : Nat} {w w1 w2 : World} {F : List RE} {bs : List Nat} {kp : Option Addr} {n cap b : Nat} (hO : OwnRe w F bs (.slice kp n cap) w1) (hr : PtrsAt w1 kp bs) (h4 : w2.heap[b]? = some (.cells (nodeCells (RE.node o BS.none F) kp cap) 117 (0, 0))) (h5 : Below w1.heap.size w1 w2) : RePost w (RE.node o BS.none F) (.returned (ptr b)) w2 :=
  ⟨b, rfl, IsRe.made h4 hr hO.ty hO.are.is h5, ext_step hO.bel h5⟩
theorem head_of {w w1 : World} {x : RE} {bs : List Nat} {v : Value} {kb ko : Nat} (hO : OwnRe w [x] bs v w1) (hrw : ∀ i, i < bs.length → w1.cell? ⟨kb, ko + i, none⟩ = some (ptr (bs.getD i 0))) : ∃ b, w1.cell? ⟨kb, ko, none⟩ = some (.pointer (some ⟨b, 0, none⟩)) ∧ RePost w x (.returned (ptr b)) w1 := by
  have hl := hO.are.1
  refine ⟨bs.getD 0 0, by have := hrw 0 (by rw [hl]; simp); simpa using this, bs.getD 0 0, rfl, ?_, hO.bel⟩
  have := hO.are.is.2 0 (by simp)
  simpa using this
set_option maxRecDepth 100000 in
set_option maxHeartbeats 4000000 in
theorem Any_any (kp : Option Addr) (cap : Nat) (l : List (Option RE)) (w : World) (hl : ListO w kp l) (hnf : RE.nfO l) (hsz : RE.sizes (RE.flat 4 l) ≤ 1099511627775) (hln : l.length ≤ 1099511627776) :
    Calls Tryz.prog 122 #[.slice kp l.length cap] w (RePost w (RE.anyL l)) := by
  have hlen := RE.len_sizes (RE.flat 4 l)
  have hjs := RE.joinL_sizes 4 RE.orS l
  have HJ := Lib.hid (join_any 4 153 RE.orS (fun s t W => Or_any s.a s.b s.c s.d t.a t.b t.c t.d W) (enters_of Tryz.func153 (by kernel_rfl) rfl) kp cap l w hl (RE.flat_ne (by omega) hnf) (fun r hr => RE.nf_wf r (RE.nf_flat hnf r hr)) (by omega) hln)
  have HR : Hid (RE.anyL l = RE.anyOf ((RE.joinL 4 RE.orS l).filter fun r => !(r.op == 0))) := rfl
  have hjl := RE.len_sizes (RE.joinL 4 RE.orS l)
  clear hl hnf
  generalize RE.anyL l = R at *
  generalize RE.joinL 4 RE.orS l = J at *
  have hfs := RE.sizes_filter J (fun r => !(r.op == 0))
  have hfl := RE.len_sizes (J.filter fun r => !(r.op == 0))
  go_enter Tryz.func122, Tryz.ntmps122
  go_wp2_with fail
  refine HJ.out.mono ?_
  rintro e w1 ⟨v1, bs1, rfl, hO1⟩
  have HD := Lib.hid (Del_own 154 (fun r => r.op == 0) isNone (enters_of Tryz.func154 (by kernel_rfl) rfl) v1 bs1 J w w1 hO1 (by omega))
  clear hO1
  generalize (J.filter fun r => !(r.op == 0)) = F at *
  go_wp2_with fail
  refine HD.out.mono ?_
  rintro e w2 ⟨v2, bs2, rfl, hO⟩
  obtain ⟨kp1, cap1, rfl, hrow, _⟩ := hO.row
  by_cases h0 : F.length = 0
  · have HT2 : Hid (R = RE.nothing) := by show _ = _; rw [HR.out, List.length_eq_zero_iff.1 h0]; rfl
    rw [h0]
    have HB := Lib.hid hO.bel
    clear hO hrow
    go_wp2_with fail
    refine (Nothing_any _).mono ?_
    rintro e w3 ⟨b, rfl, h1, h2⟩
    go_wp2_with fail
    go_ret
    exact ⟨b, rfl, by rw [HT2.out]; exact h1.is, ext_step HB.out h2⟩
  · rcases hrow with h1 | ⟨kb, ko, rfl, hrw⟩
    · have := hO.are.1; rw [h1] at this; simp at this; omega
    by_cases h1 : F.length = 1
    · match F, h1 with
      | [x], _ =>
      have HT2 : Hid (R = x) := by show _ = _; rw [HR.out]; rfl
      obtain ⟨b0, hptr, hp⟩ := head_of hO hrw
      have HP := Lib.hid hp
      clear hp hO hrw
      go_wp2_with fail
      go_ret
      rw [HT2.out]
      exact HP.out
    · have HT2 : Hid (R = RE.node 4 BS.none F) := by
        show _ = _
        rw [HR.out]
        match F, h0, h1 with
        | x :: y :: z, _, _ => rfl
      have HC := Lib.hid (Contains_any 156 RE.null Null_asks (enters_of Tryz.func156 (by kernel_rfl) rfl) (some ⟨kb, ko, none⟩) cap1 bs2 F w2 (.inr ⟨kb, ko, rfl, hrw⟩) hO.are.is (by omega))
      have HM := Lib.hid (made_zero 4 (by omega) (by omega) (F.any RE.null) (some ⟨kb, ko, none⟩) cap1 bs2 F w2 (.inr ⟨kb, ko, rfl, hrw⟩) hO.are.is (by simp [RE.null, RE.nullAny_eq]) (by omega))
      have h0' : ((F.length : Int) == 0) = false := by rw [beq_eq_false_iff_ne]; omega
      have h1' : ((F.length : Int) == 1) = false := by rw [beq_eq_false_iff_ne]; omega
      have HOW := Lib.hid hO
      have HRW := Lib.hid hrw
      generalize F.any RE.null = nl at *
      clear hO hrw h0 h1
      go_wp2_with fail
      refine HC.out.mono ?_
      rintro e w' ⟨rfl, rfl⟩
      go_wp2_with fail
      refine HM.out.mono ?_
      rintro e w3 ⟨b, rfl, h3, h4, h5⟩
      go_wp2_with fail
      go_ret
      rw [HT2.out]
      exact node_of HOW.out (.inr ⟨kb, ko, rfl, HRW.out⟩) h4 h5
theorem many_self (r : RE) (h : r.op = 5) : RE.many (some r) = r := by simp [RE.many, h]
theorem many_empty (r : RE) (h : r.op = 0 ∨ r.op = 1) : RE.many (some r) = RE.empty := by simp [RE.many, h]
theorem many_node (r : RE) (h0 : r.op ≠ 0) (h1 : r.op ≠ 1) (h5 : r.op ≠ 5) : RE.many (some r) = RE.node 5 BS.none [r] := by simp [RE.many, h0, h1, h5]
set_option maxRecDepth 100000 in
set_option maxHeartbeats 4000000 in
theorem Many_any (v : Value) (o : Option RE) (w : World) (h : IsReO w v o) (hsz : RE.sizeO o ≤ 1099511627775) :
    Calls Tryz.prog 19 #[v] w (RePost w (RE.many o)) := by
  cases o with
  | none =>
    have hv : v = .pointer none := h
    subst hv
    have HT : Hid (RE.many none = RE.empty) := rfl
    go_enter Tryz.func19, Tryz.ntmps19
    go_wp2_with fail
    refine (EmptyRe_any _).mono ?_
    rintro e w2 ⟨b, rfl, h1, h2⟩
    go_wp2_with fail
    go_ret
    exact ⟨b, rfl, by rw [HT.out]; exact h1.is, h2⟩
  | some r =>
    obtain ⟨b, rfl, hb⟩ := h
    have hsz : r.size ≤ 1099511627775 := hsz
    obtain ⟨kp1, cap1, bs1, hnode, _, _⟩ := hb.open
    have hop : w.cell? ⟨b, 0, none⟩ = some (.int .i64 (r.op : Nat)) := by rw [cell_of_row _ _ _ _ _ _ hnode]; rfl
    clear hnode
    have HB := Lib.hid hb
    clear hb
    by_cases h0 : r.op = 0
    · have HT := Lib.hid (many_empty r (.inl h0))
      rw [h0] at hop
      generalize RE.many (some r) = R at *
      clear h0
      go_enter Tryz.func19, Tryz.ntmps19
      go_wp2_with fail
      refine (EmptyRe_any _).mono ?_
      rintro e w2 ⟨b', rfl, h1, h2⟩
      go_wp2_with fail
      go_ret
      exact ⟨b', rfl, by rw [HT.out]; exact h1.is, h2⟩
    · by_cases h1 : r.op = 1
      · have HT := Lib.hid (many_empty r (.inr h1))
        rw [h1] at hop
        generalize RE.many (some r) = R at *
        clear h0 h1
        go_enter Tryz.func19, Tryz.ntmps19
        go_wp2_with fail
        refine (EmptyRe_any _).mono ?_
        rintro e w2 ⟨b', rfl, h1, h2⟩
        go_wp2_with fail
        go_ret
        exact ⟨b', rfl, by rw [HT.out]; exact h1.is, h2⟩
      · by_cases h5 : r.op = 5
        · have HT := Lib.hid (many_self r h5)
          rw [h5] at hop
          generalize RE.many (some r) = R at *
          clear h0 h1 h5
          go_enter Tryz.func19, Tryz.ntmps19
          go_wp2_with fail
          go_ret
          exact ⟨b, rfl, by rw [HT.out]; exact HB.out, Below.refl _ _⟩
        · have HT := Lib.hid (many_node r h0 h1 h5)
          have g0 : ((r.op : Int) == 0) = false := by rw [beq_eq_false_iff_ne]; omega
          have g1 : ((r.op : Int) == 1) = false := by rw [beq_eq_false_iff_ne]; omega
          have g5 : ((r.op : Int) == 5) = false := by rw [beq_eq_false_iff_ne]; omega
          have hrow : ∀ o : Obj, PtrsAt (w.alloc (.cells #[ptr b] 28)) (some ⟨w.heap.size, 0, none⟩) [b] := fun _ => .inr ⟨w.heap.size, 0, rfl, fun i hi => by
            obtain rfl : i = 0 := by simpa using hi
            rw [cell_of_row _ _ _ _ _ _ (heap_alloc_last w _)]; rfl⟩
          have hre : AreRe (w.alloc (.cells #[ptr b] 28)) [b] [r] := ⟨rfl, fun i hi => by
            obtain rfl : i = 0 := by simpa using hi
            exact HB.out.later (Nat.le_refl _) (re_alloc w _)⟩
          have HM := Lib.hid (made_zero 5 (by omega) (by omega) true (some ⟨w.heap.size, 0, none⟩) 1 [b] [r] (w.alloc (.cells #[ptr b] 28)) (hrow (.cells #[] 0)) hre (by simp [RE.null]) (by simp [RE.sizes]; omega))
          have HRW := Lib.hid (hrow (.cells #[] 0))
          have HRE := Lib.hid hre
          generalize RE.many (some r) = R at *
          clear h0 h1 h5 hrow hre
          go_enter Tryz.func19, Tryz.ntmps19
          go_wp2_with fail
          refine HM.out.mono ?_
          rintro e w3 ⟨b', rfl, h3, h4, h5⟩
          go_wp2_with fail
          go_ret
          rw [HT.out]
          exact ⟨b', rfl, IsRe.made h4 HRW.out (fun _ a ha => by cases ha; exact ⟨_, _, heap_alloc_last _ _⟩) HRE.out h5, (re_alloc w _).trans (h5.mono (by simp))⟩
abbrev Set4 (W : World) (b : Nat) (s0 s1 s2 s3 : BitVec 64) : Prop := W.cell? ⟨b, 1, none⟩ = some (.int .u64 (wN s0)) ∧ W.cell? ⟨b, 1 + 1, none⟩ = some (.int .u64 (wN s1)) ∧ W.cell? ⟨b, 1 + 2, none⟩ = some (.int .u64 (wN s2)) ∧ W.cell? ⟨b, 1 + 3, none⟩ = some (.int .u64 (wN s3))
def R0 (x y : RE) : RE := RE.but (some x) (some y)
theorem re_cells {w : World} {b : Nat} {r : RE} (h : IsRe w b r) : w.cell? ⟨b, 0, none⟩ = some (.int .i64 (r.op : Nat)) ∧ w.cell? ⟨b, 2 + 3 + 1, none⟩ = some (.bool r.null) ∧
    (w.cell? ⟨b, 1, none⟩ = some (.int .u64 (wN r.set.a)) ∧ w.cell? ⟨b, 1 + 1, none⟩ = some (.int .u64 (wN r.set.b)) ∧ w.cell? ⟨b, 1 + 2, none⟩ = some (.int .u64 (wN r.set.c)) ∧ w.cell? ⟨b, 1 + 3, none⟩ = some (.int .u64 (wN r.set.d))) := by
  obtain ⟨kp1, cap1, bs1, hnode, _, _⟩ := h.open
  exact ⟨by rw [cell_of_row _ _ _ _ _ _ hnode]; rfl, by rw [cell_of_row _ _ _ _ _ _ hnode]; rfl, by rw [cell_of_row _ _ _ _ _ _ hnode]; rfl, by rw [cell_of_row _ _ _ _ _ _ hnode]; rfl, by rw [cell_of_row _ _ _ _ _ _ hnode]; rfl, by rw [cell_of_row _ _ _ _ _ _ hnode]; rfl⟩
set_option maxRecDepth 100000 in
set_option maxHeartbeats 4000000 in
theorem But_any (v v' : Value) (o o' : Option RE) (w : World) (h : IsReO w v o) (h' : IsReO w v' o') (hsz : RE.sizeO o + RE.sizeO o' ≤ 1099511627775) :
    Calls Tryz.prog 124 #[v, v'] w (RePost w (RE.but o o')) := by
  cases o with
  | none =>
    have hv : v = .pointer none := h
    subst hv
    have HT : Hid (RE.but none o' = RE.nothing) := rfl
    go_enter Tryz.func124, Tryz.ntmps124
    go_wp2_with fail
    refine (Nothing_any _).mono ?_
    rintro e w2 ⟨b, rfl, h1, h2⟩
    go_wp2_with fail
    go_ret
    exact ⟨b, rfl, by rw [HT.out]; exact h1.is, h2⟩
  | some x =>
    obtain ⟨b, rfl, hb⟩ := h
    obtain ⟨hop, hnl, hset⟩ := re_cells hb
    have HSAME := Lib.hid (Same_any (ptr b) v' (some x) o' w ⟨b, rfl, hb⟩ h')
    have HB := Lib.hid hb
    clear hb
    by_cases h0 : x.op = 0
    · have HT : Hid (RE.but (some x) o' = RE.nothing) := by show _ = _; simp [RE.but, h0]
      rw [h0] at hop
      generalize RE.but (some x) o' = R at *
      clear h0 hset hnl
      go_enter Tryz.func124, Tryz.ntmps124
      go_wp2_with fail
      refine (Nothing_any _).mono ?_
      rintro e w2 ⟨b', rfl, h1, h2⟩
      go_wp2_with fail
      go_ret
      exact ⟨b', rfl, by rw [HT.out]; exact h1.is, h2⟩
    · have g0 : ((x.op : Int) == 0) = false := by rw [beq_eq_false_iff_ne]; omega
      by_cases hs : RE.keyO (some x) = RE.keyO o'
      · have HT : Hid (RE.but (some x) o' = RE.nothing) := by show _ = _; unfold RE.but; simp [h0, hs]
        have hsm : sameB (some x) o' = true := decide_eq_true hs
        rw [hsm] at HSAME
        generalize RE.but (some x) o' = R at *
        clear h0 hset hnl hs hsm
        go_enter Tryz.func124, Tryz.ntmps124
        go_wp2_with fail
        refine HSAME.out.mono ?_
        rintro e w' ⟨rfl, rfl⟩
        go_wp2_with fail
        refine (Nothing_any _).mono ?_
        rintro e w2 ⟨b', rfl, h1, h2⟩
        go_wp2_with fail
        go_ret
        exact ⟨b', rfl, by rw [HT.out]; exact h1.is, h2⟩
      · have hsm : sameB (some x) o' = false := decide_eq_false hs
        rw [hsm] at HSAME
        clear hsm
        cases o' with
        | none =>
          have hv : v' = .pointer none := h'
          subst hv
          have HT : Hid (RE.but (some x) none = x) := by show _ = _; unfold RE.but; simp only [h0, hs, if_false]
          generalize RE.but (some x) none = R at *
          clear h0 hset hnl hs
          go_enter Tryz.func124, Tryz.ntmps124
          go_wp2_with fail
          refine HSAME.out.mono ?_
          rintro e w' ⟨rfl, rfl⟩
          go_wp2_with fail
          go_ret
          exact ⟨b, rfl, by rw [HT.out]; exact HB.out, Below.refl _ _⟩
        | some y =>
          obtain ⟨b1, rfl, hb1⟩ := h'
          obtain ⟨hop1, hnl1, hset1⟩ := re_cells hb1
          have HB1 := Lib.hid hb1
          clear hb1
          by_cases hy0 : y.op = 0
          · have HT : Hid (RE.but (some x) (some y) = x) := by show _ = _; unfold RE.but; simp only [h0, hs, hy0, if_false, if_true]
            rw [hy0] at hop1
            generalize RE.but (some x) (some y) = R at *
            clear h0 hset hnl hs hset1 hnl1 hy0
            go_enter Tryz.func124, Tryz.ntmps124
            go_wp2_with fail
            refine HSAME.out.mono ?_
            rintro e w' ⟨rfl, rfl⟩
            go_wp2_with fail
            go_ret
            exact ⟨b, rfl, by rw [HT.out]; exact HB.out, Below.refl _ _⟩
          · have gy0 : ((y.op : Int) == 0) = false := by rw [beq_eq_false_iff_ne]; omega
            by_cases h2 : x.op = 2 ∧ y.op = 2
            · have HT : Hid (RE.but (some x) (some y) = RE.one (RE.minusS x.set y.set)) := by show _ = _; unfold RE.but; simp only [h0, hs, hy0, h2, if_false, if_true, and_self]; rfl
              rw [h2.1] at hop
              rw [h2.2] at hop1
              obtain ⟨xs, hxs⟩ : ∃ s, x.set = s := ⟨_, rfl⟩
              obtain ⟨ys, hys⟩ : ∃ s, y.set = s := ⟨_, rfl⟩
              have HTX : Hid (R0 x y = RE.one (RE.minusS xs ys)) := by rw [← hxs, ← hys]; exact HT.out
              rw [hxs] at hset
              rw [hys] at hset1
              obtain ⟨x0, x1, x2, x3⟩ := xs
              obtain ⟨y0, y1, y2, y3⟩ := ys
              obtain ⟨S, hS⟩ : ∃ S : World → Prop, ∀ W', S W' ↔ (Set4 W' b x0 x1 x2 x3 ∧ Set4 W' b1 y0 y1 y2 y3) := ⟨_, fun _ => Iff.rfl⟩
              have HS := Lib.hid hS
              clear hS
              have cs : ∀ p : InC S, (Set4 p.w b x0 x1 x2 x3) ∧ Set4 p.w b1 y0 y1 y2 y3 := fun p => (HS.out p.w).1 p.h
              have hS0 : S w.drew := (HS.out _).2 ⟨hset, hset1⟩
              have hne : Nonempty (InC S) := ⟨⟨_, hS0⟩⟩
              clear h0 hset hnl hs hset1 hnl1 hy0 h2 hxs hys HT
              show Calls _ _ _ _ (RePost w (R0 x y))
              generalize R0 x y = R at *
              go_enter Tryz.func124, Tryz.ntmps124
              go_wp2_with fail
              refine HSAME.out.mono ?_
              rintro e w' ⟨rfl, rfl⟩
              go_wp2_with fail
              clear hop hop1
              refine wp_region_mix S [0, 1, 2, 3, 4, 5, 6, 7] [0, 1, 2, 3, 4, 5, 6, 7, 8, 9, 10] (by kernel_rfl) (by kernel_rfl) hS0 ?_
              (repeat (refine wpMix_read rfl rfl ?_; go_big_quiet_step (fail); refine wpQuiet_nil ?_))
              clear cs hne hS0
              refine wpMix_eff (k := false) rfl rfl (by kernel_rfl) ?_
              go_wp2_with fail
              refine (Minus_any x0 x1 x2 x3 y0 y1 y2 y3 _).mono ?_
              rintro e w2 ⟨rfl, hb2⟩
              have hB2 : Below w'.heap.size w' w2 := by repeat (first | exact Below.refl _ _ | assumption | refine Below.drew ?_ | refine ext_drewN ?_ _ | refine ext_alloc ?_ _ | refine Below.setCell ?_ (by (try simp only [World.size_alloc, World.size_setCell, World.size_drew]); omega) _ | refine ext_step ?_ (by assumption))
              clear hb2
              go_wp2_with fail
              refine mixPost_last ?_
              refine wpMix_eff (k := false) rfl rfl (by kernel_rfl) ?_
              go_wp2_with fail
              refine (One_any _ _ _ _ _).mono ?_
              rintro e w3 ⟨b2, rfl, hone, hb3⟩
              have hB3 := ext_step hB2 hb3
              have HP : Hid (RePost w' R (.returned (ptr b2)) w3) := ⟨b2, rfl, by rw [HTX.out]; exact hone.is, hB3⟩
              clear hone hb3 hB2 hB3
              go_wp2_with fail
              refine mixPost_last ?_
              refine wpMix_eff (k := false) rfl rfl (by kernel_rfl) ?_
              go_wp2_with fail
              refine mixPost_last (wpMix_nil ?_)
              go_wp2_with fail
              go_ret
              exact HP.out
            · have HT : Hid (RE.but (some x) (some y) = RE.node 7 BS.none [x, y]) := by show _ = _; unfold RE.but; simp only [h0, hs, hy0, h2, if_false]
              obtain ⟨nx, hnx⟩ : ∃ n, x.null = n := ⟨_, rfl⟩
              obtain ⟨ny, hny⟩ : ∃ n, y.null = n := ⟨_, rfl⟩
              have hnull : (nx && !ny) = (RE.node 7 BS.none [x, y]).null := by rw [← hnx, ← hny]; simp [RE.null, RE.nullBut, RE.nullAny]
              rw [hnx] at hnl
              rw [hny] at hnl1
              have hrow : PtrsAt (w.alloc (.cells #[ptr b, ptr b1] 28)) (some ⟨w.heap.size, 0, none⟩) [b, b1] := .inr ⟨w.heap.size, 0, rfl, fun i hi => by
                have : i = 0 ∨ i = 1 := by simp at hi; omega
                rcases this with rfl | rfl
                · rw [cell_of_row _ _ _ _ _ _ (heap_alloc_last w _)]; rfl
                · rw [cell_of_row _ _ _ _ _ _ (heap_alloc_last w _)]; rfl⟩
              have hre : AreRe (w.alloc (.cells #[ptr b, ptr b1] 28)) [b, b1] [x, y] := ⟨rfl, fun i hi => by
                have : i = 0 ∨ i = 1 := by simp at hi; omega
                rcases this with rfl | rfl
                · exact HB.out.later (Nat.le_refl _) (re_alloc w _)
                · exact HB1.out.later (Nat.le_refl _) (re_alloc w _)⟩
              have hsz' : RE.sizes [x, y] ≤ 1099511627776 := by simp only [RE.sizeO] at hsz; simp only [RE.sizes]; omega
              have HM := Lib.hid (made_zero 7 (by omega) (by omega) (nx && !ny) (some ⟨w.heap.size, 0, none⟩) 2 [b, b1] [x, y] (w.alloc (.cells #[ptr b, ptr b1] 28)) hrow hre hnull hsz')
              have HRW := Lib.hid hrow
              have HRE := Lib.hid hre
              have g2 : (nx = nx ∧ ((x.op : Int) == 2) = false) ∨ (((x.op : Int) == 2) = true ∧ ((y.op : Int) == 2) = false) := by
                by_cases e : x.op = 2
                · right
                  exact ⟨by rw [e]; rfl, by rw [beq_eq_false_iff_ne]; intro e2; exact h2 ⟨e, by omega⟩⟩
                · left
                  exact ⟨rfl, by rw [beq_eq_false_iff_ne]; omega⟩
              generalize RE.but (some x) (some y) = R at *
              clear h0 hset hs hset1 hy0 h2 hrow hre hsz' hsz hnull hnx hny
              rcases g2 with ⟨_, g2⟩ | ⟨g2, g3⟩
              all_goals
                cases nx
                all_goals
                  go_enter Tryz.func124, Tryz.ntmps124
                  go_wp2_with fail
                  refine HSAME.out.mono ?_
                  rintro e w' ⟨rfl, rfl⟩
                  go_wp2_with fail
                  refine HM.out.mono ?_
                  rintro e w3 ⟨b', rfl, h3, h4, h5⟩
                  go_wp2_with fail
                  go_ret
                  rw [HT.out]
                  exact ⟨b', rfl, IsRe.made h4 HRW.out (fun _ a ha => by cases ha; exact ⟨_, _, heap_alloc_last _ _⟩) HRE.out h5, (re_alloc _ _).trans (h5.mono (by simp))⟩
-- printed by gen_loop.py from here on
set_option maxRecDepth 100000 in
set_option maxHeartbeats 4000000 in
theorem Both_any (kp : Option Addr) (cap : Nat) (l : List (Option RE)) (w : World) (hl : ListO w kp l) (hnf : RE.nfO l) (hsz : RE.sizes (RE.flat 6 l) ≤ 1099511627775) (hln : l.length ≤ 1099511627776) :
    Calls Tryz.prog 123 #[.slice kp l.length cap] w (RePost w (RE.bothL l)) := by
  have hlen := RE.len_sizes (RE.flat 6 l)
  have hjs := RE.joinL_sizes 6 RE.andS l
  have HJ := Lib.hid (join_any 6 157 RE.andS (fun s t W => And_any s.a s.b s.c s.d t.a t.b t.c t.d W) (enters_of Tryz.func157 (by kernel_rfl) rfl) kp cap l w hl (RE.flat_ne (by omega) hnf) (fun r hr => RE.nf_wf r (RE.nf_flat hnf r hr)) (by omega) hln)
  have HR : Hid (RE.bothL l = if (RE.joinL 6 RE.andS l).any (fun r => r.op == 0) then RE.nothing else RE.bothOf (RE.joinL 6 RE.andS l)) := rfl
  have hjl := RE.len_sizes (RE.joinL 6 RE.andS l)
  clear hl hnf
  generalize RE.bothL l = R at *
  generalize RE.joinL 6 RE.andS l = F at *
  go_enter Tryz.func123, Tryz.ntmps123
  go_wp2_with fail
  refine HJ.out.mono ?_
  rintro e w1 ⟨v1, bs, rfl, hO⟩
  obtain ⟨kp1, cap1, rfl, hrow, _⟩ := hO.row
  go_wp2_with fail
  go_loopw [4, 11] (fun v i wr => ThenAt w1 F v i wr) (fun _ i _ => F.length - (intOf i).toNat)
  case atStart => exact ⟨0, by omega, rfl, rfl, rfl, fun j hj => by omega⟩
  case round =>
    obtain ⟨k, hk, rfl, rfl, rfl, hno⟩ := hrel
    by_cases hlt : k < F.length
    · obtain ⟨hbl, hkids⟩ := hO.are.is
      rcases hrow with h0 | ⟨kb, ko, rfl, hrw⟩
      · rw [h0] at hbl; simp at hbl; omega
      have hptr : wr.cell? ⟨kb, ko + k, none⟩ = some (.pointer (some ⟨bs.getD k 0, 0, none⟩)) := hrw k (by omega)
      have hkid := hkids k hlt
      obtain ⟨hop, hnl, _⟩ := re_cells hkid
      have HNA : Hid (RE.nullAll (F.take (k + 1)) = (RE.nullAll (F.take k) && (F.getD k RE.nothing).null)) := by
        show _ = _
        rw [RE.take_snoc F k hlt, RE.nullAll_snoc]
      have HZK : Hid ((F.getD k RE.nothing).op = 0 → R = RE.nothing) := fun h0 => by
        rw [HR.out, if_pos]
        exact List.any_eq_true.2 ⟨_, List.getElem_mem hlt, by simpa [List.getD, hlt] using h0⟩
      have HNO := Lib.hid hno
      have HRW := Lib.hid hrw
      have HOW := Lib.hid hO
      clear hkid hkids hbl hno hrw hO
      generalize bs.getD k 0 = bk at *
      by_cases h0 : (F.getD k RE.nothing).op = 0
      · have hT := Lib.hid (HZK.out h0)
        rw [h0] at hop
        go_wp2_with fail
        refine (Nothing_any _).mono ?_
        rintro e w2 ⟨b, rfl, h1, h2⟩
        go_wp2_with fail
        go_ret
        exact ⟨b, rfl, by rw [hT.out]; exact h1.is, ext_step HOW.out.bel h2⟩
      · have HNO' : Hid (∀ j, j < k + 1 → (F.getD j RE.nothing).op ≠ 0) := fun j hj => if h : j < k then HNO.out j h else by rw [show j = k by omega]; exact h0
        have h0' : (((F.getD k RE.nothing).op : Int) == 0) = false := by
          rw [beq_eq_false_iff_ne]; omega
        generalize hq : RE.nullAll (F.take k) = q at *
        clear hq
        generalize (F.getD k RE.nothing).null = nl at *
        generalize (F.getD k RE.nothing).op = o at *
        clear h0
        cases q with
        | false =>
          go_wp2_with fail
          go_roundw
          case rel => exact ⟨k + 1, by omega, by go_num, by rw [HNA.out]; rfl, rfl, HNO'.out⟩
          case measure => simp [intOf]; omega
        | true =>
          go_wp2_with fail
          go_roundw
          case rel => exact ⟨k + 1, by omega, by go_num, by rw [HNA.out]; rfl, rfl, HNO'.out⟩
          case measure => simp [intOf]; omega
    · obtain rfl : k = F.length := by omega
      rw [List.take_length]
      have HT : Hid (R = RE.bothOf F) := by
        show _ = _
        rw [HR.out, if_neg]
        intro ha
        obtain ⟨r, hr, hr0⟩ := List.any_eq_true.1 ha
        obtain ⟨j, hj, rfl⟩ := List.mem_iff_getElem.1 hr
        exact hno j hj (by simpa [List.getD, hj] using hr0)
      by_cases h0 : F.length = 0
      · have HT2 : Hid (R = RE.many (some (RE.one BS.all))) := by
          show _ = _
          rw [HT.out, List.length_eq_zero_iff.1 h0]; rfl
        rw [h0]
        have HB := Lib.hid hO.bel
        clear hO hrow hno
        go_wp2_with fail
        refine (All_any _).mono ?_
        rintro e w2 ⟨rfl, hb2⟩
        go_wp2_with fail
        refine (One_any fullW fullW fullW fullW _).mono ?_
        rintro e w3 ⟨b, rfl, h1, h2⟩
        have HMA := Lib.hid (Many_any (ptr b) (some (RE.one BS.all)) w3 ⟨b, rfl, h1.is⟩ (by have : RE.sizeO (some (RE.one BS.all)) = 1 := RE.one_size _; omega))
        have hB := ext_step (ext_step HB.out hb2) h2
        go_wp2_with fail
        refine HMA.out.mono ?_
        rintro e w4 ⟨b', rfl, h3, h4⟩
        go_wp2_with fail
        go_ret
        exact ⟨b', rfl, by rw [HT2.out]; exact h3, ext_step hB h4⟩
      · rcases hrow with h1 | ⟨kb, ko, rfl, hrw⟩
        · have := hO.are.1; rw [h1] at this; simp at this; omega
        by_cases h1 : F.length = 1
        · match F, h1 with
          | [x], _ =>
          have HT2 : Hid (R = x) := by show _ = _; rw [HT.out]; rfl
          obtain ⟨b0, hptr, hp⟩ := head_of hO hrw
          have HP := Lib.hid hp
          clear hp hO hrw hno
          go_wp2_with fail
          go_ret
          rw [HT2.out]
          exact HP.out
        · have HT2 : Hid (R = RE.node 6 BS.none F) := by
            show _ = _
            rw [HT.out]
            match F, h0, h1 with
            | x :: y :: z, _, _ => rfl
          have HM := Lib.hid (made_zero 6 (by omega) (by omega) (RE.nullAll F) (some ⟨kb, ko, none⟩) cap1 bs F wr (.inr ⟨kb, ko, rfl, hrw⟩) hO.are.is (by simp [RE.null]) (by omega))
          have h0' : ((F.length : Int) == 0) = false := by rw [beq_eq_false_iff_ne]; omega
          have h1' : ((F.length : Int) == 1) = false := by rw [beq_eq_false_iff_ne]; omega
          have HOW := Lib.hid hO
          have HRW := Lib.hid hrw
          clear hO hrw h0 h1 hno
          go_wp2_with fail
          refine HM.out.mono ?_
          rintro e w3 ⟨b, rfl, h3, h4, h5⟩
          go_wp2_with fail
          go_ret
          rw [HT2.out]
          exact node_of HOW.out (.inr ⟨kb, ko, rfl, HRW.out⟩) h4 h5
set_option maxRecDepth 100000 in
set_option maxHeartbeats 4000000 in
theorem Then_any (kp : Option Addr) (cap : Nat) (l : List (Option RE)) (w : World) (hl : ListO w kp l) (hnf : RE.nfO l) (hsz : RE.sizes (RE.flat 3 l) ≤ 1099511627775) (hln : l.length ≤ 1099511627776) :
    Calls Tryz.prog 18 #[.slice kp l.length cap] w (RePost w (RE.thenL l)) := by
  have hlen := RE.len_sizes (RE.flat 3 l)
  have HF := Lib.hid (flat_any 3 kp cap l w hl (RE.flat_ne (by omega) hnf) (by omega) hln)
  have HR : Hid (RE.thenL l = if ((RE.flat 3 l).filter fun r => !(r.op == 1)).any (fun r => r.op == 0) then RE.nothing else RE.seqL ((RE.flat 3 l).filter fun r => !(r.op == 1))) := rfl
  clear hl hnf
  generalize RE.thenL l = R at *
  generalize RE.flat 3 l = J at *
  have hfs := RE.sizes_filter J (fun r => !(r.op == 1))
  have hfl := RE.len_sizes (J.filter fun r => !(r.op == 1))
  go_enter Tryz.func18, Tryz.ntmps18
  go_wp2_with fail
  refine HF.out.mono ?_
  rintro e w0 ⟨v0, bs0, rfl, hO0⟩
  have HD := Lib.hid (Del_own 62 (fun r => r.op == 1) isEps (enters_of Tryz.func62 (by kernel_rfl) rfl) v0 bs0 J w w0 hO0 (by omega))
  clear hO0
  generalize (J.filter fun r => !(r.op == 1)) = F at *
  go_wp2_with fail
  refine HD.out.mono ?_
  rintro e w1 ⟨v1, bs, rfl, hO⟩
  obtain ⟨kp1, cap1, rfl, hrow, _⟩ := hO.row
  go_wp2_with fail
  go_loopw [4, 12] (fun v i wr => ThenAt w1 F v i wr) (fun _ i _ => F.length - (intOf i).toNat)
  case atStart => exact ⟨0, by omega, rfl, rfl, rfl, fun j hj => by omega⟩
  case round =>
    obtain ⟨k, hk, rfl, rfl, rfl, hno⟩ := hrel
    by_cases hlt : k < F.length
    · obtain ⟨hbl, hkids⟩ := hO.are.is
      rcases hrow with h0 | ⟨kb, ko, rfl, hrw⟩
      · rw [h0] at hbl; simp at hbl; omega
      have hptr : wr.cell? ⟨kb, ko + k, none⟩ = some (.pointer (some ⟨bs.getD k 0, 0, none⟩)) := hrw k (by omega)
      have hkid := hkids k hlt
      obtain ⟨hop, hnl, _⟩ := re_cells hkid
      have HNA : Hid (RE.nullAll (F.take (k + 1)) = (RE.nullAll (F.take k) && (F.getD k RE.nothing).null)) := by
        show _ = _
        rw [RE.take_snoc F k hlt, RE.nullAll_snoc]
      have HZK : Hid ((F.getD k RE.nothing).op = 0 → R = RE.nothing) := fun h0 => by
        rw [HR.out, if_pos]
        exact List.any_eq_true.2 ⟨_, List.getElem_mem hlt, by simpa [List.getD, hlt] using h0⟩
      have HNO := Lib.hid hno
      have HRW := Lib.hid hrw
      have HOW := Lib.hid hO
      clear hkid hkids hbl hno hrw hO
      generalize bs.getD k 0 = bk at *
      by_cases h0 : (F.getD k RE.nothing).op = 0
      · have hT := Lib.hid (HZK.out h0)
        rw [h0] at hop
        go_wp2_with fail
        refine (Nothing_any _).mono ?_
        rintro e w2 ⟨b, rfl, h1, h2⟩
        go_wp2_with fail
        go_ret
        exact ⟨b, rfl, by rw [hT.out]; exact h1.is, ext_step HOW.out.bel h2⟩
      · have HNO' : Hid (∀ j, j < k + 1 → (F.getD j RE.nothing).op ≠ 0) := fun j hj => if h : j < k then HNO.out j h else by rw [show j = k by omega]; exact h0
        have h0' : (((F.getD k RE.nothing).op : Int) == 0) = false := by
          rw [beq_eq_false_iff_ne]; omega
        generalize hq : RE.nullAll (F.take k) = q at *
        clear hq
        generalize (F.getD k RE.nothing).null = nl at *
        generalize (F.getD k RE.nothing).op = o at *
        clear h0
        cases q with
        | false =>
          go_wp2_with fail
          go_roundw
          case rel => exact ⟨k + 1, by omega, by go_num, by rw [HNA.out]; rfl, rfl, HNO'.out⟩
          case measure => simp [intOf]; omega
        | true =>
          go_wp2_with fail
          go_roundw
          case rel => exact ⟨k + 1, by omega, by go_num, by rw [HNA.out]; rfl, rfl, HNO'.out⟩
          case measure => simp [intOf]; omega
    · obtain rfl : k = F.length := by omega
      rw [List.take_length]
      have HT : Hid (R = RE.seqL F) := by
        show _ = _
        rw [HR.out, if_neg]
        intro ha
        obtain ⟨r, hr, hr0⟩ := List.any_eq_true.1 ha
        obtain ⟨j, hj, rfl⟩ := List.mem_iff_getElem.1 hr
        exact hno j hj (by simpa [List.getD, hj] using hr0)
      by_cases h0 : F.length = 0
      · have HT2 : Hid (R = RE.empty) := by
          show _ = _
          rw [HT.out, List.length_eq_zero_iff.1 h0]; rfl
        rw [h0]
        have HB := Lib.hid hO.bel
        clear hO hrow hno
        go_wp2_with fail
        refine (EmptyRe_any _).mono ?_
        rintro e w3 ⟨b, rfl, h1, h2⟩
        go_wp2_with fail
        go_ret
        exact ⟨b, rfl, by rw [HT2.out]; exact h1.is, ext_step HB.out h2⟩
      · rcases hrow with h1 | ⟨kb, ko, rfl, hrw⟩
        · have := hO.are.1; rw [h1] at this; simp at this; omega
        by_cases h1 : F.length = 1
        · match F, h1 with
          | [x], _ =>
          have HT2 : Hid (R = x) := by show _ = _; rw [HT.out]; rfl
          obtain ⟨b0, hptr, hp⟩ := head_of hO hrw
          have HP := Lib.hid hp
          clear hp hO hrw hno
          go_wp2_with fail
          go_ret
          rw [HT2.out]
          exact HP.out
        · have HT2 : Hid (R = RE.node 3 BS.none F) := by
            show _ = _
            rw [HT.out]
            match F, h0, h1 with
            | x :: y :: z, _, _ => rfl
          have HM := Lib.hid (made_zero 3 (by omega) (by omega) (RE.nullAll F) (some ⟨kb, ko, none⟩) cap1 bs F wr (.inr ⟨kb, ko, rfl, hrw⟩) hO.are.is (by simp [RE.null]) (by omega))
          have h0' : ((F.length : Int) == 0) = false := by rw [beq_eq_false_iff_ne]; omega
          have h1' : ((F.length : Int) == 1) = false := by rw [beq_eq_false_iff_ne]; omega
          have HOW := Lib.hid hO
          have HRW := Lib.hid hrw
          clear hO hrw h0 h1 hno
          go_wp2_with fail
          refine HM.out.mono ?_
          rintro e w3 ⟨b, rfl, h3, h4, h5⟩
          go_wp2_with fail
          go_ret
          rw [HT2.out]
          exact node_of HOW.out (.inr ⟨kb, ko, rfl, HRW.out⟩) h4 h5
end Go.Proofs.YtgamknphlmcgnaaGreatDoor
