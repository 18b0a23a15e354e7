/-
  Expressions as they are written, walked through the program: whatever expression in its normal form. What the lexer reads, plain: tokens that lie one behind the other within the text, or an error within it.
-/
import Derived.Deep.DeepCutAuto
import Derived.Test.YtgamknphlmcgnaaGreatDoorZlA
import Derived.Test.YtgamknphlmcgnaaGreatDoorZlB
import Derived.Test.YtgamknphlmcgnaaGreatDoorZlC
import Derived.Test.YtgamknphlmcgnaaGreatDoorZlD
import Derived.Test.YtgamknphlmcgnaaGreatDoorZlE
import Derived.Test.YtgamknphlmcgnaaGreatDoorZlF
section
set_option linter.unusedSimpArgs false
set_option linter.unusedVariables false
set_option maxRecDepth 100000
set_option linter.unnecessarySimpa false
namespace Go.Proofs.YtgamknphlmcgnaaGreatDoor
open Go.RowKit
theorem txlevel_any (o : Nat) (ho : o < 8) (w : World) : Calls Tryz.prog 116 #[.int .i64 o] w fun e w' => e = .returned (.int .i64 (RE.lvl o : Nat)) ∧ w' = w := by
  have h : o = 0 ∨ o = 1 ∨ o = 2 ∨ o = 3 ∨ o = 4 ∨ o = 5 ∨ o = 6 ∨ o = 7 := by omega
  rcases h with rfl | rfl | rfl | rfl | rfl | rfl | rfl | rfl
  all_goals
    go_enter Tryz.func116, Tryz.ntmps116
    go_wp2
    go_ret
    exact ⟨rfl, rfl⟩
/-- what a call for a text gives -/
def StrPost (l : List UInt8) (w : World) (e : Ending) (w' : World) : Prop := e = .returned (.string ⟨l.toArray⟩) ∧ Below w.heap.size w w'
set_option maxRecDepth 100000 in
set_option maxHeartbeats 2000000 in
theorem txin_any (b at_ : Nat) (hat : at_ ≤ 5) (r : RE) (ho : r.op < 8) (w : World) (hr : IsRe w b r) (hlen : (RE.ofW r).length ≤ 140737488355000) (hOf : ∀ W, Below w.heap.size w W → Calls Tryz.prog 20 #[ptr b] W (StrPost (RE.ofW r) W)) :
    Calls Tryz.prog 66 #[ptr b, .int .i64 at_] w (StrPost (RE.inW at_ r) w) := by
  obtain ⟨kp1, cap1, bs1, hnode, _, _⟩ := hr.open
  have hop : w.cell? ⟨b, 0, none⟩ = some (.int .i64 (r.op : Nat)) := by rw [cell_of_row _ _ _ _ _ _ hnode]; rfl
  have HL := Lib.hid (txlevel_any r.op ho w)
  have HO := Lib.hid (hOf w (Below.refl _ _))
  have HI : Hid (RE.inW at_ r = if RE.lvl r.op < at_ then [40] ++ RE.ofW r ++ [41] else RE.ofW r) := rfl
  clear hnode hr hOf
  generalize RE.ofW r = l at *
  generalize RE.inW at_ r = out at *
  generalize RE.lvl r.op = lv at *
  by_cases hlt : lv < at_
  · have HE : Hid (out = [40] ++ l ++ [41]) := by show _ = _; rw [HI.out, if_pos hlt]
    have hlt' : (lv : Int) < (at_ : Int) := by omega
    go_enter Tryz.func66, Tryz.ntmps66
    go_wp2_with fail
    refine HL.out.mono ?_
    rintro e w' ⟨rfl, rfl⟩
    go_wp2_with fail
    refine HO.out.mono ?_
    rintro e w1 ⟨rfl, hb⟩
    go_wp2_with fail
    go_ret
    exact ⟨congrArg (fun s => Ending.returned (.string s)) (ByteArray.ext (by rw [HE.out]; simp)), hb⟩
  · have HE : Hid (out = l) := by show _ = _; rw [HI.out, if_neg hlt]
    have hlt' : ¬ (lv : Int) < (at_ : Int) := by omega
    go_enter Tryz.func66, Tryz.ntmps66
    go_wp2_with fail
    refine HL.out.mono ?_
    rintro e w' ⟨rfl, rfl⟩
    go_wp2_with fail
    refine HO.out.mono ?_
    rintro e w1 ⟨rfl, hb⟩
    go_wp2_with fail
    go_ret
    exact ⟨by rw [HE.out]; rfl, hb⟩
theorem infoStr' : (Tryz.prog.info? 9).map (fun i => (i.zero, i.size, i.bytes)) = some (some (.string ⟨#[]⟩), 1, 16) := by kernel_rfl
/-- texts in a row of one's own -/
structure OwnS (w : World) (ps : List (List UInt8)) (v : Value) (wr : World) : Prop where
  own : wr.ownsRow w.heap.size 9 1 v ps.length (ps.map strV)
  bel : Below w.heap.size w wr
theorem OwnS.later {w wr wr' : World} {ps : List (List UInt8)} {v : Value} (h : OwnS w ps v wr) (hb : Below wr.heap.size wr wr') : OwnS w ps v wr' :=
  ⟨h.own.kept (re_grownBy hb) (by cases v.ownBlock <;> simp), ext_step h.bel hb⟩
theorem OwnS.appended {w Wa W' : World} {ps : List (List UInt8)} {v : Value} {k : List UInt8} {g cp : Nat} (h : OwnS w ps v Wa)
   (hown : W'.ownsRow w.heap.size 9 1 (.slice (some ⟨g, 0, none⟩) (ps.length + 1) cp) (ps.length + 1) (ps.map strV ++ [strV k])) (hg : Wa.grownBy W' v.ownBlock) :
    OwnS w (ps ++ [k]) (.slice (some ⟨g, 0, none⟩) (ps.length + 1) cp) W' :=
  ⟨by simpa using hown, h.bel.grown hg h.bel.size (fun k e => (h.own.lt k e).1)⟩
theorem OwnS.nil (w : World) : OwnS w [] (.slice none 0 0) w := ⟨World.ownsRow_nil _ _ _ _, Below.refl _ _⟩
/-- joined -/
theorem OwnS.join {w wr : World} {ps : List (List UInt8)} {v : Value} (h : OwnS w ps v wr) (hne : ps ≠ []) (sep : List UInt8) (hn : ps.length ≤ 1099511627776) (hlen : (Lib.join ps sep).length ≤ 140737488355328) :
    Calls Tryz.prog 90 #[v, .string ⟨sep.toArray⟩] wr (StrPost (Lib.join ps sep) wr) := by
  rcases h.own.2 with ⟨_, h0⟩ | ⟨g, cp, cur, rfl, hgB, hgb, hnc, _, _, _⟩
  · exact absurd (List.length_eq_zero_iff.1 h0) hne
  have hJ := Join_any g 0 cp (ps.map fun l => ⟨l.toArray⟩) ⟨sep.toArray⟩ wr (fun j x hx => by
    rw [Nat.zero_add, h.own.cellAt j (by have := (List.getElem?_eq_some_iff.1 hx).1; simpa using this)]
    simp at hx ⊢
    obtain ⟨y, h1, h2⟩ := hx
    exact ⟨y, h1, by rw [← h2]; rfl⟩) (Array.getElem?_eq_some_iff.1 hgb).1 (by simp; omega) (by simpa using hnc) (by simpa [Function.comp_def] using hlen)
  simp only [List.length_map, List.map_map, Function.comp_def, List.map_id'] at hJ
  exact hJ
def AllAt (w : World) (at_ : Nat) (ks : List RE) (v i : Value) (wr : World) : Prop := ∃ k : Nat, k ≤ ks.length ∧ i = .int .i64 k ∧ OwnS w ((ks.take k).map (RE.inW at_)) v wr
set_option maxRecDepth 100000 in
set_option maxHeartbeats 4000000 in
theorem txall_any (at_ : Nat) (hat : at_ ≤ 5) (sep : List UInt8) (kp : Option Addr) (cap : Nat) (bs : List Nat) (ks : List RE) (hne : ks ≠ []) (w : World) (hr : PtrsAt w kp bs) (hk : AreRe w bs ks) (hn : ks.length ≤ 1073741824) (hlen : (Lib.join (ks.map (RE.inW at_)) sep).length ≤ 140737488355000)
   (hin : ∀ j, j < ks.length → ∀ W, Below w.heap.size w W → Calls Tryz.prog 66 #[ptr (bs.getD j 0), .int .i64 at_] W (StrPost (RE.inW at_ (ks.getD j RE.nothing)) W)) :
    Calls Tryz.prog 65 #[.slice kp ks.length cap, .string ⟨sep.toArray⟩, .int .i64 at_] w (StrPost (Lib.join (ks.map (RE.inW at_)) sep) w) := by
  have HR := Lib.hid hr
  have hbl := hk.1
  have HIN := Lib.hid hin
  have HNE := Lib.hid hne
  have HBL := Lib.hid hbl
  obtain ⟨i0, hi, hz0, hz1, hz2⟩ := info_parts infoStr'
  have HI := Lib.hid hi; have HZ0 := Lib.hid hz0; have HZ1 := Lib.hid hz1; have HZ2 := Lib.hid hz2
  clear hr hk hin hne hbl hi hz0 hz1 hz2
  go_enter Tryz.func65, Tryz.ntmps65
  go_wp2_with fail
  go_loopw [7, 12] (fun v i wr => AllAt w at_ ks v i wr) (fun _ i _ => ks.length - (intOf i).toNat)
  case atStart => exact ⟨0, by omega, rfl, OwnS.nil w⟩
  case round =>
    obtain ⟨k, hk, rfl, hW⟩ := hrel
    by_cases hlt : k < ks.length
    · rcases HR.out with h0 | ⟨kb, ko, rfl, hrow⟩
      · have := HBL.out; rw [h0] at this; simp at this; omega
      have hptr : w.cell? ⟨kb, ko + k, none⟩ = some (.pointer (some ⟨bs.getD k 0, 0, none⟩)) := hrow k (by rw [HBL.out]; exact hlt)
      have hkbl := World.block_lt_of_cell? w _ hptr
      rw [← hW.bel.cell (p := ⟨kb, ko + k, none⟩) hkbl] at hptr
      have HC := Lib.hid (HIN.out k hlt wr hW.bel)
      have HNX : Hid ((ks.take (k + 1)).map (RE.inW at_) = (ks.take k).map (RE.inW at_) ++ [RE.inW at_ (ks.getD k RE.nothing)]) := by
        show _ = _
        rw [RE.take_snoc ks k hlt, List.map_append]; rfl
      have hpl : ((ks.take k).map (RE.inW at_)).length ≤ 1073741824 := by simp; omega
      generalize (ks.take k).map (RE.inW at_) = ps at *
      generalize RE.inW at_ (ks.getD k RE.nothing) = t at *
      generalize bs.getD k 0 = b at *
      have HW := Lib.hid hW
      clear hrow hW
      go_wp2_with fail
      refine HC.out.mono ?_
      rintro e w1 ⟨rfl, hb1⟩
      have hW1 := HW.out.later hb1
      go_wp2_with (at_builtin; refine wpList_append_lies _ rfl _ _ _ rfl w.heap.size 9 i0 _ 1 16 Tryz.underlying50 HI.out HZ0.out HZ1.out HZ2.out rfl (by omega) u7 ps.length (ps.map strV) rfl (hW1.own.alloc _) ⟨w1.heap.size, 0, none⟩ 1 1 [strV t] rfl rfl (World.news_of_block (cs := #[strV t]) (t := 9) (fr := (0, 0)) (heap_alloc_last w1 _)) (strV_one [t]) (by omega) (by unfold maxLen; omega) (by omega) (by have := hW1.bel.size; simp; omega) (w1.heap.size + 1) (by simp) ?_; intro g5 cp5 W9 hown9 hg9 hat9 hlt9)
      have hW9 := (hW1.later (re_alloc w1 _)).appended hown9 hg9
      rw [← HNX.out] at hW9
      have HW9 := Lib.hid hW9
      clear hW9 hown9 hg9 hat9 hW1
      go_wp2
      go_roundw
      case rel => exact ⟨k + 1, by omega, by go_num, HW9.out⟩
      case measure => simp [intOf]; omega
    · obtain rfl : k = ks.length := by omega
      rw [List.take_length] at hW
      have HJ := Lib.hid (hW.join (by simpa using HNE.out) sep (by simp; omega) (by omega))
      have HB := Lib.hid hW.bel
      clear hW
      generalize Lib.join (ks.map (RE.inW at_)) sep = out at *
      go_wp2_with fail
      refine HJ.out.mono ?_
      rintro e w1 ⟨rfl, hb1⟩
      go_wp2_with fail
      go_ret
      exact ⟨rfl, ext_step HB.out hb1⟩
theorem ofW_node (o : Nat) (s : BS) (ks : List RE) : RE.ofW (RE.node o s ks) = if o = 1 then [40, 41] else if o = 2 then classW s else if o = 3 then Lib.join (RE.insW 4 ks) [] else if o = 4 then Lib.join (RE.insW 1 ks) [124] else if o = 6 then Lib.join (RE.insW 3 ks) [38] else if o = 7 then RE.butW ks else if o = 5 then RE.starW ks else [91, 93] := by rw [RE.ofW]
theorem RE.mem_sizes {l : List RE} {r : RE} (h : r ∈ l) : r.size ≤ RE.sizes l := by
  induction l with
  | nil => simp at h
  | cons a l ih =>
    rcases List.mem_cons.1 h with rfl | h
    · simp [RE.sizes]
    · have := ih h; simp [RE.sizes]; omega
theorem inW_len (at_ : Nat) (r : RE) : (RE.inW at_ r).length ≤ 2404 * r.size := by
  have := RE.ofW_len r
  unfold RE.inW
  split <;> (try simp only [List.length_append, List.length_cons, List.length_nil]) <;> omega
theorem joinW_len (at_ : Nat) (l : List RE) (sep : List UInt8) (hs : sep.length ≤ 1) : (Lib.join (l.map (RE.inW at_)) sep).length ≤ 2404 * RE.sizes l := by
  rw [← RE.insW_map]
  have h1 := RE.join_len_le (RE.insW at_ l) sep
  have h2 := RE.insW_len at_ l
  have e : ∀ (l : List (List UInt8)), (l.map fun x => x.length + sep.length).sum ≤ (l.map fun x => x.length + 1).sum := by
    intro l
    induction l with
    | nil => simp
    | cons x l ih => simp; omega
  have := e (RE.insW at_ l)
  omega
set_option maxRecDepth 100000 in
set_option maxHeartbeats 4000000 in
theorem txOf_step (r : RE) (hnf : RE.nf r) (hsz : r.size ≤ 1073741824) (ih : ∀ k ∈ r.kids, ∀ (w : World) (b : Nat), Tab w → IsRe w b k → Calls Tryz.prog 20 #[ptr b] w (StrPost (RE.ofW k) w)) (w : World) (b : Nat) (hT : Tab w) (hr : IsRe w b r) :
    Calls Tryz.prog 20 #[ptr b] w (StrPost (RE.ofW r) w) := by
  obtain ⟨o, s, ks⟩ := r
  obtain ⟨kp, cap, bs, hnode, hptr, hks⟩ := hr.open
  have hop : w.cell? ⟨b, 0, none⟩ = some (.int .i64 (o : Nat)) := by rw [cell_of_row _ _ _ _ _ _ hnode]; rfl
  have hkc : w.cell? ⟨b, 1 + 4, none⟩ = some (.slice kp ks.length cap) := by rw [cell_of_row _ _ _ _ _ _ hnode]; rfl
  have hset : (w.cell? ⟨b, 1, none⟩ = some (.int .u64 (wN s.a)) ∧ w.cell? ⟨b, 1 + 1, none⟩ = some (.int .u64 (wN s.b)) ∧ w.cell? ⟨b, 1 + 2, none⟩ = some (.int .u64 (wN s.c)) ∧ w.cell? ⟨b, 1 + 3, none⟩ = some (.int .u64 (wN s.d))) :=
    ⟨by rw [cell_of_row _ _ _ _ _ _ hnode]; rfl, by rw [cell_of_row _ _ _ _ _ _ hnode]; rfl, by rw [cell_of_row _ _ _ _ _ _ hnode]; rfl, by rw [cell_of_row _ _ _ _ _ _ hnode]; rfl⟩
  have hnf' := RE.nf_node.1 hnf
  have htop := hnf'.1
  unfold RE.nfTop at htop
  have hks' : ∀ j, j < ks.length → IsRe w (bs.getD j 0) (ks.getD j RE.nothing) := hks.2
  change AreRe w bs ks at hks
  have hszk : RE.sizes ks ≤ 1073741823 := by simp only [RE.size] at hsz; omega
  have hkl := RE.len_sizes ks
  have hin : ∀ (at_ : Nat), at_ ≤ 5 → ∀ j, j < ks.length → ∀ W, Below w.heap.size w W → Calls Tryz.prog 66 #[ptr (bs.getD j 0), .int .i64 at_] W (StrPost (RE.inW at_ (ks.getD j RE.nothing)) W) := fun at_ hat j hj W hb => by
    have hmem : ks.getD j RE.nothing ∈ ks := by simp [List.getD, hj]
    have hkn := hnf'.2 _ hmem
    have hol : (ks.getD j RE.nothing).op < 8 := (RE.nf_top hkn).1
    have hsl := RE.ofW_len (ks.getD j RE.nothing)
    have hms := RE.mem_sizes hmem
    have hre := (hks' j hj).later (Nat.le_refl _) hb
    refine txin_any _ at_ hat _ hol W hre (by omega) fun W' hb' => ?_
    exact ih _ hmem W' _ ((hT.later hb).later hb') (hre.later (Nat.le_refl _) hb')
  have HIN := Lib.hid hin
  have HP := Lib.hid hptr
  have HK := Lib.hid hks
  have HOF := Lib.hid (ofW_node o s ks)
  clear hin hptr hks hks' ih hnode hr hnf hnf'
  generalize RE.ofW (RE.node o s ks) = out at *
  have ho : o = 0 ∨ o = 1 ∨ o = 2 ∨ o = 3 ∨ o = 4 ∨ o = 5 ∨ o = 6 ∨ o = 7 := by omega
  rcases ho with rfl | rfl | rfl | rfl | rfl | rfl | rfl | rfl
  · -- nothing
    have HE : Hid (out = [91, 93]) := by show _ = _; rw [HOF.out]; rfl
    clear htop hset hkc
    go_enter Tryz.func20, Tryz.ntmps20
    go_wp2_with fail
    go_ret
    exact ⟨by rw [HE.out]; rfl, Below.refl _ _⟩
  · have HE : Hid (out = [40, 41]) := by show _ = _; rw [HOF.out]; rfl
    clear htop hset hkc
    go_enter Tryz.func20, Tryz.ntmps20
    go_wp2_with fail
    go_ret
    exact ⟨by rw [HE.out]; rfl, Below.refl _ _⟩
  · have HE : Hid (out = classW s) := by show _ = _; rw [HOF.out]; rfl
    obtain ⟨s0, s1, s2, s3⟩ := s
    obtain ⟨c0, c1, c2, c3⟩ := hset
    dsimp only at c0 c1 c2 c3
    have HC := Lib.hid (class_any s0 s1 s2 s3 w hT (BS.least_lt _))
    clear htop hkc
    generalize classW ⟨s0, s1, s2, s3⟩ = cw at *
    go_enter Tryz.func20, Tryz.ntmps20
    go_wp2_with fail
    refine HC.out.mono ?_
    rintro e w1 ⟨rfl, hb1⟩
    go_wp2_with fail
    go_ret
    exact ⟨by rw [HE.out]; rfl, hb1⟩
  · have hne : ks ≠ [] := fun e => by rw [e] at htop; simp at htop
    have HE : Hid (out = Lib.join (ks.map (RE.inW 4)) []) := by show _ = _; rw [HOF.out, ← RE.insW_map]; rfl
    have HA := Lib.hid (txall_any 4 (by omega) [] kp cap bs ks hne w HP.out HK.out (by omega) (by have := joinW_len 4 ks [] (by simp); omega) (HIN.out 4 (by omega)))
    clear htop hset hne
    go_enter Tryz.func20, Tryz.ntmps20
    go_wp2_with fail
    refine HA.out.mono ?_
    rintro e w1 ⟨rfl, hb1⟩
    go_wp2_with fail
    go_ret
    exact ⟨by rw [HE.out]; rfl, hb1⟩
  · have hne : ks ≠ [] := fun e => by rw [e] at htop; simp at htop
    have HE : Hid (out = Lib.join (ks.map (RE.inW 1)) [124]) := by show _ = _; rw [HOF.out, ← RE.insW_map]; rfl
    have HA := Lib.hid (txall_any 1 (by omega) [124] kp cap bs ks hne w HP.out HK.out (by omega) (by have := joinW_len 1 ks [124] (by simp); omega) (HIN.out 1 (by omega)))
    clear htop hset hne
    go_enter Tryz.func20, Tryz.ntmps20
    go_wp2_with fail
    refine HA.out.mono ?_
    rintro e w1 ⟨rfl, hb1⟩
    go_wp2_with fail
    go_ret
    exact ⟨by rw [HE.out]; rfl, hb1⟩
  · -- star
    obtain ⟨k, rfl, _⟩ := htop.2.2.2.2.2.2.1 rfl
    have hbl := HK.out.1
    rcases HP.out with h0 | ⟨kb, ko, rfl, hrow⟩
    · rw [h0] at hbl; simp at hbl
    have hp0 : w.cell? ⟨kb, ko, none⟩ = some (.pointer (some ⟨bs.getD 0 0, 0, none⟩)) := by have := hrow 0 (by rw [hbl]; simp); simpa using this
    have HI0 : Hid (Calls Tryz.prog 66 #[ptr (bs.getD 0 0), .int .i64 5] w (StrPost (RE.inW 5 k) w)) := HIN.out 5 (by omega) 0 (by simp) w (Below.refl _ _)
    have HE : Hid (out = RE.inW 5 k ++ [42]) := by show _ = _; rw [HOF.out]; rfl
    have hil := inW_len 5 k
    have hkz : k.size ≤ 1073741823 := by simpa [RE.sizes] using hszk
    clear htop hset hrow hbl HP HK HIN
    generalize bs.getD 0 0 = b0 at *
    generalize RE.inW 5 k = l at *
    go_enter Tryz.func20, Tryz.ntmps20
    go_wp2_with fail
    refine HI0.out.mono ?_
    rintro e w1 ⟨rfl, hb1⟩
    go_wp2_with fail
    go_ret
    exact ⟨congrArg (fun s => Ending.returned (.string s)) (ByteArray.ext (by rw [HE.out]; simp)), hb1⟩
  · have hne : ks ≠ [] := fun e => by rw [e] at htop; simp at htop
    have HE : Hid (out = Lib.join (ks.map (RE.inW 3)) [38]) := by show _ = _; rw [HOF.out, ← RE.insW_map]; rfl
    have HA := Lib.hid (txall_any 3 (by omega) [38] kp cap bs ks hne w HP.out HK.out (by omega) (by have := joinW_len 3 ks [38] (by simp); omega) (HIN.out 3 (by omega)))
    clear htop hset hne
    go_enter Tryz.func20, Tryz.ntmps20
    go_wp2_with fail
    refine HA.out.mono ?_
    rintro e w1 ⟨rfl, hb1⟩
    go_wp2_with fail
    go_ret
    exact ⟨by rw [HE.out]; rfl, hb1⟩
  · obtain ⟨x, y, rfl, _⟩ := htop.2.2.2.2.2.2.2.2 rfl
    have hbl := HK.out.1
    rcases HP.out with h0 | ⟨kb, ko, rfl, hrow⟩
    · rw [h0] at hbl; simp at hbl
    have hp0 : w.cell? ⟨kb, ko, none⟩ = some (.pointer (some ⟨bs.getD 0 0, 0, none⟩)) := by have := hrow 0 (by rw [hbl]; simp); simpa using this
    have hp1 : w.cell? ⟨kb, ko + 1, none⟩ = some (.pointer (some ⟨bs.getD 1 0, 0, none⟩)) := hrow 1 (by rw [hbl]; simp)
    have HI0 : Hid (∀ W, Below w.heap.size w W → Calls Tryz.prog 66 #[ptr (bs.getD 0 0), .int .i64 1] W (StrPost (RE.inW 1 x) W)) := HIN.out 1 (by omega) 0 (by simp)
    have HI1 : Hid (∀ W, Below w.heap.size w W → Calls Tryz.prog 66 #[ptr (bs.getD 1 0), .int .i64 2] W (StrPost (RE.inW 2 y) W)) := HIN.out 2 (by omega) 1 (by simp)
    have HE : Hid (out = RE.inW 1 x ++ [45] ++ RE.inW 2 y) := by show _ = _; rw [HOF.out]; rfl
    have hil := inW_len 1 x
    have hjl := inW_len 2 y
    have hkz : x.size + y.size ≤ 1073741823 := by simpa [RE.sizes] using hszk
    clear htop hset hrow hbl HP HK HIN
    generalize bs.getD 0 0 = b0 at *
    generalize bs.getD 1 0 = b1 at *
    generalize RE.inW 1 x = l0 at *
    generalize RE.inW 2 y = l1 at *
    obtain ⟨S, hS⟩ : ∃ S : World → Prop, ∀ W', S W' ↔ Below w.heap.size w W' := ⟨_, fun _ => Iff.rfl⟩
    have HS := Lib.hid hS
    have cs : ∀ p : InC S, p.w.cell? ⟨b, 1 + 4, none⟩ = some (.slice (some ⟨kb, ko, none⟩) 2 cap) ∧ p.w.cell? ⟨kb, ko, none⟩ = some (.pointer (some ⟨b0, 0, none⟩)) ∧ p.w.cell? ⟨kb, ko + 1, none⟩ = some (.pointer (some ⟨b1, 0, none⟩)) := fun p => by
      have hb := (hS p.w).1 p.h
      exact ⟨by rw [hb.cell (p := ⟨b, 1 + 4, none⟩) (World.block_lt_of_cell? w _ hkc)]; exact hkc, by rw [hb.cell (p := ⟨kb, ko, none⟩) (World.block_lt_of_cell? w _ hp0)]; exact hp0, by rw [hb.cell (p := ⟨kb, ko + 1, none⟩) (World.block_lt_of_cell? w _ hp1)]; exact hp1⟩
    have hS0 : S w.drew := (hS _).2 (Below.refl _ _).drew
    have hne : Nonempty (InC S) := ⟨⟨_, hS0⟩⟩
    have HC0 : Hid (∀ p : InC S, Calls Tryz.prog 66 #[.pointer (some ⟨b0, 0, none⟩), .int .i64 1] p.w fun e w' => e = .returned (.string ⟨l0.toArray⟩) ∧ ∃ q : InC S, w' = q.w) := fun p => (HI0.out p.w ((hS _).1 p.h)).mono fun e w' ⟨he, hb⟩ => ⟨he, ⟨w', (hS _).2 (ext_step ((hS _).1 p.h) hb)⟩, rfl⟩
    have HC1 : Hid (∀ p : InC S, Calls Tryz.prog 66 #[.pointer (some ⟨b1, 0, none⟩), .int .i64 2] p.w fun e w' => e = .returned (.string ⟨l1.toArray⟩) ∧ ∃ q : InC S, w' = q.w) := fun p => (HI1.out p.w ((hS _).1 p.h)).mono fun e w' ⟨he, hb⟩ => ⟨he, ⟨w', (hS _).2 (ext_step ((hS _).1 p.h) hb)⟩, rfl⟩
    clear hS
    go_enter Tryz.func20, Tryz.ntmps20
    go_wp2_with fail
    clear hop hkc hp0 hp1
    refine wp_region_class S (by kernel_rfl) (by kernel_rfl) hS0 ?_
    repeat (go_big_quiet_step (first | (with_reducible exact HC0.out _) | (with_reducible exact HC1.out _) | (refine (HC0.out _).mono ?_; rintro e W' ⟨rfl, q, rfl⟩; exact ⟨rfl, q, rfl⟩)))
    refine wpQuiet_nil ?_
    intro p
    have hb := (HS.out p.w).1 p.h
    go_wp2
    go_ret
    exact ⟨congrArg (fun s => Ending.returned (.string s)) (ByteArray.ext (by rw [HE.out]; simp)), hb⟩
theorem txOf_any : ∀ (n : Nat) (r : RE), r.size ≤ n → RE.nf r → r.size ≤ 1073741824 → ∀ (w : World) (b : Nat), Tab w → IsRe w b r → Calls Tryz.prog 20 #[ptr b] w (StrPost (RE.ofW r) w)
  | 0, r, hn, _, _, _, _, _, _ => by have := RE.size_pos r; omega
  | n + 1, r, hn, hnf, hsz, w, b, hT, hr => txOf_step r hnf hsz (fun k hk w' b' hT' hr' => by
    have hms := RE.mem_sizes hk
    have hs : r.size = 1 + RE.sizes r.kids := by cases r; rw [RE.size]; rfl
    exact txOf_any n k (by omega) (RE.nf_kids hnf k hk) (by omega) w' b' hT' hr') w b hT hr
/-- an expression as it is written, a nil pointer too -/
theorem Of_text (v : Value) (o : Option RE) (w : World) (hT : Tab w) (h : IsReO w v o) (hnf : ∀ r, o = some r → RE.nf r) (hsz : RE.sizeO o ≤ 1073741824) :
    Calls Tryz.prog 20 #[v] w (StrPost (RE.ofO o) w) := by
  cases o with
  | none =>
    have hv : v = .pointer none := h
    subst hv
    go_enter Tryz.func20, Tryz.ntmps20
    go_wp2_with fail
    go_ret
    exact ⟨rfl, Below.refl _ _⟩
  | some r =>
    obtain ⟨b, rfl, hb⟩ := h
    exact txOf_any _ r (Nat.le_refl _) (hnf r rfl) hsz w b hT hb
end Go.Proofs.YtgamknphlmcgnaaGreatDoor
end
section
set_option linter.unusedSimpArgs false
set_option linter.unusedVariables false
set_option maxRecDepth 100000
set_option linter.unnecessarySimpa false
namespace Go.Proofs.YtgamknphlmcgnaaGreatDoor
def headT : List UInt8 := [40, 97, 124, 98, 41, 42, 99, 45, 97, 98, 99]
end Go.Proofs.YtgamknphlmcgnaaGreatDoor
namespace Go.Proofs.YtgamknphlmcgnaaGreatDoor
open Go.RowKit
theorem readW_nf {s : List UInt8} {x : RE} {e a : Nat} (h : readW s = (some x, e, a)) : RE.nf x ∧ x.size ≤ 1000 ∧ e = 0 ∧ a = 0 := by
  unfold readW at h
  split at h
  · cases h
  split at h
  · rename_i hb he
    injection h with h1 h2
    injection h2 with h2 h3
    injection h1 with h1
    subst h1
    refine ⟨(readS_res s).nf _ rfl, ?_, h2.symm, h3.symm⟩
    apply Classical.byContradiction
    intro hs
    unfold readE at he
    simp only at he
    generalize (if (readS s).1.e = 0 then (if (readS s).1.skip.rest = [] then (readS s).1.skip else (readS s).1.skip.fail 2) else (readS s).1) = st1 at he
    by_cases hc : st1.e = 0
    · rw [if_pos ⟨hc, by omega⟩] at he
      simp [PS.fail, hc] at he
    · rw [if_neg (fun h => hc h.1)] at he
      exact hc he
  · cases h
end Go.Proofs.YtgamknphlmcgnaaGreatDoor
namespace Go.Proofs.YtgamknphlmcgnaaGreatDoor
open Go.RowKit
/-- what is left of a number, of sixteen -/
def lowN (n : Int) (k : Nat) : Nat := (bits .and .i64 n (k : Int)).toNat
theorem lowN_eq (n : Int) (k : Nat) (hk : k < 1000) : bits .and .i64 n (k : Int) = (lowN n k : Nat) ∧ lowN n k ≤ k := by
  have h : (BitVec.ofInt 64 n &&& BitVec.ofInt 64 (k : Int)).toNat ≤ k := by
    rw [BitVec.toNat_and]
    refine Nat.le_trans Nat.and_le_right ?_
    simp; omega
  have h2 : ∃ m : Nat, bits .and .i64 n (k : Int) = (m : Int) ∧ m ≤ k := by
    refine ⟨_, ?_, h⟩
    show IntKind.i64.wrap ((BitVec.ofInt 64 n &&& BitVec.ofInt 64 (k : Int)).toNat : Int) = _
    generalize (BitVec.ofInt 64 n &&& BitVec.ofInt 64 (k : Int)).toNat = m at h
    rw [IntKind.wrap_i64]; omega
  obtain ⟨m, h3, h4⟩ := h2
  unfold lowN
  rw [h3]
  omega
/-- what is left of a number as one without a sign -/
def uRem (n : Int) (m : Nat) : Nat := ((IntKind.u64.wrap n).tmod (m : Int)).toNat
theorem wrapU_nonneg (n : Int) : 0 ≤ IntKind.u64.wrap n := by
  simp only [IntKind.wrap, IntKind.signed, IntKind.bits]
  exact Int.emod_nonneg _ (by decide)
theorem uRem_eq (n : Int) (m : Nat) : (IntKind.u64.wrap n).tmod (m : Int) = (uRem n m : Nat) := by
  unfold uRem
  rw [Int.toNat_of_nonneg (Int.tmod_nonneg _ (wrapU_nonneg n))]
theorem uRem_lt (n : Int) (m : Nat) (h : 0 < m) : uRem n m < m := by
  have := Int.tmod_lt_of_pos (IntKind.u64.wrap n) (b := (m : Int)) (by omega)
  have h2 := Int.tmod_nonneg (m : Int) (wrapU_nonneg n)
  unfold uRem; omega
end Go.Proofs.YtgamknphlmcgnaaGreatDoor
namespace Go.Proofs.YtgamknphlmcgnaaGreatDoor
theorem readE_out (s : List UInt8) : (readE s).e = 0 ∨ (((readE s).e = 2 ∨ (readE s).e = 3 ∨ (readE s).e = 4) ∧ (readE s).wh ≤ s.length) := by
  have hres := (readS_res s).run
  unfold readE
  generalize readS s = R at *
  have htot := hres.tot
  have herr := hres.err
  simp only at htot herr ⊢
  by_cases h0 : R.1.e = 0
  · have hsk := PS.skip_run h0
    have hst := hsk.tot
    have hske : R.1.skip.e = 0 := h0
    rw [if_pos h0]
    generalize R.1.skip = S at *
    by_cases hr : S.rest = []
    · rw [if_pos hr]
      by_cases hz : S.e = 0 ∧ 1000 < R.2.size
      · rw [if_pos hz]
        simp [PS.fail, hske]
      · rw [if_neg hz]
        exact .inl hske
    · have h2 : (S.fail 2).e = 2 := by simp [PS.fail, hske]
      have h3 : (S.fail 2).wh = S.at_ := by simp [PS.fail, hske]
      rw [if_neg hr]
      generalize S.fail 2 = T at *
      rw [if_neg (fun hh => by have := hh.1; omega)]
      right
      omega
  · rcases herr with h | ⟨h1, h2, h3, h4⟩
    · exact absurd h h0
    · rw [if_neg h0]
      rw [if_neg (fun hh => h0 hh.1)]
      right
      omega
/-- what readW hands back -/
theorem readW_out (s : List UInt8) : (∃ r, readW s = (some r, 0, 0)) ∨ ∃ e a, readW s = (none, e, a) ∧ (e = 2 ∨ e = 3 ∨ e = 4) ∧ a ≤ s.length := by
  have h := readE_out s
  unfold readW
  generalize readE s = E at *
  generalize (readS s).2 = x at *
  by_cases hl : 65536 < s.length
  · rw [if_pos hl]; exact .inr ⟨3, 0, rfl, by omega, by omega⟩
  rw [if_neg hl]
  by_cases he : E.e = 0
  · rw [if_pos he]; exact .inl ⟨_, rfl⟩
  · rw [if_neg he]
    rcases h with h | h
    · exact absurd h he
    · exact .inr ⟨_, _, rfl, h.1, h.2⟩
namespace LX
/-- a token of a text -/
structure TokOk (s : List UInt8) (t : LT) : Prop where
  le : t.at_ ≤ s.length
  kind : t.kind ≤ 4
  word : t.kind = 1 ∨ t.kind = 2 → (s.drop t.at_).take t.text.length = t.text
  text : t.kind = 3 → t.at_ < s.length ∧ s.getD t.at_ 0 = 34
  re : t.kind = 4 → t.at_ < s.length ∧ s.getD t.at_ 0 = 47 ∧ ∃ r, t.re = some r
theorem qGo_at (n : Nat) : ∀ (f : Nat) (l : List UInt8) (i : Nat) (out : List UInt8) (o : List UInt8) (j : Nat), qGo f l i out = (o, some j) → j ≤ i + l.length
  | 0, l, i, out, o, j, h => by rw [qGo] at h; cases h
  | f + 1, [], i, out, o, j, h => by rw [qGo] at h; cases h
  | f + 1, c :: r, i, out, o, j, h => by
    rw [qGo] at h
    split at h
    · have := qGo_at n f _ _ _ _ _ h; simp; omega
    · split at h
      · cases h; omega
      · have := qGo_at n f _ _ _ _ _ h
        rw [List.length_drop] at this
        by_cases hq : qStep c r ≤ (c :: r).length
        · omega
        · rw [show (c :: r).drop (qStep c r) = [] from List.drop_eq_nil_of_le (by omega)] at h
          cases f with
          | zero => rw [qGo] at h; cases h
          | succ f => rw [qGo] at h; cases h
/-- what a token's reading leaves -/
def TokRes (s : List UInt8) (a : Nat) (r : LT × Nat × Nat) : Prop :=
  (r.2.1 = 0 ∧ r.1.at_ = a ∧ TokOk s r.1 ∧ r.2.2 ≤ s.length ∧ (r.1.kind ≠ 0 → a < r.2.2) ∧ (r.1.kind = 0 → a = s.length)) ∨ ((r.2.1 = 2 ∨ r.2.1 = 3 ∨ r.2.1 = 4) ∧ r.2.2 ≤ s.length)
theorem token_res (s : List UInt8) (a : Nat) (ha : a ≤ s.length) : TokRes s a (token s a) := by
  unfold token
  match hd : s.drop a with
  | [] =>
    have hl : s.length - a = 0 := by rw [← List.length_drop, hd]; rfl
    exact .inl ⟨rfl, rfl, ⟨ha, by simp, fun h => by simp at h, fun h => by simp at h, fun h => by simp at h⟩, ha, fun h => absurd rfl h, fun _ => by omega⟩
  | b :: r =>
    have hlen : r.length + 1 = s.length - a := by rw [← List.length_drop, hd]; rfl
    have hb : s.getD a 0 = b := by
      have h := congrArg (fun l => l.headD 0) hd
      simp only [List.headD_cons] at h
      rw [← h, List.headD_eq_head?_getD, List.head?_drop]; simp [List.getD]
    have hr : r = s.drop (a + 1) := by
      have h := congrArg List.tail hd
      rw [List.tail_drop] at h
      exact h.symm
    simp only
    split
    · rename_i hlt
      have hn' := nameN_le (b :: r)
      have hn : nameN (b :: r) ≤ r.length + 1 := hn'
      have hn1 : 1 ≤ nameN (b :: r) := by
        rw [nameN]
        have : letter b false = true := by
          unfold letter at hlt ⊢
          rw [Bool.or_eq_true] at hlt ⊢
          rcases hlt with h | h
          · exact .inl h
          · simp at h
        rw [if_pos this]; omega
      split
      · exact .inr ⟨by simp, ha⟩
      · refine .inl ⟨rfl, rfl, ⟨ha, by simp, fun _ => ?_, fun h => by simp at h, fun h => by simp at h⟩, by show a + nameN (b :: r) ≤ s.length; omega, fun _ => by show a < a + nameN (b :: r); omega, fun h => by simp at h⟩
        simp only
        rw [hd, List.length_take, Nat.min_eq_left hn']
    split
    · refine .inl ⟨rfl, rfl, ⟨ha, by simp, fun _ => ?_, fun h => by simp at h, fun h => by simp at h⟩, by simp only; omega, fun _ => by simp only; omega, fun h => by simp at h⟩
      simp only
      rw [hd]; rfl
    split
    · rename_i h34
      unfold quoted
      split
      · exact .inr ⟨by simp, Nat.le_refl _⟩
      · rename_i k hk
        obtain ⟨hk1, _⟩ := untilN_lt r.length r k (Nat.le_refl _) hk
        split
        · refine .inl ⟨rfl, rfl, ⟨ha, by simp, fun h => by simp at h, fun _ => ⟨by simp only; omega, by simp only; rw [hb, h34]⟩, fun h => by simp at h⟩, by simp only; omega, fun _ => by simp only; omega, fun h => by simp at h⟩
        · rename_i o i hq
          have := qGo_at 0 _ _ _ _ _ _ hq
          rw [List.length_take] at this
          exact .inr ⟨by simp, by simp only; omega⟩
    split
    · rename_i h47
      unfold expr
      split
      · exact .inr ⟨by simp, Nat.le_refl _⟩
      · rename_i k hk
        obtain ⟨hk1, _⟩ := untilN_lt r.length r k (Nat.le_refl _) hk
        rcases readW_out (r.take k) with ⟨x, hx⟩ | ⟨e, p, hx, he, hp⟩
        · rw [hx]
          simp only [if_true]
          refine .inl ⟨rfl, rfl, ⟨ha, by simp, fun h => by simp at h, fun h => by simp at h, fun _ => ⟨by simp only; omega, by simp only; rw [hb, h47], x, rfl⟩⟩, by simp only; omega, fun _ => by simp only; omega, fun h => by simp at h⟩
        · rw [hx]
          simp only
          rw [if_neg (by omega)]
          rw [List.length_take] at hp
          exact .inr ⟨he, by simp only; omega⟩
    · exact .inr ⟨by simp, ha⟩
theorem next_res (s : List UInt8) (p : Nat) (hp : p ≤ s.length) : p + skipS false (s.drop p) ≤ s.length ∧ TokRes s (p + skipS false (s.drop p)) (next s p) := by
  have h := skipS_le (s.drop p) false
  rw [List.length_drop] at h
  exact ⟨by omega, token_res s _ (by omega)⟩
/-- tokens, one behind the other -/
structure Toks (s : List UInt8) (l : List LT) : Prop where
  ok : ∀ t ∈ l, TokOk s t
  ord : l.Pairwise fun a b => a.at_ < b.at_
structure Fine (s : List UInt8) (l : List LT) : Prop where
  toks : Toks s l
  last : ∃ m t, l = m ++ [t] ∧ t.kind = 0 ∧ ∀ x ∈ m, x.kind ≠ 0
theorem allGo_res (s : List UInt8) : ∀ (f p : Nat) (out : List LT), p ≤ s.length → s.length - p < f → Toks s out → (∀ x ∈ out, x.kind ≠ 0 ∧ x.at_ < p) →
    ((allGo s f p out).2.1 = 0 ∧ (allGo s f p out).2.2 = 0 ∧ Fine s (allGo s f p out).1) ∨ ((allGo s f p out).1 = [] ∧ ((allGo s f p out).2.1 = 2 ∨ (allGo s f p out).2.1 = 3 ∨ (allGo s f p out).2.1 = 4) ∧ (allGo s f p out).2.2 ≤ s.length) := by
  intro f
  induction f with
  | zero => intro p out _ h; omega
  | succ f ih =>
    intro p out hp hf hout hk
    obtain ⟨h1, h2⟩ := next_res s p hp
    rw [allGo]
    rcases h2 with ⟨e0, ea, hok, hle, hgo, hend⟩ | ⟨he, hle⟩
    · rw [if_neg (by omega)]
      have hs : Toks s (out ++ [(next s p).1]) := ⟨fun t ht => by
        rcases List.mem_append.1 ht with h | h
        · exact hout.ok t h
        · rw [List.mem_singleton.1 h]; exact hok, List.pairwise_append.2 ⟨hout.ord, by simp, fun x hx y hy => by
        rw [List.mem_singleton.1 hy, ea]
        have := (hk x hx).2
        omega⟩⟩
      split
      · rename_i h0
        exact .inl ⟨rfl, rfl, hs, out, (next s p).1, rfl, h0, fun x hx => (hk x hx).1⟩
      · rename_i h0
        have := hgo h0
        refine ih _ _ hle (by omega) hs fun x hx => ?_
        rcases List.mem_append.1 hx with h | h
        · have := hk x h; exact ⟨this.1, by omega⟩
        · rw [List.mem_singleton.1 h, ea]; exact ⟨h0, this⟩
    · rw [if_pos (by omega)]
      exact .inr ⟨rfl, he, hle⟩
end LX
/-- what All hands back, at whatever text -/
theorem lexW_res (s : List UInt8) : ((lexW s).2.1 = 0 ∧ (lexW s).2.2 = 0 ∧ LX.Fine s (lexW s).1) ∨ ((lexW s).1 = [] ∧ ((lexW s).2.1 = 2 ∨ (lexW s).2.1 = 3 ∨ (lexW s).2.1 = 4) ∧ (lexW s).2.2 ≤ s.length) := by
  unfold lexW
  split
  · exact .inr ⟨rfl, by simp, by simp⟩
  · exact LX.allGo_res s _ 0 [] (Nat.zero_le _) (by omega) ⟨by simp, by simp⟩ (by simp)
end Go.Proofs.YtgamknphlmcgnaaGreatDoor
end
