/-
  'flat', walked through the program: the kids of those of an op in their places, in a new row. A byte that is written otherwise, behind a backslash, read: walked through the program (a sign).
-/
import Derived.BigQuiet
import Derived.Test.YtgamknphlmcgnaaGreatDoorZrA
import Derived.Test.YtgamknphlmcgnaaGreatDoorZrB
import Derived.Test.YtgamknphlmcgnaaGreatDoorZrC
import Derived.Test.YtgamknphlmcgnaaGreatDoorZrD
section
set_option linter.unusedSimpArgs false
set_option linter.unusedVariables false
set_option maxRecDepth 100000
set_option linter.unnecessarySimpa false
namespace Go.Proofs.YtgamknphlmcgnaaGreatDoor
open Go.RowKit
theorem made_zero (o : Nat) (ho : o < 8) (ho2 : o ≠ 2) (nl : Bool) (kp : Option Addr) (cap : Nat) (bs : List Nat) (ks : List RE) (w : World) (hr : PtrsAt w kp bs) (hk : AreRe w bs ks) (hnl : nl = (RE.node o BS.none ks).null) (hsz : RE.sizes ks ≤ 1099511627776) :
    Calls Tryz.prog 59 #[.int .i64 o, .agg #[.int .u64 0, .int .u64 0, .int .u64 0, .int .u64 0], .bool nl, .slice kp ks.length cap] w fun e w' => ∃ b, e = .returned (ptr b) ∧ w.heap.size ≤ b ∧ w'.heap[b]? = some (.cells (nodeCells (RE.node o BS.none ks) kp cap) 117 (0, 0)) ∧ Below w.heap.size w w' := by
  have h := made_other o ho ho2 0 0 0 0 nl kp cap bs ks w hr hk hnl hsz
  rw [← wN_zero] at h
  exact h
theorem are_nil (w : World) : AreRe w [] [] := ⟨rfl, fun i hi => absurd hi (by simp)⟩
theorem fresh_leaf {B b o : Nat} {s : BS} {w' : World} (h0 : B ≤ b) (h1 : w'.heap[b]? = some (.cells (nodeCells (RE.node o s []) none 0) 117 (0, 0))) : IsReX (· < B) w' b (RE.node o s []) :=
  .mk b _ none 0 [] (by show ¬ b < B; omega) h1 rfl (.inl rfl) (fun h => absurd rfl h) (fun a ha => by cases ha) (fun i hi => absurd hi (by simp [RE.kids]))
set_option maxHeartbeats 800000 in
theorem Nothing_any (w : World) : Calls Tryz.prog 58 #[] w fun e w' => ∃ b, e = .returned (ptr b) ∧ IsReX (· < w.heap.size) w' b RE.nothing ∧ Below w.heap.size w w' := by
  have H := Lib.hid (made_zero 0 (by omega) (by omega) false none 0 [] [] w (.inl rfl) (are_nil w) (by simp [RE.null]) (by simp [RE.sizes]))
  go_enter Tryz.func58, Tryz.ntmps58
  go_wp2_with fail
  refine H.out.mono ?_
  rintro e w1 ⟨b, rfl, h0, h1, h2⟩
  go_wp2_with fail
  go_ret
  exact ⟨b, rfl, fresh_leaf h0 h1, h2⟩
set_option maxHeartbeats 800000 in
theorem EmptyRe_any (w : World) : Calls Tryz.prog 63 #[] w fun e w' => ∃ b, e = .returned (ptr b) ∧ IsReX (· < w.heap.size) w' b RE.empty ∧ Below w.heap.size w w' := by
  have H := Lib.hid (made_zero 1 (by omega) (by omega) true none 0 [] [] w (.inl rfl) (are_nil w) (by simp [RE.null]) (by simp [RE.sizes]))
  go_enter Tryz.func63, Tryz.ntmps63
  go_wp2_with fail
  refine H.out.mono ?_
  rintro e w1 ⟨b, rfl, h0, h1, h2⟩
  go_wp2_with fail
  go_ret
  exact ⟨b, rfl, fresh_leaf h0 h1, h2⟩
set_option maxHeartbeats 1600000 in
theorem One_any (s0 s1 s2 s3 : BitVec 64) (w : World) : Calls Tryz.prog 17 #[.agg #[.int .u64 (wN s0), .int .u64 (wN s1), .int .u64 (wN s2), .int .u64 (wN s3)]] w fun e w' => ∃ b, e = .returned (ptr b) ∧ IsReX (· < w.heap.size) w' b (RE.one ⟨s0, s1, s2, s3⟩) ∧ Below w.heap.size w w' := by
  have HM := Lib.hid (made_class s0 s1 s2 s3)
  by_cases hs : (⟨s0, s1, s2, s3⟩ : BS) = BS.none
  · have HE : Hid (decide ((⟨s0, s1, s2, s3⟩ : BS) = BS.none) = true) := decide_eq_true hs
    have HO : Hid (RE.one ⟨s0, s1, s2, s3⟩ = RE.nothing) := by show _ = _; unfold RE.one; rw [if_pos hs]
    clear hs
    go_enter Tryz.func17, Tryz.ntmps17
    go_wp2_with (go_at_call 57; refine (Empty_any s0 s1 s2 s3 _).mono ?_; rintro e w' ⟨rfl, rfl⟩; rw [HE.out])
    refine (Nothing_any _).mono ?_
    rintro e w1 ⟨b, rfl, h1, h2⟩
    have h2' : Below w.heap.size w w1 := by repeat (first | exact Below.refl _ _ | assumption | refine Below.drew ?_ | refine ext_drewN ?_ _ | refine ext_alloc ?_ _ | refine Below.setCell ?_ (by (try simp only [World.size_alloc, World.size_setCell, World.size_drew]); omega) _ | refine ext_step ?_ (by assumption))
    go_wp2_with fail
    go_ret
    exact ⟨b, rfl, by rw [HO.out]; exact h1.mono (fun k _ hk => by simp; omega), h2'⟩
  · have HE : Hid (decide ((⟨s0, s1, s2, s3⟩ : BS) = BS.none) = false) := decide_eq_false hs
    have HO : Hid (RE.one ⟨s0, s1, s2, s3⟩ = RE.node 2 ⟨s0, s1, s2, s3⟩ []) := by show _ = _; unfold RE.one; rw [if_neg hs]
    clear hs
    go_enter Tryz.func17, Tryz.ntmps17
    go_wp2_with (go_at_call 57; refine (Empty_any s0 s1 s2 s3 _).mono ?_; rintro e w' ⟨rfl, rfl⟩; rw [HE.out])
    refine (HM.out _).mono ?_
    rintro e w1 ⟨b, rfl, h0, h1, h2⟩
    have h2' : Below w.heap.size w w1 := by repeat (first | exact Below.refl _ _ | assumption | refine Below.drew ?_ | refine ext_drewN ?_ _ | refine ext_alloc ?_ _ | refine Below.setCell ?_ (by (try simp only [World.size_alloc, World.size_setCell, World.size_drew]); omega) _ | refine ext_step ?_ (by assumption))
    go_wp2_with fail
    go_ret
    exact ⟨b, rfl, by rw [HO.out]; exact fresh_leaf (by simp at h0; omega) h1, h2'⟩
end Go.Proofs.YtgamknphlmcgnaaGreatDoor
namespace Go.Proofs.YtgamknphlmcgnaaGreatDoor
open Go.RowKit
theorem infoPtr : (Tryz.prog.info? 28).map (fun i => (i.zero, i.size, i.bytes)) = some (some (.pointer none), 1, 8) := by kernel_rfl
theorem ptr_one (l : List Nat) : ∀ u ∈ l.map ptr, u.oneCell' = true := by intro u hu; obtain ⟨x, _, rfl⟩ := List.mem_map.1 hu; rfl
theorem addr_at (kb ko j : Nat) : (⟨kb, ko, none⟩ : Addr).add j = ⟨kb, ko + j, none⟩ := by unfold Addr.add; split <;> simp_all
/-- expressions, the pointers to which lie in a row of one's own -/
structure OwnRe (w : World) (ls : List RE) (bs : List Nat) (v : Value) (wr : World) : Prop where
  own : wr.ownsRow w.heap.size 28 1 v bs.length (bs.map ptr)
  are : AreReX (fun k => v.ownBlock = some k) wr bs ls
  bel : Below w.heap.size w wr
theorem OwnRe.later {w wr wr' : World} {ls : List RE} {bs : List Nat} {v : Value} (h : OwnRe w ls bs v wr) (hb : Below wr.heap.size wr wr') : OwnRe w ls bs v wr' :=
  ⟨h.own.kept (re_grownBy hb) (by cases v.ownBlock <;> simp), h.are.keep (fun k hk _ => hb.block k hk), ext_step h.bel hb⟩
theorem OwnRe.appended {w Wa W' : World} {ls ls' : List RE} {bs bs' : List Nat} {v : Value} {g n cp H : Nat} (h : OwnRe w ls bs v Wa) (h' : AreReX (fun k => v.ownBlock = some k) Wa bs' ls') (hH : Wa.heap.size ≤ H) (hn : n = bs.length + bs'.length)
   (hown : W'.ownsRow w.heap.size 28 1 (.slice (some ⟨g, 0, none⟩) n cp) n (bs.map ptr ++ bs'.map ptr)) (hg : Wa.grownBy W' v.ownBlock) (hat : v.ownBlock = some g ∨ g = H) :
    OwnRe w (ls ++ ls') (bs ++ bs') (.slice (some ⟨g, 0, none⟩) n cp) W' := by
  subst hn
  refine ⟨by rw [List.length_append, List.map_append]; exact hown, ?_, h.bel.grown hg h.bel.size (fun k e => (h.own.lt k e).1)⟩
  have h1 : AreReX (fun k => v.ownBlock = some k ∨ Wa.heap.size ≤ k) Wa (bs ++ bs') (ls ++ ls') := (h.are.append h').mono fun k hk hy => by
    rcases hy with hy | hy
    · exact hy
    · omega
  have h2 := h1.keep (w' := W') fun k hk hx => hg.block k hk (fun e => hx (.inl e.symm))
  refine h2.mono fun k _ e => ?_
  have e : g = k := by simpa [Value.ownBlock] using e
  subst e
  rcases hat with e | e
  · exact .inl e
  · exact .inr (by omega)
/-- a list of pointers, some of which may be nil -/
def ListO (w : World) (kp : Option Addr) (l : List (Option RE)) : Prop := l = [] ∨ ∃ kb ko, kp = some ⟨kb, ko, none⟩ ∧ ∀ i, i < l.length → ∃ v, w.cell? ⟨kb, ko + i, none⟩ = some v ∧ IsReO w v (l.getD i none)
theorem RE.flat_snoc (o : Nat) (l : List (Option RE)) (x : Option RE) : RE.flat o (l ++ [x]) = RE.flat o l ++ RE.flat1 o x := by simp [RE.flat]
theorem take_snocO (l : List (Option RE)) (k : Nat) (h : k < l.length) : l.take (k + 1) = l.take k ++ [l.getD k none] := by
  rw [List.take_succ_eq_append_getElem h]; simp [List.getD, h]
theorem flat_take_len (o : Nat) (l : List (Option RE)) (k : Nat) : (RE.flat o (l.take k)).length ≤ (RE.flat o l).length := by
  conv => rhs; rw [← List.take_append_drop k l]
  simp only [RE.flat, List.flatMap_append, List.length_append]; omega
def FlatAt (w : World) (o : Nat) (l : List (Option RE)) (v i : Value) (wr : World) : Prop :=
  ∃ (k : Nat) (bs : List Nat), k ≤ l.length ∧ i = .int .i64 k ∧ OwnRe w (RE.flat o (l.take k)) bs v wr
set_option maxRecDepth 100000 in
set_option maxHeartbeats 4000000 in
theorem flat_any (o : Nat) (kp : Option Addr) (cap : Nat) (l : List (Option RE)) (w : World) (hl : ListO w kp l) (hne : ∀ r, some r ∈ l → r.op = o → r.kids ≠ []) (hsz : (RE.flat o l).length ≤ 1099511627776) (hln : l.length ≤ 1099511627776) :
    Calls Tryz.prog 61 #[.int .i64 o, .slice kp l.length cap] w fun e w' => ∃ v bs, e = .returned v ∧ OwnRe w (RE.flat o l) bs v w' := by
  have HL := Lib.hid hl
  have HNE := Lib.hid hne
  clear hl hne
  obtain ⟨i0, hi, hz0, hz1, hz2⟩ := info_parts infoPtr
  have HI := Lib.hid hi; have HZ0 := Lib.hid hz0; have HZ1 := Lib.hid hz1; have HZ2 := Lib.hid hz2
  clear hi hz0 hz1 hz2
  go_enter Tryz.func61, Tryz.ntmps61
  go_wp2_with fail
  go_loopw [5, 10] (fun v i wr => FlatAt w o l v i wr) (fun _ i _ => l.length - (intOf i).toNat)
  case atStart => exact ⟨0, [], by omega, rfl, ⟨World.ownsRow_nil _ _ _ _, AreReX.nil, Below.refl _ _⟩⟩
  case round =>
    obtain ⟨k, bs, hk, rfl, hW⟩ := hrel
    by_cases hlt : k < l.length
    · rcases HL.out with h0 | ⟨kb, ko, rfl, hrow⟩
      · rw [h0] at hlt; simp at hlt
      obtain ⟨x, hx, hxo⟩ := hrow k hlt
      have hlen := flat_take_len o l (k + 1)
      have HNX : Hid (RE.flat o (l.take (k + 1)) = RE.flat o (l.take k) ++ RE.flat1 o (l.getD k none)) := by
        show _ = _
        rw [take_snocO l k hlt, RE.flat_snoc]
      have hmem : l.getD k none ∈ l := by simp [List.getD, hlt]
      rw [HNX.out, List.length_append, ← hW.are.1] at hlen
      have hkbl := World.block_lt_of_cell? w _ hx
      rw [← hW.bel.cell (p := ⟨kb, ko + k, none⟩) hkbl] at hx
      generalize RE.flat o (l.take k) = ls at *
      generalize l.getD k none = q at *
      clear hrow
      cases q with
      | none =>
        have hxv : x = .pointer none := hxo
        subst hxv
        have HF1 : Hid (RE.flat1 o none = [RE.nothing]) := rfl
        rw [HF1.out] at hlen
        simp only [List.length_cons, List.length_nil] at hlen
        go_wp2_with fail
        refine (Nothing_any _).mono ?_
        rintro e w1 ⟨b, rfl, h1, h2⟩
        have hW1 := hW.later h2
        go_wp2_with (at_builtin; refine wpList_append_lies _ rfl _ _ _ rfl w.heap.size 28 i0 _ 1 8 Tryz.underlying113 HI.out HZ0.out HZ1.out HZ2.out rfl (by omega) u5 bs.length (bs.map ptr) rfl (hW1.own.alloc _) ⟨w1.heap.size, 0, none⟩ 1 1 [ptr b] rfl rfl (World.news_of_block (cs := #[ptr b]) (t := 28) (fr := (0, 0)) (heap_alloc_last w1 _)) (ptr_one [b]) (by omega) (by unfold maxLen; omega) (by omega) (by have := hW1.bel.size; simp; omega) (w1.heap.size + 1) (by simp) ?_; intro g5 cp5 W9 hown9 hg9 hat9 hlt9)
        have hb1 : IsReX (fun k => u5.ownBlock = some k) (w1.alloc (.cells #[ptr b] 28)) b RE.nothing := (h1.keep fun k hk _ => (re_alloc w1 _).block k hk).mono fun k _ e => (hW.own.lt k e).2
        have hW9 := (hW1.later (re_alloc w1 _)).appended (n := bs.length + 1) (AreReX.one hb1) (by simp) rfl hown9 hg9 hat9
        have HW9 : Hid (OwnRe w (RE.flat o (l.take (k + 1))) (bs ++ [b]) (.slice (some ⟨g5, 0, none⟩) (bs.length + 1) cp5) W9) := by show OwnRe _ _ _ _ _; rw [HNX.out, HF1.out]; exact hW9
        clear hW9 hb1 hown9 hg9 hat9 hW1 hW h1 h2
        go_wp2
        go_roundw
        case rel => exact ⟨k + 1, _, by omega, by go_num, HW9.out⟩
        case measure => simp [intOf]; omega
      | some r =>
        obtain ⟨b, rfl, hb⟩ := hxo
        obtain ⟨kp1, cap1, bs1, hnode, hptr, hkids⟩ := hb.open
        have hnode1 := (hW.bel.block b hb.lt).trans hnode
        have hop : wr.cell? ⟨b, 0, none⟩ = some (.int .i64 (r.op : Nat)) := by rw [cell_of_row _ _ _ _ _ _ hnode1]; rfl
        have hks : wr.cell? ⟨b, 2 + 3, none⟩ = some (.slice kp1 r.kids.length cap1) := by rw [cell_of_row _ _ _ _ _ _ hnode1]; rfl
        change wr.cell? ⟨kb, ko + k, none⟩ = some (.pointer (some ⟨b, 0, none⟩)) at hx
        by_cases hro : r.op = o
        · have hro' : ((r.op : Int) == (o : Int)) = true := by rw [hro]; simp
          have HF1 : Hid (RE.flat1 o (some r) = r.kids) := by show _ = _; simp [RE.flat1, hro]
          rw [HF1.out] at hlen
          have hkn : 0 < r.kids.length := List.length_pos_iff.2 (HNE.out r hmem hro)
          have hb1l := hkids.1
          rcases hptr with h0 | ⟨k1, o1, rfl, hkc⟩
          · rw [h0] at hb1l; simp at hb1l; omega
          have hnews : ∀ j u, (bs1.map ptr)[j]? = some u → wr.cell? ((⟨k1, o1, none⟩ : Addr).add j) = some u := fun j u hu => by
            have hj : j < bs1.length := by have := (List.getElem?_eq_some_iff.1 hu).1; simpa using this
            have h3 := hkc j hj
            rw [addr_at, hW.bel.cell (p := ⟨k1, o1 + j, none⟩) (World.block_lt_of_cell? w _ h3), h3]
            simpa [List.getD, hj] using hu
          have HK1 := Lib.hid hnews
          clear hnews hkc
          go_wp2_with (at_builtin; refine wpList_append_lies _ rfl _ _ _ rfl w.heap.size 28 i0 _ 1 8 Tryz.underlying113 HI.out HZ0.out HZ1.out HZ2.out rfl (by omega) u5 bs.length (bs.map ptr) rfl hW.own ⟨k1, o1, none⟩ r.kids.length cap1 (bs1.map ptr) rfl (by simp [hb1l]) HK1.out (ptr_one bs1) (by omega) (by unfold maxLen; omega) (by omega) hW.bel.size wr.heap.size rfl ?_; intro g5 cp5 W9 hown9 hg9 hat9 hlt9)
          have hb1 : AreReX (fun k => u5.ownBlock = some k) wr bs1 r.kids := (hkids.avoid (X := fun k => u5.ownBlock = some k) fun k hk e => by have := (hW.own.lt k e).1; omega).keep fun k hk _ => hW.bel.block k hk
          have hW9 := hW.appended (n := bs.length + r.kids.length) hb1 (Nat.le_refl _) (by rw [hb1l]) hown9 hg9 hat9
          have HW9 : Hid (OwnRe w (RE.flat o (l.take (k + 1))) (bs ++ bs1) (.slice (some ⟨g5, 0, none⟩) (bs.length + r.kids.length) cp5) W9) := by show OwnRe _ _ _ _ _; rw [HNX.out, HF1.out]; exact hW9
          clear hW9 hb1 hown9 hg9 hat9 hW
          go_wp2
          go_roundw
          case rel => exact ⟨k + 1, _, by omega, by go_num, HW9.out⟩
          case measure => simp [intOf]; omega
        · have hro' : ((r.op : Int) == (o : Int)) = false := by simpa using fun e => hro (by omega)
          have HF1 : Hid (RE.flat1 o (some r) = [r]) := by show _ = _; simp [RE.flat1, hro]
          rw [HF1.out] at hlen
          simp only [List.length_cons, List.length_nil] at hlen
          go_wp2_with (at_builtin; refine wpList_append_lies _ rfl _ _ _ rfl w.heap.size 28 i0 _ 1 8 Tryz.underlying113 HI.out HZ0.out HZ1.out HZ2.out rfl (by omega) u5 bs.length (bs.map ptr) rfl (hW.own.alloc _) ⟨wr.heap.size, 0, none⟩ 1 1 [ptr b] rfl rfl (World.news_of_block (cs := #[ptr b]) (t := 28) (fr := (0, 0)) (heap_alloc_last wr _)) (ptr_one [b]) (by omega) (by unfold maxLen; omega) (by omega) (by have := hW.bel.size; simp; omega) (wr.heap.size + 1) (by simp) ?_; intro g5 cp5 W9 hown9 hg9 hat9 hlt9)
          have hb1 : IsReX (fun k => u5.ownBlock = some k) (wr.alloc (.cells #[ptr b] 28)) b r := ((hb.avoid (X := fun k => u5.ownBlock = some k) fun k hk e => by have := (hW.own.lt k e).1; omega).keep fun k hk _ => (ext_alloc hW.bel _).block k hk)
          have hW9 := (hW.later (re_alloc wr _)).appended (n := bs.length + 1) (AreReX.one hb1) (by simp) rfl hown9 hg9 hat9
          have HW9 : Hid (OwnRe w (RE.flat o (l.take (k + 1))) (bs ++ [b]) (.slice (some ⟨g5, 0, none⟩) (bs.length + 1) cp5) W9) := by show OwnRe _ _ _ _ _; rw [HNX.out, HF1.out]; exact hW9
          clear hW9 hb1 hown9 hg9 hat9 hW
          go_wp2
          go_roundw
          case rel => exact ⟨k + 1, _, by omega, by go_num, HW9.out⟩
          case measure => simp [intOf]; omega
    · obtain rfl : k = l.length := by omega
      rw [List.take_length] at hW
      go_wp2
      go_ret
      exact ⟨_, bs, rfl, hW⟩
end Go.Proofs.YtgamknphlmcgnaaGreatDoor
end
section
set_option linter.unusedSimpArgs false
set_option linter.unusedVariables false
set_option maxRecDepth 100000
set_option linter.unnecessarySimpa false
namespace Go.Proofs.YtgamknphlmcgnaaGreatDoor
open Go.RowKit
abbrev psCells (s : List UInt8) (st : PS) : Array Value := #[.string ⟨s.toArray⟩, .int .i64 (st.at_ : Nat), .int .i64 (st.deep : Nat), .int .i64 (st.nodes : Nat), .int .i64 (st.e : Nat), .int .i64 (st.wh : Nat)]
theorem byteIs (c : UInt8) (x : Nat) (hx : x < 256) : (((c.toNat : Nat) : Int) == (x : Int)) = decide (c = x.toUInt8) := by
  rw [Bool.eq_iff_iff]
  simp only [beq_iff_eq, decide_eq_true_eq]
  constructor
  · intro h
    have h2 : c.toNat = x := by omega
    rw [← h2]; simp
  · rintro rfl
    have : x.toUInt8.toNat = x := by simp; omega
    omega
/-- the reader lies in block p -/
structure PAt (w : World) (p : Nat) (s : List UInt8) (st : PS) : Prop where
  row : w.heap[p]? = some (.cells (psCells s st) 130 (0, 0))
  rest : st.rest = s.drop st.at_
  tot : st.at_ + st.rest.length = s.length
/-- all blocks but p's lie as they lay -/
abbrev Far (p : Nat) (w w' : World) : Prop := w.grownBy w' (some p)
theorem Far.refl (p : Nat) (w : World) : Far p w w := World.grownBy.refl _ _
theorem Far.trans {p : Nat} {a b c : World} (h : Far p a b) (h' : Far p b c) : Far p a c :=
  ⟨h'.os.trans h.os, h'.tape.trans h.tape, h'.output.trans h.output, Nat.le_trans h.size h'.size, fun k hk hne => (h'.block k (Nat.lt_of_lt_of_le hk h.size) hne).trans (h.block k hk hne)⟩
theorem Far.below {p : Nat} {w w' : World} (h : Below w.heap.size w w') : Far p w w' := ⟨h.os, h.tape, h.output, h.size, fun k hk _ => h.block k hk⟩
theorem Far.drew {p : Nat} {w w' : World} (h : Far p w w') (n : Nat) : Far p w (w'.drewN n) := h.trans (Far.below (ext_drewN (Below.refl _ _) n))
theorem Far.set {p : Nat} {w w' : World} (h : Far p w w') (j : Nat) (v : Value) : Far p w (w'.setCell ⟨p, j, none⟩ v) :=
  h.trans ⟨rfl, rfl, rfl, by simp, fun k hk hne => Below.heap_setCell _ _ _ _ (fun e => hne (by show some k = some p; rw [e]))⟩
theorem PAt.lt {w : World} {p : Nat} {s : List UInt8} {st : PS} (h : PAt w p s st) : p < w.heap.size := (Array.getElem?_eq_some_iff.1 h.row).1
theorem PAt.later {w w' : World} {p : Nat} {s : List UInt8} {st : PS} (h : PAt w p s st) (hb : Below w.heap.size w w') : PAt w' p s st := ⟨(hb.block p h.lt).trans h.row, h.rest, h.tot⟩
theorem PAt.cells {w : World} {p : Nat} {s : List UInt8} {st : PS} (h : PAt w p s st) : w.cell? ⟨p, 0, none⟩ = some (.string ⟨s.toArray⟩) ∧ w.cell? ⟨p, 1, none⟩ = some (.int .i64 (st.at_ : Nat)) ∧ w.cell? ⟨p, 2, none⟩ = some (.int .i64 (st.deep : Nat)) ∧
    w.cell? ⟨p, 3, none⟩ = some (.int .i64 (st.nodes : Nat)) ∧ w.cell? ⟨p, 4, none⟩ = some (.int .i64 (st.e : Nat)) ∧ w.cell? ⟨p, 5, none⟩ = some (.int .i64 (st.wh : Nat)) :=
  ⟨by rw [cell_of_row _ _ _ _ _ _ h.row]; rfl, by rw [cell_of_row _ _ _ _ _ _ h.row]; rfl, by rw [cell_of_row _ _ _ _ _ _ h.row]; rfl, by rw [cell_of_row _ _ _ _ _ _ h.row]; rfl, by rw [cell_of_row _ _ _ _ _ _ h.row]; rfl, by rw [cell_of_row _ _ _ _ _ _ h.row]; rfl⟩
theorem PAt.frz {w : World} {p : Nat} {s : List UInt8} {st : PS} (h : PAt w p s st) (j : Nat) : w.frozen? ⟨p, j, none⟩ = false := frozen_of_row _ _ j _ _ h.row
/-- one field is written -/
theorem PAt.put {w : World} {p : Nat} {s : List UInt8} {st st' : PS} (h : PAt w p s st) (j : Nat) (v : Value) (e : (psCells s st).setIfInBounds j v = psCells s st') (hr : st'.rest = s.drop st'.at_) (ht : st'.at_ + st'.rest.length = s.length) : PAt (w.setCell ⟨p, j, none⟩ v) p s st' :=
  ⟨by rw [heap_setCell_same _ _ _ _ _ _ h.row, e], hr, ht⟩
/-- .. whatever the place -/
theorem PAt.raw {w : World} {p : Nat} {s : List UInt8} {st : PS} (h : w.heap[p]? = some (.cells (psCells s st) 130 (0, 0))) (j : Nat) (v : Value) (st' : PS) (e : (psCells s st).setIfInBounds j v = psCells s st') : (w.setCell ⟨p, j, none⟩ v).heap[p]? = some (.cells (psCells s st') 130 (0, 0)) := by
  rw [heap_setCell_same _ _ _ _ _ _ h, e]
theorem PAt.at_le {w : World} {p : Nat} {s : List UInt8} {st : PS} (h : PAt w p s st) : st.at_ ≤ s.length := by have := h.tot; omega
theorem PAt.adv {w : World} {p : Nat} {s : List UInt8} {st : PS} (h : PAt w p s st) (k : Nat) (hk : k ≤ st.rest.length) : (st.adv k).rest = s.drop (st.adv k).at_ ∧ (st.adv k).at_ + (st.adv k).rest.length = s.length := by
  have ht := h.tot
  refine ⟨?_, ?_⟩
  · show st.rest.drop k = s.drop (st.at_ + k); rw [h.rest, List.drop_drop]
  · show st.at_ + k + (st.rest.drop k).length = _; rw [List.length_drop]; omega
theorem PAt.put_adv {w : World} {p : Nat} {s : List UInt8} {st : PS} (h : PAt w p s st) (k : Nat) (hk : k ≤ st.rest.length) : PAt (w.setCell ⟨p, 1, none⟩ (.int .i64 ((st.at_ + k : Nat) : Int))) p s (st.adv k) :=
  h.put 1 _ rfl (h.adv k hk).1 (h.adv k hk).2
theorem PAt.drew {w : World} {p : Nat} {s : List UInt8} {st : PS} (h : PAt w p s st) (n : Nat) : PAt (w.drewN n) p s st := ⟨h.row, h.rest, h.tot⟩
theorem PAt.put_adv' {w : World} {p : Nat} {s : List UInt8} {st : PS} (h : PAt w p s st) (k a : Nat) (ha : a = st.at_) (hk : k ≤ st.rest.length) : PAt (w.setCell ⟨p, 1, none⟩ (.int .i64 ((a : Int) + (k : Int)))) p s (st.adv k) := by
  have := h.put_adv k hk
  rw [show ((st.at_ + k : Nat) : Int) = (a : Int) + (k : Int) by omega] at this
  exact this
theorem PS.adv_adv (st : PS) (j k : Nat) : (st.adv j).adv k = st.adv (j + k) := by
  unfold PS.adv; simp [List.drop_drop, Nat.add_assoc]
/-- what a call on the reader leaves -/
def PsPost (p : Nat) (s : List UInt8) (w : World) (st' : PS) (v : Value) (e : Ending) (w' : World) : Prop := e = .returned v ∧ PAt w' p s st' ∧ Far p w w'
set_option maxRecDepth 100000 in
theorem psFail_any (p : Nat) (s : List UInt8) (st : PS) (w : World) (h : PAt w p s st) (hs : s.length ≤ 65536) (e : Nat) (he : e ≤ 100) :
    Calls Tryz.prog 74 #[ptr p, .int .i64 (e : Nat)] w (PsPost p s w (st.fail e) (.tuple #[])) := by
  obtain ⟨c0, c1, c2, c3, c4, c5⟩ := h.cells
  have f1 := h.frz 1
  have f4 := h.frz 4
  have f5 := h.frz 5
  have HP := Lib.hid h
  have hsz : (⟨s.toArray⟩ : ByteArray).size = s.length := str_size s
  have ht := h.tot
  have HT := Lib.hid ht
  have hln : st.at_ ≤ s.length := h.at_le
  have HR : Hid ((st.fail e).rest = s.drop (st.fail e).at_ ∧ (st.fail e).at_ + (st.fail e).rest.length = s.length) := by
    show _ ∧ _
    unfold PS.fail
    simp only
    rw [ht]; simp
  clear h ht
  by_cases h0 : st.e = 0
  · have g4 : (((st.e : Nat) : Int) == 0) = true := by rw [h0]; rfl
    have HF : Hid (st.fail e = { st with e := e, wh := st.at_, at_ := st.at_ + st.rest.length, rest := [] }) := by show _ = _; unfold PS.fail; simp [h0]
    have H0 := Lib.hid h0
    clear h0
    go_enter Tryz.func74, Tryz.ntmps74
    go_wp2_with fail
    go_end0
    refine ⟨rfl, ⟨?_, HR.out.1, HR.out.2⟩, ((Far.refl _ _).set _ _ |>.set _ _).set _ _⟩
    have r1 := PAt.raw HP.out.row 4 (.int .i64 (e : Nat)) { st with e := e } rfl
    have r2 := PAt.raw r1 5 (.int .i64 (st.at_ : Nat)) { st with e := e, wh := st.at_ } rfl
    refine PAt.raw r2 1 _ _ ?_
    rw [HF.out, HT.out]; rfl
  · have g4 : (((st.e : Nat) : Int) == 0) = false := by rw [beq_eq_false_iff_ne]; omega
    have HF : Hid (st.fail e = { st with at_ := st.at_ + st.rest.length, rest := [] }) := by show _ = _; unfold PS.fail; simp [h0]
    clear h0
    go_enter Tryz.func74, Tryz.ntmps74
    go_wp2_with fail
    go_end0
    refine ⟨rfl, ⟨?_, HR.out.1, HR.out.2⟩, (Far.refl _ _).set _ _⟩
    refine PAt.raw HP.out.row 1 _ _ ?_
    rw [HF.out, HT.out]; rfl
theorem wsN_lt {l : List UInt8} : ∀ {k : Nat}, k < PS.wsN l → k < l.length ∧ PS.isWs (l.getD k 0) = true := by
  induction l with
  | nil => intro k h; simp [PS.wsN] at h
  | cons c r ih =>
    intro k h
    rw [PS.wsN] at h
    split at h
    · rename_i hc
      cases k with
      | zero => exact ⟨by simp, by simpa using hc⟩
      | succ k => obtain ⟨h1, h2⟩ := ih (by omega : k < PS.wsN r); exact ⟨by simpa using h1, by simpa using h2⟩
    · omega
theorem wsN_stop {l : List UInt8} : PS.wsN l < l.length → PS.isWs (l.getD (PS.wsN l) 0) = false := by
  induction l with
  | nil => intro h; simp at h
  | cons c r ih =>
    intro h
    rw [PS.wsN] at h ⊢
    split
    · rename_i hc
      rw [if_pos hc] at h
      have := ih (by simpa using h)
      simpa using this
    · rename_i hc; simpa using hc
theorem isWs_has (c : UInt8) : PS.isWs c = ([32, 9, 10, 13] : List UInt8).contains c := by
  simp only [List.contains_cons, List.contains_nil, Bool.or_false]; unfold PS.isWs; simp [Bool.or_assoc]
theorem drop_getD (l : List UInt8) (a k : Nat) : (l.drop a).getD k 0 = l.getD (a + k) 0 := by simp [List.getD]
def PeekAt (w : World) (p : Nat) (s : List UInt8) (st : PS) (wr : World) : Prop := ∃ k : Nat, k ≤ PS.wsN st.rest ∧ PAt wr p s (st.adv k) ∧ Far p w wr
set_option maxRecDepth 100000 in
set_option maxHeartbeats 2000000 in
theorem psPeek_any (p : Nat) (s : List UInt8) (st : PS) (w : World) (h : PAt w p s st) (hs : s.length ≤ 65536) :
    Calls Tryz.prog 73 #[ptr p] w (PsPost p s w st.skip (.int .u8 (st.skip.head.toNat : Nat))) := by
  have h0 : PeekAt w p s st w := ⟨0, Nat.zero_le _, by have e : st.adv 0 = st := by cases st; simp [PS.adv]
                                                       rw [e]; exact h, Far.refl _ _⟩
  have HP := Lib.hid h
  have hsz : (⟨s.toArray⟩ : ByteArray).size = s.length := str_size s
  have HW : Hid (∀ k, k < PS.wsN st.rest → st.at_ + k < s.length ∧ PS.isWs (s.getD (st.at_ + k) 0) = true) := fun k hk => by
    obtain ⟨h1, h2⟩ := wsN_lt hk
    have := h.tot
    rw [h.rest, drop_getD] at h2
    exact ⟨by omega, h2⟩
  have HV : Hid (st.at_ + PS.wsN st.rest < s.length → PS.isWs (s.getD (st.at_ + PS.wsN st.rest) 0) = false ∧ st.skip.head = s.getD (st.at_ + PS.wsN st.rest) 0) := fun hl => by
    have hl2 : PS.wsN st.rest < st.rest.length := by have := h.tot; omega
    have h1 := wsN_stop hl2
    have h3 : ∀ k, st.rest.getD k 0 = s.getD (st.at_ + k) 0 := fun k => by rw [h.rest, drop_getD]
    rw [h3] at h1
    refine ⟨h1, ?_⟩
    rw [← h3]
    show (st.rest.drop _).headD 0 = _
    rw [List.headD_eq_head?_getD, List.head?_drop]; simp [List.getD]
  have HE : Hid (¬ st.at_ + PS.wsN st.rest < s.length → st.skip.head = 0) := fun hl => by
    have hl2 : st.rest.length ≤ PS.wsN st.rest := by have := h.tot; omega
    show (st.rest.drop _).headD 0 = _
    rw [List.drop_eq_nil_of_le hl2]; rfl
  have HI := Lib.hid (fun c W => IndexByte_any ⟨#[32, 9, 10, 13]⟩ c W)
  have HN : Hid (PS.wsN st.rest ≤ st.rest.length) := PS.wsN_le _
  clear h
  go_enter Tryz.func73, Tryz.ntmps73
  go_wp2_with fail
  go_loopw [] (fun wr => PeekAt w p s st wr) (fun wr => s.length - (intOf ((wr.cell? ⟨p, 1, none⟩).getD undef)).toNat)
  case atStart => exact h0
  case round =>
    obtain ⟨k, hk, hp, hf⟩ := hrel
    obtain ⟨c0, c1, c2, c3, c4, c5⟩ := hp.cells
    have f1 := hp.frz 1
    have HPR := Lib.hid hp
    have HFR := Lib.hid hf
    have hle : st.at_ + k ≤ s.length := hp.at_le
    rw [show (st.adv k).at_ = st.at_ + k from rfl] at c1
    clear c2 c3 c4 c5 hp hf
    by_cases hlt : k < PS.wsN st.rest
    · obtain ⟨h1, h2⟩ := HW.out k hlt
      have hidx := fun W => str_at s (st.at_ + k) h1 W
      rw [isWs_has] at h2
      have hix : 0 ≤ Lib.indexByte [32, 9, 10, 13] (s.getD (st.at_ + k) 0) := of_decide_eq_true ((index_ge _ _).trans h2)
      have HIX : Hid (∀ W, Calls Tryz.prog 126 #[.string ⟨#[32, 9, 10, 13]⟩, .int .u8 ((s.getD (st.at_ + k) 0).toNat : Nat)] W fun e w' => e = .returned (.int .i64 (Lib.indexByte [32, 9, 10, 13] (s.getD (st.at_ + k) 0))) ∧ w' = W) := fun W => by
        have := HI.out ((s.getD (st.at_ + k) 0).toNat : Nat) W
        simpa using this
      have hput : ∀ n, PAt ((wr.drewN n).setCell ⟨p, 1, none⟩ (.int .i64 ((st.at_ + k + 1 : Nat) : Int))) p s (st.adv (k + 1)) := fun n => by
        have := (show PAt (wr.drewN n) p s (st.adv k) from ⟨HPR.out.row, HPR.out.rest, HPR.out.tot⟩).put_adv 1 (by show 1 ≤ (st.rest.drop k).length; rw [List.length_drop]; have := HN.out; omega)
        rw [PS.adv_adv] at this; exact this
      have HPUT := Lib.hid hput
      clear hput
      have hc' : ((st.at_ + k : Nat) : Int) < (s.length : Nat) := by omega
      clear h2
      generalize Lib.indexByte [32, 9, 10, 13] (s.getD (st.at_ + k) 0) = ix at *
      generalize (s.getD (st.at_ + k) 0).toNat = c at *
      generalize hak : st.at_ + k = a at *
      have HAK := Lib.hid hak
      clear hak
      generalize hss : (⟨s.toArray⟩ : ByteArray) = S at *
      have HSS := Lib.hid hss
      clear hss
      go_wp2_with fail
      go_quiet ((go_at_call 126; exact Calls.quiet_of_same (HIX.out _)))
      go_wp2_with fail
      go_roundw
      case rel => exact ⟨k + 1, hlt, HPUT.out _, (HFR.out.drew _).set _ _⟩
      case measure =>
        have e1 := (HPUT.out nq).cells.2.1
        have e2 : (st.adv (k + 1)).at_ = a + 1 := by rw [← HAK.out]; rfl
        rw [e2] at e1
        have e3 : ((a : Int) + 1) = ((a + 1 : Nat) : Int) := by omega
        rw [e3, e1, c1]
        simp [intOf]; omega
    · obtain rfl : k = PS.wsN st.rest := by omega
      by_cases hat : st.at_ + PS.wsN st.rest < s.length
      · obtain ⟨h2, h3⟩ := HV.out hat
        have hidx := fun W => str_at s (st.at_ + PS.wsN st.rest) hat W
        rw [isWs_has] at h2
        have hix : Lib.indexByte [32, 9, 10, 13] (s.getD (st.at_ + PS.wsN st.rest) 0) < 0 := Int.not_le.1 (of_decide_eq_false ((index_ge _ _).trans h2))
        have HIX : Hid (∀ W, Calls Tryz.prog 126 #[.string ⟨#[32, 9, 10, 13]⟩, .int .u8 ((s.getD (st.at_ + PS.wsN st.rest) 0).toNat : Nat)] W fun e w' => e = .returned (.int .i64 (Lib.indexByte [32, 9, 10, 13] (s.getD (st.at_ + PS.wsN st.rest) 0))) ∧ w' = W) := fun W => by
          have := HI.out ((s.getD (st.at_ + PS.wsN st.rest) 0).toNat : Nat) W
          simpa using this
        have HH : Hid (st.skip.head.toNat = (s.getD (st.at_ + PS.wsN st.rest) 0).toNat) := by show _ = _; rw [h3]
        have hc' : ((st.at_ + PS.wsN st.rest : Nat) : Int) < (s.length : Nat) := by omega
        have HPW : Hid (PAt wr p s st.skip) := HPR.out
        clear h2 h3 HW HV HE
        generalize Lib.indexByte [32, 9, 10, 13] (s.getD (st.at_ + PS.wsN st.rest) 0) = ix at *
        generalize (s.getD (st.at_ + PS.wsN st.rest) 0).toNat = c at *
        generalize hak : st.at_ + PS.wsN st.rest = a at *
        clear hak
        generalize hss : (⟨s.toArray⟩ : ByteArray) = S at *
        clear hss
        go_wp2_with fail
        go_quiet ((go_at_call 126; exact Calls.quiet_of_same (HIX.out _)))
        go_wp2_with fail
        go_quiet (fail)
        go_wp2_with fail
        go_quiet (fail)
        go_wp2_with fail
        go_ret
        exact ⟨by rw [HH.out]; rfl, by repeat (first | exact HPW.out | refine PAt.drew ?_ _), by repeat (first | exact HFR.out | refine Far.drew ?_ _)⟩
      · have h3 := HE.out hat
        have HH : Hid (st.skip.head.toNat = 0) := by show _ = _; rw [h3]; rfl
        have HPW : Hid (PAt wr p s st.skip) := HPR.out
        have hc' : ¬ ((st.at_ + PS.wsN st.rest : Nat) : Int) < (s.length : Nat) := by omega
        have hc2 : ((s.length : Nat) : Int) ≤ ((st.at_ + PS.wsN st.rest : Nat) : Int) := by omega
        clear h3 HW HV HE
        generalize hak : st.at_ + PS.wsN st.rest = a at *
        clear hak
        generalize hss : (⟨s.toArray⟩ : ByteArray) = S at *
        clear hss
        go_wp2_with fail
        go_quiet (fail)
        go_wp2_with fail
        go_quiet (fail)
        go_wp2_with fail
        go_ret
        exact ⟨by rw [HH.out]; rfl, by repeat (first | exact HPW.out | refine PAt.drew ?_ _), by repeat (first | exact HFR.out | refine Far.drew ?_ _)⟩
theorem PS.take_no {st : PS} {b : UInt8} (hr : st.rest ≠ []) (h : ¬ (st.skip.rest ≠ [] ∧ st.skip.head = b)) : st.take b = (st.skip, false) := by unfold PS.take; rw [if_neg hr, if_neg h]
theorem PS.take_yes {st : PS} {b : UInt8} (hr : st.rest ≠ []) (h : st.skip.rest ≠ [] ∧ st.skip.head = b) : st.take b = (st.skip.adv 1, true) := by unfold PS.take; rw [if_neg hr, if_pos h]
set_option maxRecDepth 100000 in
set_option maxHeartbeats 4000000 in
theorem psTake_any (p : Nat) (s : List UInt8) (st : PS) (w : World) (h : PAt w p s st) (hs : s.length ≤ 65536) (b : UInt8) (hb : b ≠ 0) :
    Calls Tryz.prog 130 #[ptr p, .int .u8 (b.toNat : Nat)] w (PsPost p s w (st.take b).1 (.bool (st.take b).2)) := by
  obtain ⟨c0, c1, c2, c3, c4, c5⟩ := h.cells
  have hsz : (⟨s.toArray⟩ : ByteArray).size = s.length := str_size s
  have ht := h.tot
  have hln : st.at_ ≤ s.length := h.at_le
  by_cases hr : st.rest = []
  · have HT : Hid (st.take b = (st, false)) := PS.take_nil hr b
    have hl : st.at_ = s.length := by rw [hr] at ht; simpa using ht
    have hc1 : ¬ ((st.at_ : Nat) : Int) < (s.length : Nat) := by omega
    have hc2 : ¬ st.at_ < s.length := by omega
    have HP := Lib.hid h
    rw [HT.out]
    clear h ht hr hl
    generalize st.at_ = a at *
    go_enter Tryz.func130, Tryz.ntmps130
    go_wp2_with fail
    go_quiet (fail)
    go_wp2_with fail
    go_ret
    exact ⟨rfl, by repeat (first | exact HP.out | refine PAt.drew ?_ _), by repeat (first | exact Far.refl _ _ | refine Far.drew ?_ _)⟩
  · have hl : st.at_ < s.length := by have := List.length_pos_iff.2 hr; omega
    have hc1 : ((st.at_ : Nat) : Int) < (s.length : Nat) := by omega
    have HPK := Lib.hid (fun n => psPeek_any p s st (w.drewN n) (h.drew n) hs)
    have HPK1 := Lib.hid (psPeek_any p s st w.drew ⟨h.row, h.rest, h.tot⟩ hs)
    obtain ⟨S, hS⟩ : ∃ S : World → Prop, ∀ W', S W' ↔ W'.cell? ⟨p, 0, none⟩ = some (.string ⟨s.toArray⟩) := ⟨_, fun _ => Iff.rfl⟩
    have cs : ∀ q : InC S, q.w.cell? ⟨p, 0, none⟩ = some (.string ⟨s.toArray⟩) := fun q => (hS q.w).1 q.h
    have hS0 : S w.drew := (hS _).2 c0
    have hne : Nonempty (InC S) := ⟨⟨_, hS0⟩⟩
    have HS := Lib.hid hS
    have c1' : w.drew.cell? ⟨p, 1, none⟩ = some (.int .i64 (st.at_ : Nat)) := c1
    clear h hS c0 c1 c2 c3 c4 c5 ht
    by_cases hq : st.skip.rest ≠ [] ∧ st.skip.head = b
    · have HT : Hid (st.take b = (st.skip.adv 1, true)) := PS.take_yes hr hq
      have hl2 : 1 ≤ st.skip.rest.length := List.length_pos_iff.2 hq.1
      have HE : Hid (st.skip.head.toNat = b.toNat) := by show _ = _; rw [hq.2]
      have heq : (((st.skip.head.toNat : Nat) : Int) == ((b.toNat : Nat) : Int)) = true := by rw [HE.out]; simp
      rw [HT.out]
      clear hr hl hq
      generalize st.at_ = a at *
      go_enter Tryz.func130, Tryz.ntmps130
      go_wp2_with fail
      refine wp_region_mix S [0, 1, 2, 4, 5, 6, 7, 8, 9, 10, 11, 13, 14, 15, 16, 17, 18, 19, 21, 22, 23, 24, 25, 26, 27] [0, 1, 2, 4, 5, 6, 7, 8, 3, 9, 10, 11, 13, 12, 14, 15, 16, 17, 18, 19, 21, 22, 23, 24, 25, 20, 26, 27] (by kernel_rfl) (by kernel_rfl) hS0 ?_
      (repeat ((with_reducible refine wpMix_read (o := ?_) ?_ ?_ ?_); rotate_left; (· rfl); (· rfl); go_big_quiet_step (fail); (with_reducible refine wpQuiet_nil ?_)))
      refine wpMix_eff (k := true) rfl rfl (by kernel_rfl) ?_
      go_wp2_with fail
      refine mixPost_keep hS0 ?_
      (repeat ((with_reducible refine wpMix_read (o := ?_) ?_ ?_ ?_); rotate_left; (· rfl); (· rfl); go_big_quiet_step (fail); (with_reducible refine wpQuiet_nil ?_)))
      refine wpMix_eff (k := true) rfl rfl (by kernel_rfl) ?_
      go_wp2_with fail
      refine HPK1.out.mono ?_
      rintro e w2 ⟨rfl, hp2, hf2⟩
      have d0 := hp2.cells.1
      have d1 := hp2.cells.2.1
      have hS2 : S w2 := (HS.out _).2 d0
      have f1 := hp2.frz 1
      have HP2 := Lib.hid hp2
      have HF2 := Lib.hid ((show Far p w w.drew from Far.drew (Far.refl p w) 1).trans hf2)
      have ha2 : st.skip.at_ < s.length := by have := hp2.tot; omega
      have hd1 : ((st.skip.at_ : Nat) : Int) < (s.length : Nat) := by omega
      clear hp2 hf2
      obtain ⟨a2, HA2⟩ : ∃ a2, Hid (a2 = st.skip.at_) := ⟨_, rfl⟩
      rw [← HA2.out] at d1 ha2 hd1
      go_wp2_with fail
      refine mixPost_keep hS2 ?_
      (repeat ((with_reducible refine wpMix_read (o := ?_) ?_ ?_ ?_); rotate_left; (· rfl); (· rfl); go_big_quiet_step (fail); (with_reducible refine wpQuiet_nil ?_)))
      refine wpMix_eff (k := true) rfl rfl (by kernel_rfl) ?_
      go_wp2_with fail
      refine mixPost_keep hS2 ?_
      (repeat ((with_reducible refine wpMix_read (o := ?_) ?_ ?_ ?_); rotate_left; (· rfl); (· rfl); go_big_quiet_step (fail); (with_reducible refine wpQuiet_nil ?_)))
      refine wpMix_nil ?_
      go_wp2_with fail
      go_ret
      exact ⟨rfl, HP2.out.put_adv' 1 _ HA2.out hl2, HF2.out.set _ _⟩
    · have HT : Hid (st.take b = (st.skip, false)) := PS.take_no hr hq
      have hne' : st.skip.head ≠ b := fun e => by
        by_cases hr2 : st.skip.rest = []
        · apply hb
          rw [← e]
          show st.skip.rest.headD 0 = 0
          rw [hr2]; rfl
        · exact hq ⟨hr2, e⟩
      have heq : (((st.skip.head.toNat : Nat) : Int) == ((b.toNat : Nat) : Int)) = false := by
        rw [beq_eq_false_iff_ne]
        intro e
        exact hne' (UInt8.toNat_inj.1 (by omega))
      rw [HT.out]
      clear hr hl hq hne' hb HPK
      generalize st.at_ = a at *
      generalize st.skip.head.toNat = c at *
      generalize b.toNat = d at *
      go_enter Tryz.func130, Tryz.ntmps130
      go_wp2_with fail
      refine wp_region_mix S [0, 1, 2, 4, 5, 6, 7, 8, 9, 10, 11, 13, 14, 15, 16, 17, 18, 19, 20, 21, 22, 23, 24, 25, 26, 27] [0, 1, 2, 4, 5, 6, 7, 8, 3, 9, 10, 11, 13, 12, 14, 15, 16, 17, 18, 19, 20, 21, 22, 23, 24, 25, 26, 27] (by kernel_rfl) (by kernel_rfl) hS0 ?_
      (repeat ((with_reducible refine wpMix_read (o := ?_) ?_ ?_ ?_); rotate_left; (· rfl); (· rfl); go_big_quiet_step (fail); (with_reducible refine wpQuiet_nil ?_)))
      refine wpMix_eff (k := true) rfl rfl (by kernel_rfl) ?_
      go_wp2_with fail
      refine mixPost_keep hS0 ?_
      (repeat ((with_reducible refine wpMix_read (o := ?_) ?_ ?_ ?_); rotate_left; (· rfl); (· rfl); go_big_quiet_step (fail); (with_reducible refine wpQuiet_nil ?_)))
      refine wpMix_eff (k := true) rfl rfl (by kernel_rfl) ?_
      go_wp2_with fail
      refine HPK1.out.mono ?_
      rintro e w2 ⟨rfl, hp2, hf2⟩
      have hS2 : S w2 := (HS.out _).2 hp2.cells.1
      have HP2 := Lib.hid hp2
      have HF2 := Lib.hid ((show Far p w w.drew from Far.drew (Far.refl p w) 1).trans hf2)
      clear hp2 hf2
      go_wp2_with fail
      refine mixPost_keep hS2 ?_
      (repeat ((with_reducible refine wpMix_read (o := ?_) ?_ ?_ ?_); rotate_left; (· rfl); (· rfl); go_big_quiet_step (fail); (with_reducible refine wpQuiet_nil ?_)))
      refine wpMix_nil ?_
      go_wp2_with fail
      go_ret
      exact ⟨rfl, HP2.out, HF2.out⟩
end Go.Proofs.YtgamknphlmcgnaaGreatDoor
namespace Go.Proofs.YtgamknphlmcgnaaGreatDoor
open Go.RowKit
theorem strFrom (l : List UInt8) (k : Nat) (h : k ≤ l.length) (w : World) : (Instr.slice 9 (.string ⟨l.toArray⟩) (some (.int .i64 (k : Int))) none none).run Tryz.prog w = .ok (.string ⟨(l.drop k).toArray⟩) w := by
  have hs : (⟨l.toArray⟩ : ByteArray).size = l.length := str_size l
  have e : (⟨l.toArray⟩ : ByteArray).extract k l.length = ⟨(l.drop k).toArray⟩ := by
    refine ByteArray.ext ?_
    rw [ByteArray.data_extract]
    apply Array.toList_inj.1
    simp [List.take_of_length_le]
  simp [Instr.slice, run_underlying Tryz.underlying9, Instr.sliceBounds, hs, go_sem, h, e]
theorem strFromAt (l : List UInt8) (k : Nat) (h : k ≤ l.length) (w : World) : (Instr.sliceAt 9 (.string ⟨l.toArray⟩) (some (.int .i64 (k : Int))) none none).run Tryz.prog w = .ok (.string ⟨(l.drop k).toArray⟩) w := by
  rw [run_sliceAt_string _ _ _ _ _ _ Tryz.underlying9]; exact strFrom l k h w
theorem indexByte_idx (l : List UInt8) (c : UInt8) (h : l.contains c = true) : Lib.indexByte l c = (l.idxOf c : Nat) := by
  induction l with
  | nil => simp at h
  | cons a l ih =>
    rw [Lib.indexByte, List.idxOf_cons]
    by_cases e : a = c
    · simp [e]
    · have h' : l.contains c = true := by
        rw [List.contains_cons] at h
        have : (c == a) = false := by simp; exact fun e2 => e e2.symm
        simpa [this] using h
      have hi := ih h'
      have hb : (a == c) = false := by simpa using e
      have : (((l.idxOf c : Nat) : Int) == -1) = false := by rw [beq_eq_false_iff_ne]; omega
      rw [hi]
      simp [hb, this]
theorem digit_any (c : Nat) (hc : c < 256) (w : World) : Calls Tryz.prog 221 #[.int .u8 (c : Int)] w fun e w' => e = .returned (.int .i64 (Lib.indexByte PS.hexL c.toUInt8)) ∧ w' = w := by
  have HI := Lib.hid (IndexByte_any ⟨#[48, 49, 50, 51, 52, 53, 54, 55, 56, 57, 97, 98, 99, 100, 101, 102]⟩ (c : Int) w)
  have HE : Hid (Lib.indexByte PS.hexL c.toUInt8 = Lib.indexByte (⟨#[48, 49, 50, 51, 52, 53, 54, 55, 56, 57, 97, 98, 99, 100, 101, 102]⟩ : ByteArray).data.toList ((c : Int).toNat.toUInt8)) := by show _ = _; rw [Int.toNat_natCast]; rfl
  rw [HE.out]
  generalize Lib.indexByte (⟨#[48, 49, 50, 51, 52, 53, 54, 55, 56, 57, 97, 98, 99, 100, 101, 102]⟩ : ByteArray).data.toList ((c : Int).toNat.toUInt8) = r at *
  go_enter Tryz.func221, Tryz.ntmps221
  go_wp2_with fail
  refine HI.out.mono ?_
  rintro e w' ⟨rfl, rfl⟩
  go_wp2_with fail
  go_ret
  exact ⟨rfl, rfl⟩
/-- what reading one byte leaves -/
def OnePost (p : Nat) (s : List UInt8) (w : World) (r : PS × Nat) (e : Ending) (w' : World) : Prop := e = .returned (.int .u8 (r.2 : Nat)) ∧ PAt w' p s r.1 ∧ Far p w w'
set_option maxRecDepth 100000 in
theorem one_nil (p : Nat) (s : List UInt8) (st : PS) (w : World) (h : PAt w p s st) (hs : s.length ≤ 65536) (hr : st.rest = []) :
    Calls Tryz.prog 215 #[ptr p] w (OnePost p s w st.one) := by
  have HO : Hid (st.one = (st.fail 2, 0)) := by show _ = _; unfold PS.one; rw [hr]
  rw [HO.out]
  obtain ⟨c0, c1, c2, c3, c4, c5⟩ := h.cells
  have hsz : (⟨s.toArray⟩ : ByteArray).size = s.length := str_size s
  have ht := h.tot
  have hl : st.at_ = s.length := by rw [hr] at ht; simpa using ht
  have hc1 : ¬ ((st.at_ : Nat) : Int) < (s.length : Nat) := by omega
  have hc2 : ¬ st.at_ < s.length := by omega
  have hc3 : ((s.length : Nat) : Int) ≤ ((st.at_ : Nat) : Int) := by omega
  have hc4 : s.length ≤ st.at_ := by omega
  have HF := Lib.hid (fun n => psFail_any p s st (w.drewN n) (h.drew n) hs 2 (by omega))
  clear h ht hr hl c2 c3 c4 c5
  generalize st.at_ = a at *
  go_enter Tryz.func215, Tryz.ntmps215
  go_wp2_with fail
  go_quiet (fail)
  go_wp2_with fail
  refine (HF.out _).mono ?_
  rintro e w2 ⟨rfl, hp2, hf2⟩
  go_wp2_with fail
  go_ret
  exact ⟨rfl, hp2, ((Far.refl _ _).drew _).trans hf2⟩
/-- ahead of the last fail -/
theorem one_at (w : World) (p : Nat) (s : List UInt8) (st : PS) (h : PAt w p s st) (b : UInt8) (r : List UInt8) (hr : st.rest = b :: r) : st.at_ < s.length ∧ s.getD st.at_ 0 = b ∧ s.drop (st.at_ + 1) = r ∧ st.at_ + 1 + r.length = s.length := by
  have ht := h.tot
  have hd := h.rest
  rw [hr] at ht hd
  simp only [List.length_cons] at ht
  refine ⟨by omega, ?_, ?_, by omega⟩
  · have : (s.drop st.at_).getD 0 0 = b := by rw [← hd]; rfl
    rw [drop_getD] at this; simpa using this
  · have : (s.drop st.at_).drop 1 = r := by rw [← hd]; rfl
    rw [List.drop_drop] at this; exact this
set_option maxRecDepth 100000 in
set_option maxHeartbeats 2000000 in
theorem one_plain (p : Nat) (s : List UInt8) (st : PS) (w : World) (h : PAt w p s st) (hs : s.length ≤ 65536) (b : UInt8) (r : List UInt8) (hr : st.rest = b :: r) (hb : b ≠ 92) :
    Calls Tryz.prog 215 #[ptr p] w (OnePost p s w st.one) := by
  have HO : Hid (st.one = if PS.plainBad b then (st.fail 2, 0) else (st.adv 1, b.toNat)) := by show _ = _; unfold PS.one; rw [hr]; simp only; rw [if_pos hb]
  obtain ⟨c0, c1, c2, c3, c4, c5⟩ := h.cells
  have hsz : (⟨s.toArray⟩ : ByteArray).size = s.length := str_size s
  obtain ⟨hl, hg, hd, ht⟩ := one_at w p s st h b r hr
  have hidx := fun W => str_at s st.at_ hl W
  rw [hg] at hidx
  have hc1 : ((st.at_ : Nat) : Int) < (s.length : Nat) := by omega
  have hc2 : ¬ s.length ≤ st.at_ := by omega
  have HF := Lib.hid (fun n => psFail_any p s st (w.drewN n) (h.drew n) hs 2 (by omega))
  have HP := Lib.hid h
  have hk1 : 1 ≤ st.rest.length := by rw [hr]; simp
  have HA := Lib.hid (fun W (hp : PAt W p s st) => hp.put_adv' 1 st.at_ rfl hk1)
  have h92 : (((b.toNat : Nat) : Int) == 92) = false := by rw [beq_eq_false_iff_ne]; intro e; exact hb (UInt8.toNat_inj.1 (by show b.toNat = 92; omega))
  have hbl := b.toNat_lt
  have HIX : Hid (∀ W, Calls Tryz.prog 126 #[.string ⟨#[40, 41, 91, 93, 124, 38, 45, 42, 43, 63, 46, 92, 32, 9, 10, 13]⟩, .int .u8 (b.toNat : Nat)] W fun e w' => e = .returned (.int .i64 (Lib.indexByte specials b)) ∧ w' = W) := fun W => by
    have := IndexByte_any ⟨#[40, 41, 91, 93, 124, 38, 45, 42, 43, 63, 46, 92, 32, 9, 10, 13]⟩ ((b.toNat : Nat) : Int) W
    simpa [specials] using this
  have hge := index_ge specials b
  have f1 := h.frz 1
  have HB : Hid (PS.plainBad b = (decide (b.toNat < 32) || decide (127 ≤ b.toNat) || decide (0 ≤ Lib.indexByte specials b))) := by
    show _ = _
    rw [hge]; unfold PS.plainBad
    congr 1
  clear h hr hl hg hd hb hge c2 c3 c4 c5
  rw [HO.out, HB.out]
  generalize Lib.indexByte specials b = ix at *
  generalize b.toNat = n at *
  generalize hat : st.at_ = a at *
  clear hat
  by_cases h1 : n < 32
  · have h1' : decide ((n : Int) < 32) = true := decide_eq_true (by omega)
    have HX : Hid ((if (decide (n < 32) || decide (127 ≤ n) || decide (0 ≤ ix)) = true then (st.fail 2, 0) else (st.adv 1, n)) = (st.fail 2, 0)) := by show _ = _; simp [h1]
    rw [HX.out]
    go_enter Tryz.func215, Tryz.ntmps215
    go_wp2_with fail
    go_quiet (fail)
    go_wp2_with fail
    go_quiet (fail)
    go_wp2_with fail
    refine (HF.out _).mono ?_
    rintro e w2 ⟨rfl, hp2, hf2⟩
    go_wp2_with fail
    go_ret
    exact ⟨rfl, hp2, ((Far.refl _ _).drew _).trans hf2⟩
  · have h1' : decide ((n : Int) < 32) = false := decide_eq_false (by omega)
    by_cases h2 : 127 ≤ n
    · have h2' : decide ((127 : Int) ≤ (n : Int)) = true := decide_eq_true (by omega)
      have HX : Hid ((if (decide (n < 32) || decide (127 ≤ n) || decide (0 ≤ ix)) = true then (st.fail 2, 0) else (st.adv 1, n)) = (st.fail 2, 0)) := by show _ = _; simp [h2]
      rw [HX.out]
      go_enter Tryz.func215, Tryz.ntmps215
      go_wp2_with fail
      go_quiet (fail)
      go_wp2_with fail
      go_quiet (fail)
      go_wp2_with fail
      refine (HF.out _).mono ?_
      rintro e w2 ⟨rfl, hp2, hf2⟩
      go_wp2_with fail
      go_ret
      exact ⟨rfl, hp2, ((Far.refl _ _).drew _).trans hf2⟩
    · have h2' : decide ((127 : Int) ≤ (n : Int)) = false := decide_eq_false (by omega)
      by_cases h3 : 0 ≤ ix
      · have HX : Hid ((if (decide (n < 32) || decide (127 ≤ n) || decide (0 ≤ ix)) = true then (st.fail 2, 0) else (st.adv 1, n)) = (st.fail 2, 0)) := by show _ = _; simp [h3]
        rw [HX.out]
        go_enter Tryz.func215, Tryz.ntmps215
        go_wp2_with fail
        go_quiet (fail)
        go_wp2_with fail
        go_quiet (fail)
        go_wp2_with fail
        refine (HIX.out _).mono ?_
        rintro e w2 ⟨rfl, rfl⟩
        go_wp2_with fail
        refine (HF.out _).mono ?_
        rintro e w2 ⟨rfl, hp2, hf2⟩
        go_wp2_with fail
        go_ret
        exact ⟨rfl, hp2, ((Far.refl _ _).drew _).trans hf2⟩
      · have HX : Hid ((if (decide (n < 32) || decide (127 ≤ n) || decide (0 ≤ ix)) = true then (st.fail 2, 0) else (st.adv 1, n)) = (st.adv 1, n)) := by show _ = _; simp [h1, h2, h3]
        rw [HX.out]
        go_enter Tryz.func215, Tryz.ntmps215
        go_wp2_with fail
        go_quiet (fail)
        go_wp2_with fail
        go_quiet (fail)
        go_wp2_with fail
        refine (HIX.out _).mono ?_
        rintro e w2 ⟨rfl, rfl⟩
        go_wp2_with fail
        go_ret
        exact ⟨rfl, HA.out _ (HP.out.drew _), (Far.drew (Far.refl _ _) _).set _ _⟩
/-- behind a backslash, c -/
def escW (st : PS) (c : UInt8) (r : List UInt8) : PS × Nat :=
  if c = 110 then (st.adv 2, 10)
  else if c = 116 then (st.adv 2, 9)
  else if c = 120 then
    match r with
    | h :: l :: _ => if PS.isHex h && PS.isHex l then (st.adv 4, PS.hexV h * 16 + PS.hexV l) else (st.fail 2, 0)
    | _ => (st.fail 2, 0)
  else if PS.escOk c then (st.adv 2, c.toNat) else (st.fail 2, 0)
theorem one_esc_eq (st : PS) (c : UInt8) (r : List UInt8) (h : st.rest = 92 :: c :: r) : st.one = escW st c r := by
  unfold PS.one
  rw [h]
  simp only [ne_eq, not_true_eq_false, if_false]
  rfl
theorem one_end_eq (st : PS) (h : st.rest = [92]) : st.one = (st.fail 2, 0) := by
  unfold PS.one
  rw [h]
  simp
theorem hexV_idx (c : UInt8) (h : PS.isHex c = true) : Lib.indexByte PS.hexL c = (PS.hexV c : Nat) := indexByte_idx _ _ h
theorem hexV_neg (c : UInt8) (h : PS.isHex c = false) : Lib.indexByte PS.hexL c < 0 := by
  have := index_ge PS.hexL c
  rw [show PS.hexL.contains c = false from h] at this
  exact Int.not_le.1 (of_decide_eq_false this)
end Go.Proofs.YtgamknphlmcgnaaGreatDoor
namespace Go.Proofs.YtgamknphlmcgnaaGreatDoor
open Go.RowKit
set_option maxRecDepth 100000 in
set_option maxHeartbeats 4000000 in
theorem slash_nil (p : Nat) (s : List UInt8) (st : PS) (w : World) (h : PAt w p s st) (hs : s.length ≤ 65536) (hr : st.rest = 92 :: []) :
    Calls Tryz.prog 215 #[ptr p] w (OnePost p s w (st.fail 2, 0)) := by
  obtain ⟨c0, c1, c2, c3, c4, c5⟩ := h.cells
  have hsz : (⟨s.toArray⟩ : ByteArray).size = s.length := str_size s
  obtain ⟨hl, hg, hd, ht⟩ := one_at w p s st h 92 [] hr
  have hidx := fun W => str_at s st.at_ hl W
  rw [hg] at hidx
  have hc1 : ((st.at_ : Nat) : Int) < (s.length : Nat) := by omega
  have hc2 : ¬ s.length ≤ st.at_ := by omega
  have hc3 : ((st.at_ : Nat) : Int) + 1 ≤ (s.length : Nat) := by omega
  have hf1 := fun W => strFrom s (st.at_ + 1) (by omega) W
  have hf2 := fun W => strFromAt s (st.at_ + 1) (by omega) W
  rw [hd, show ((st.at_ + 1 : Nat) : Int) = (st.at_ : Int) + 1 by omega] at hf1 hf2
  have hwr : IntKind.i64.wrap ((st.at_ : Int) + 1) = (st.at_ : Int) + 1 := by rw [IntKind.wrap_i64]; omega
  have HF := Lib.hid (fun W (hp : PAt W p s st) => psFail_any p s st W hp hs 2 (by omega))
  have HP := Lib.hid h
  have HR2 : Hid (st.rest.length = ([] : List UInt8).length + 1) := by show _ = _; rw [hr]; simp
  have HA := Lib.hid (fun W (hp : PAt W p s st) k (hk : k ≤ st.rest.length) => hp.put_adv' k st.at_ rfl hk)
  have f1 := h.frz 1
  clear h hr hl hg hd c2 c3 c4 c5
  generalize hat : st.at_ = a at *
  clear hat
  go_enter Tryz.func215, Tryz.ntmps215
  go_wp2_with fail
  go_quiet (fail)
  go_wp2_with fail
  go_quiet (fail)
  go_wp2_with fail
  go_quiet (fail)
  go_wp2_with fail
  refine (HF.out _ (by repeat (first | exact HP.out | refine PAt.drew ?_ _))).mono ?_
  rintro e w2 ⟨rfl, hp2, hf2⟩
  go_wp2_with fail
  go_ret
  exact ⟨rfl, hp2, (by repeat (first | exact Far.refl _ _ | refine Far.drew ?_ _) : Far p w _).trans hf2⟩
set_option maxRecDepth 100000 in
set_option maxHeartbeats 4000000 in
theorem slash_n (p : Nat) (s : List UInt8) (st : PS) (w : World) (h : PAt w p s st) (hs : s.length ≤ 65536) (r : List UInt8) (hr : st.rest = 92 :: (110 :: r)) :
    Calls Tryz.prog 215 #[ptr p] w (OnePost p s w (st.adv 2, 10)) := by
  obtain ⟨c0, c1, c2, c3, c4, c5⟩ := h.cells
  have hsz : (⟨s.toArray⟩ : ByteArray).size = s.length := str_size s
  obtain ⟨hl, hg, hd, ht⟩ := one_at w p s st h 92 (110 :: r) hr
  have hidx := fun W => str_at s st.at_ hl W
  rw [hg] at hidx
  have hc1 : ((st.at_ : Nat) : Int) < (s.length : Nat) := by omega
  have hc2 : ¬ s.length ≤ st.at_ := by omega
  have hc3 : ((st.at_ : Nat) : Int) + 1 ≤ (s.length : Nat) := by omega
  have hf1 := fun W => strFrom s (st.at_ + 1) (by omega) W
  have hf2 := fun W => strFromAt s (st.at_ + 1) (by omega) W
  rw [hd, show ((st.at_ + 1 : Nat) : Int) = (st.at_ : Int) + 1 by omega] at hf1 hf2
  have hwr : IntKind.i64.wrap ((st.at_ : Int) + 1) = (st.at_ : Int) + 1 := by rw [IntKind.wrap_i64]; omega
  have HF := Lib.hid (fun W (hp : PAt W p s st) => psFail_any p s st W hp hs 2 (by omega))
  have HP := Lib.hid h
  have HR2 : Hid (st.rest.length = ((110 :: r) : List UInt8).length + 1) := by show _ = _; rw [hr]; simp
  have HA := Lib.hid (fun W (hp : PAt W p s st) k (hk : k ≤ st.rest.length) => hp.put_adv' k st.at_ rfl hk)
  have f1 := h.frz 1
  clear h hr hl hg hd c2 c3 c4 c5
  generalize hat : st.at_ = a at *
  clear hat
  have hz : (⟨(110 :: r).toArray⟩ : ByteArray).size = r.length + 1 := str_size (110 :: r)
  have HR2 : Hid (st.rest.length = r.length + 2) := by show _ = _; have := HR2.out; simpa using this
  go_enter Tryz.func215, Tryz.ntmps215
  go_wp2_with fail
  go_quiet (fail)
  go_wp2_with fail
  go_quiet (fail)
  go_wp2_with fail
  go_quiet (fail)
  go_wp2_with fail
  go_ret
  exact ⟨rfl, HA.out _ (by repeat (first | exact HP.out | refine PAt.drew ?_ _)) 2 (by have := HR2.out; omega), (by repeat (first | exact Far.refl _ _ | refine Far.drew ?_ _ | refine Far.set ?_ _ _))⟩
set_option maxRecDepth 100000 in
set_option maxHeartbeats 4000000 in
theorem slash_t (p : Nat) (s : List UInt8) (st : PS) (w : World) (h : PAt w p s st) (hs : s.length ≤ 65536) (r : List UInt8) (hr : st.rest = 92 :: (116 :: r)) :
    Calls Tryz.prog 215 #[ptr p] w (OnePost p s w (st.adv 2, 9)) := by
  obtain ⟨c0, c1, c2, c3, c4, c5⟩ := h.cells
  have hsz : (⟨s.toArray⟩ : ByteArray).size = s.length := str_size s
  obtain ⟨hl, hg, hd, ht⟩ := one_at w p s st h 92 (116 :: r) hr
  have hidx := fun W => str_at s st.at_ hl W
  rw [hg] at hidx
  have hc1 : ((st.at_ : Nat) : Int) < (s.length : Nat) := by omega
  have hc2 : ¬ s.length ≤ st.at_ := by omega
  have hc3 : ((st.at_ : Nat) : Int) + 1 ≤ (s.length : Nat) := by omega
  have hf1 := fun W => strFrom s (st.at_ + 1) (by omega) W
  have hf2 := fun W => strFromAt s (st.at_ + 1) (by omega) W
  rw [hd, show ((st.at_ + 1 : Nat) : Int) = (st.at_ : Int) + 1 by omega] at hf1 hf2
  have hwr : IntKind.i64.wrap ((st.at_ : Int) + 1) = (st.at_ : Int) + 1 := by rw [IntKind.wrap_i64]; omega
  have HF := Lib.hid (fun W (hp : PAt W p s st) => psFail_any p s st W hp hs 2 (by omega))
  have HP := Lib.hid h
  have HR2 : Hid (st.rest.length = ((116 :: r) : List UInt8).length + 1) := by show _ = _; rw [hr]; simp
  have HA := Lib.hid (fun W (hp : PAt W p s st) k (hk : k ≤ st.rest.length) => hp.put_adv' k st.at_ rfl hk)
  have f1 := h.frz 1
  clear h hr hl hg hd c2 c3 c4 c5
  generalize hat : st.at_ = a at *
  clear hat
  have hz : (⟨(116 :: r).toArray⟩ : ByteArray).size = r.length + 1 := str_size (116 :: r)
  have HR2 : Hid (st.rest.length = r.length + 2) := by show _ = _; have := HR2.out; simpa using this
  go_enter Tryz.func215, Tryz.ntmps215
  go_wp2_with fail
  go_quiet (fail)
  go_wp2_with fail
  go_quiet (fail)
  go_wp2_with fail
  go_quiet (fail)
  go_wp2_with fail
  go_ret
  exact ⟨rfl, HA.out _ (by repeat (first | exact HP.out | refine PAt.drew ?_ _)) 2 (by have := HR2.out; omega), (by repeat (first | exact Far.refl _ _ | refine Far.drew ?_ _ | refine Far.set ?_ _ _))⟩
set_option maxRecDepth 100000 in
set_option maxHeartbeats 4000000 in
theorem slash_x_short (p : Nat) (s : List UInt8) (st : PS) (w : World) (h : PAt w p s st) (hs : s.length ≤ 65536) (r : List UInt8) (h3 : r.length < 2) (hr : st.rest = 92 :: (120 :: r)) :
    Calls Tryz.prog 215 #[ptr p] w (OnePost p s w (st.fail 2, 0)) := by
  obtain ⟨c0, c1, c2, c3, c4, c5⟩ := h.cells
  have hsz : (⟨s.toArray⟩ : ByteArray).size = s.length := str_size s
  obtain ⟨hl, hg, hd, ht⟩ := one_at w p s st h 92 (120 :: r) hr
  have hidx := fun W => str_at s st.at_ hl W
  rw [hg] at hidx
  have hc1 : ((st.at_ : Nat) : Int) < (s.length : Nat) := by omega
  have hc2 : ¬ s.length ≤ st.at_ := by omega
  have hc3 : ((st.at_ : Nat) : Int) + 1 ≤ (s.length : Nat) := by omega
  have hf1 := fun W => strFrom s (st.at_ + 1) (by omega) W
  have hf2 := fun W => strFromAt s (st.at_ + 1) (by omega) W
  rw [hd, show ((st.at_ + 1 : Nat) : Int) = (st.at_ : Int) + 1 by omega] at hf1 hf2
  have hwr : IntKind.i64.wrap ((st.at_ : Int) + 1) = (st.at_ : Int) + 1 := by rw [IntKind.wrap_i64]; omega
  have HF := Lib.hid (fun W (hp : PAt W p s st) => psFail_any p s st W hp hs 2 (by omega))
  have HP := Lib.hid h
  have HR2 : Hid (st.rest.length = ((120 :: r) : List UInt8).length + 1) := by show _ = _; rw [hr]; simp
  have HA := Lib.hid (fun W (hp : PAt W p s st) k (hk : k ≤ st.rest.length) => hp.put_adv' k st.at_ rfl hk)
  have f1 := h.frz 1
  clear h hr hl hg hd c2 c3 c4 c5
  generalize hat : st.at_ = a at *
  clear hat
  have hz : (⟨(120 :: r).toArray⟩ : ByteArray).size = r.length + 1 := str_size (120 :: r)
  have g3 : ¬ (3 : Int) ≤ ((r.length : Nat) : Int) + 1 := by omega
  have g4 : ¬ 3 ≤ r.length + 1 := by omega
  have g5 : ¬ 2 ≤ r.length := by omega
  go_enter Tryz.func215, Tryz.ntmps215
  go_wp2_with fail
  go_quiet (fail)
  go_wp2_with fail
  go_quiet (fail)
  go_wp2_with fail
  go_quiet (fail)
  go_wp2_with fail
  refine (HF.out _ (by repeat (first | exact HP.out | refine PAt.drew ?_ _))).mono ?_
  rintro e w2 ⟨rfl, hp2, hf2⟩
  go_wp2_with fail
  go_ret
  exact ⟨rfl, hp2, (by repeat (first | exact Far.refl _ _ | refine Far.drew ?_ _) : Far p w _).trans hf2⟩
theorem hex_or : ∀ x y : Nat, x < 16 → y < 16 → bits .or .i64 ((x : Int) * 16) (y : Int) % 256 = ((x * 16 + y : Nat) : Int) := by
  have key : ∀ x : Nat, x < 16 → ∀ y : Nat, y < 16 → bits .or .i64 ((x : Int) * 16) (y : Int) % 256 = ((x * 16 + y : Nat) : Int) := by decide +kernel
  exact fun x y hx hy => key x hx y hy
set_option maxRecDepth 100000 in
set_option maxHeartbeats 4000000 in
theorem slash_hex (p : Nat) (s : List UInt8) (st : PS) (w : World) (h : PAt w p s st) (hs : s.length ≤ 65536) (h1 h2 : UInt8) (r : List UInt8) (hx1 : PS.isHex h1 = true) (hx2 : PS.isHex h2 = true) (hr : st.rest = 92 :: (120 :: h1 :: h2 :: r)) :
    Calls Tryz.prog 215 #[ptr p] w (OnePost p s w (st.adv 4, PS.hexV h1 * 16 + PS.hexV h2)) := by
  obtain ⟨c0, c1, c2, c3, c4, c5⟩ := h.cells
  have hsz : (⟨s.toArray⟩ : ByteArray).size = s.length := str_size s
  obtain ⟨hl, hg, hd, ht⟩ := one_at w p s st h 92 (120 :: h1 :: h2 :: r) hr
  have hidx := fun W => str_at s st.at_ hl W
  rw [hg] at hidx
  have hc1 : ((st.at_ : Nat) : Int) < (s.length : Nat) := by omega
  have hc2 : ¬ s.length ≤ st.at_ := by omega
  have hc3 : ((st.at_ : Nat) : Int) + 1 ≤ (s.length : Nat) := by omega
  have hf1 := fun W => strFrom s (st.at_ + 1) (by omega) W
  have hf2 := fun W => strFromAt s (st.at_ + 1) (by omega) W
  rw [hd, show ((st.at_ + 1 : Nat) : Int) = (st.at_ : Int) + 1 by omega] at hf1 hf2
  have hwr : IntKind.i64.wrap ((st.at_ : Int) + 1) = (st.at_ : Int) + 1 := by rw [IntKind.wrap_i64]; omega
  have HF := Lib.hid (fun W (hp : PAt W p s st) => psFail_any p s st W hp hs 2 (by omega))
  have HP := Lib.hid h
  have HR2 : Hid (st.rest.length = ((120 :: h1 :: h2 :: r) : List UInt8).length + 1) := by show _ = _; rw [hr]; simp
  have HA := Lib.hid (fun W (hp : PAt W p s st) k (hk : k ≤ st.rest.length) => hp.put_adv' k st.at_ rfl hk)
  have f1 := h.frz 1
  clear h hr hl hg hd c2 c3 c4 c5
  generalize hat : st.at_ = a at *
  clear hat
  have hz : (⟨(120 :: h1 :: h2 :: r).toArray⟩ : ByteArray).size = (h1 :: h2 :: r).length + 1 := str_size (120 :: h1 :: h2 :: r)
  have hi1 := fun W => str_at (120 :: h1 :: h2 :: r) 1 (by simp) W
  have hi2 := fun W => str_at (120 :: h1 :: h2 :: r) 2 (by simp) W
  have HD1 := Lib.hid (fun W => digit_any h1.toNat h1.toNat_lt W)
  have HD2 := Lib.hid (fun W => digit_any h2.toNat h2.toNat_lt W)
  have g3 : (3 : Int) ≤ (((h1 :: h2 :: r).length : Nat) : Int) + 1 := by simp; omega
  have hb1 : h1.toNat.toUInt8 = h1 := by simp
  have hb2 : h2.toNat.toUInt8 = h2 := by simp
  rw [hb1] at HD1
  rw [hb2] at HD2
  have hx4 : 4 ≤ st.rest.length := by rw [HR2.out]; simp
  have HR2 := Lib.hid hx4
  clear hb1 hb2 hx4
  have hv1 := hexV_idx h1 hx1
  have hl1 := PS.hexV_lt hx1
  rw [hv1] at HD1
  have gd1 : (0 : Int) ≤ ((PS.hexV h1 : Nat) : Int) := by omega
  have hv2 := hexV_idx h2 hx2
  have hl2 := PS.hexV_lt hx2
  rw [hv2] at HD2
  have gd2 : (0 : Int) ≤ ((PS.hexV h2 : Nat) : Int) := by omega
  clear hv1 hv2 hx1 hx2
  generalize PS.hexV h1 = x at *
  generalize PS.hexV h2 = y at *
  go_enter Tryz.func215, Tryz.ntmps215
  go_wp2_with fail
  go_quiet (fail)
  go_wp2_with fail
  go_quiet (fail)
  go_wp2_with fail
  go_quiet (fail)
  go_wp2_with fail
  refine (HD1.out _).mono ?_
  rintro e w' ⟨rfl, rfl⟩
  go_wp2_with fail
  refine (HD2.out _).mono ?_
  rintro e w' ⟨rfl, rfl⟩
  go_wp2_with fail
  go_quiet (first | (exact Calls.quiet_of_same (HD1.out _)) | (exact Calls.quiet_of_same (HD2.out _)))
  go_wp2_with fail
  go_ret
  exact ⟨congrArg (fun z => Ending.returned (.int .u8 z)) (hex_or x y hl1 hl2), (HA.out _ (by repeat (first | exact HP.out | refine PAt.drew ?_ _)) 4 HR2.out).drew _, (by repeat (first | exact Far.refl _ _ | refine Far.drew ?_ _ | refine Far.set ?_ _ _))⟩
set_option maxRecDepth 100000 in
set_option maxHeartbeats 4000000 in
theorem slash_hex1 (p : Nat) (s : List UInt8) (st : PS) (w : World) (h : PAt w p s st) (hs : s.length ≤ 65536) (h1 h2 : UInt8) (r : List UInt8) (hx1 : PS.isHex h1 = true) (hx2 : PS.isHex h2 = false) (hr : st.rest = 92 :: (120 :: h1 :: h2 :: r)) :
    Calls Tryz.prog 215 #[ptr p] w (OnePost p s w (st.fail 2, 0)) := by
  obtain ⟨c0, c1, c2, c3, c4, c5⟩ := h.cells
  have hsz : (⟨s.toArray⟩ : ByteArray).size = s.length := str_size s
  obtain ⟨hl, hg, hd, ht⟩ := one_at w p s st h 92 (120 :: h1 :: h2 :: r) hr
  have hidx := fun W => str_at s st.at_ hl W
  rw [hg] at hidx
  have hc1 : ((st.at_ : Nat) : Int) < (s.length : Nat) := by omega
  have hc2 : ¬ s.length ≤ st.at_ := by omega
  have hc3 : ((st.at_ : Nat) : Int) + 1 ≤ (s.length : Nat) := by omega
  have hf1 := fun W => strFrom s (st.at_ + 1) (by omega) W
  have hf2 := fun W => strFromAt s (st.at_ + 1) (by omega) W
  rw [hd, show ((st.at_ + 1 : Nat) : Int) = (st.at_ : Int) + 1 by omega] at hf1 hf2
  have hwr : IntKind.i64.wrap ((st.at_ : Int) + 1) = (st.at_ : Int) + 1 := by rw [IntKind.wrap_i64]; omega
  have HF := Lib.hid (fun W (hp : PAt W p s st) => psFail_any p s st W hp hs 2 (by omega))
  have HP := Lib.hid h
  have HR2 : Hid (st.rest.length = ((120 :: h1 :: h2 :: r) : List UInt8).length + 1) := by show _ = _; rw [hr]; simp
  have HA := Lib.hid (fun W (hp : PAt W p s st) k (hk : k ≤ st.rest.length) => hp.put_adv' k st.at_ rfl hk)
  have f1 := h.frz 1
  clear h hr hl hg hd c2 c3 c4 c5
  generalize hat : st.at_ = a at *
  clear hat
  have hz : (⟨(120 :: h1 :: h2 :: r).toArray⟩ : ByteArray).size = (h1 :: h2 :: r).length + 1 := str_size (120 :: h1 :: h2 :: r)
  have hi1 := fun W => str_at (120 :: h1 :: h2 :: r) 1 (by simp) W
  have hi2 := fun W => str_at (120 :: h1 :: h2 :: r) 2 (by simp) W
  have HD1 := Lib.hid (fun W => digit_any h1.toNat h1.toNat_lt W)
  have HD2 := Lib.hid (fun W => digit_any h2.toNat h2.toNat_lt W)
  have g3 : (3 : Int) ≤ (((h1 :: h2 :: r).length : Nat) : Int) + 1 := by simp; omega
  have hb1 : h1.toNat.toUInt8 = h1 := by simp
  have hb2 : h2.toNat.toUInt8 = h2 := by simp
  rw [hb1] at HD1
  rw [hb2] at HD2
  have hx4 : 4 ≤ st.rest.length := by rw [HR2.out]; simp
  have HR2 := Lib.hid hx4
  clear hb1 hb2 hx4
  have hv1 := hexV_idx h1 hx1
  have hl1 := PS.hexV_lt hx1
  rw [hv1] at HD1
  have gd1 : (0 : Int) ≤ ((PS.hexV h1 : Nat) : Int) := by omega
  have hv2 := hexV_neg h2 hx2
  clear hv1 hx1 hx2
  generalize PS.hexV h1 = x at *
  generalize Lib.indexByte PS.hexL h2 = y at *
  have gd2 : ¬ (0 : Int) ≤ y := by omega
  go_enter Tryz.func215, Tryz.ntmps215
  go_wp2_with fail
  go_quiet (fail)
  go_wp2_with fail
  go_quiet (fail)
  go_wp2_with fail
  go_quiet (fail)
  go_wp2_with fail
  refine (HD1.out _).mono ?_
  rintro e w' ⟨rfl, rfl⟩
  go_wp2_with fail
  refine (HD2.out _).mono ?_
  rintro e w' ⟨rfl, rfl⟩
  go_wp2_with fail
  refine (HF.out _ (by repeat (first | exact HP.out | refine PAt.drew ?_ _))).mono ?_
  rintro e w2 ⟨rfl, hp2, hf2⟩
  go_wp2_with fail
  go_ret
  exact ⟨rfl, hp2, (by repeat (first | exact Far.refl _ _ | refine Far.drew ?_ _) : Far p w _).trans hf2⟩
set_option maxRecDepth 100000 in
set_option maxHeartbeats 4000000 in
theorem slash_hex0 (p : Nat) (s : List UInt8) (st : PS) (w : World) (h : PAt w p s st) (hs : s.length ≤ 65536) (h1 h2 : UInt8) (r : List UInt8) (hx1 : PS.isHex h1 = false) (hr : st.rest = 92 :: (120 :: h1 :: h2 :: r)) :
    Calls Tryz.prog 215 #[ptr p] w (OnePost p s w (st.fail 2, 0)) := by
  obtain ⟨c0, c1, c2, c3, c4, c5⟩ := h.cells
  have hsz : (⟨s.toArray⟩ : ByteArray).size = s.length := str_size s
  obtain ⟨hl, hg, hd, ht⟩ := one_at w p s st h 92 (120 :: h1 :: h2 :: r) hr
  have hidx := fun W => str_at s st.at_ hl W
  rw [hg] at hidx
  have hc1 : ((st.at_ : Nat) : Int) < (s.length : Nat) := by omega
  have hc2 : ¬ s.length ≤ st.at_ := by omega
  have hc3 : ((st.at_ : Nat) : Int) + 1 ≤ (s.length : Nat) := by omega
  have hf1 := fun W => strFrom s (st.at_ + 1) (by omega) W
  have hf2 := fun W => strFromAt s (st.at_ + 1) (by omega) W
  rw [hd, show ((st.at_ + 1 : Nat) : Int) = (st.at_ : Int) + 1 by omega] at hf1 hf2
  have hwr : IntKind.i64.wrap ((st.at_ : Int) + 1) = (st.at_ : Int) + 1 := by rw [IntKind.wrap_i64]; omega
  have HF := Lib.hid (fun W (hp : PAt W p s st) => psFail_any p s st W hp hs 2 (by omega))
  have HP := Lib.hid h
  have HR2 : Hid (st.rest.length = ((120 :: h1 :: h2 :: r) : List UInt8).length + 1) := by show _ = _; rw [hr]; simp
  have HA := Lib.hid (fun W (hp : PAt W p s st) k (hk : k ≤ st.rest.length) => hp.put_adv' k st.at_ rfl hk)
  have f1 := h.frz 1
  clear h hr hl hg hd c2 c3 c4 c5
  generalize hat : st.at_ = a at *
  clear hat
  have hz : (⟨(120 :: h1 :: h2 :: r).toArray⟩ : ByteArray).size = (h1 :: h2 :: r).length + 1 := str_size (120 :: h1 :: h2 :: r)
  have hi1 := fun W => str_at (120 :: h1 :: h2 :: r) 1 (by simp) W
  have hi2 := fun W => str_at (120 :: h1 :: h2 :: r) 2 (by simp) W
  have HD1 := Lib.hid (fun W => digit_any h1.toNat h1.toNat_lt W)
  have HD2 := Lib.hid (fun W => digit_any h2.toNat h2.toNat_lt W)
  have g3 : (3 : Int) ≤ (((h1 :: h2 :: r).length : Nat) : Int) + 1 := by simp; omega
  have hb1 : h1.toNat.toUInt8 = h1 := by simp
  have hb2 : h2.toNat.toUInt8 = h2 := by simp
  rw [hb1] at HD1
  rw [hb2] at HD2
  have hx4 : 4 ≤ st.rest.length := by rw [HR2.out]; simp
  have HR2 := Lib.hid hx4
  clear hb1 hb2 hx4
  have hv1 := hexV_neg h1 hx1
  clear hx1
  generalize Lib.indexByte PS.hexL h1 = x at *
  have gd1 : ¬ (0 : Int) ≤ x := by omega
  go_enter Tryz.func215, Tryz.ntmps215
  go_wp2_with fail
  go_quiet (fail)
  go_wp2_with fail
  go_quiet (fail)
  go_wp2_with fail
  go_quiet (fail)
  go_wp2_with fail
  refine (HD1.out _).mono ?_
  rintro e w' ⟨rfl, rfl⟩
  go_wp2_with fail
  refine (HF.out _ (by repeat (first | exact HP.out | refine PAt.drew ?_ _))).mono ?_
  rintro e w2 ⟨rfl, hp2, hf2⟩
  go_wp2_with fail
  go_ret
  exact ⟨rfl, hp2, (by repeat (first | exact Far.refl _ _ | refine Far.drew ?_ _) : Far p w _).trans hf2⟩
end Go.Proofs.YtgamknphlmcgnaaGreatDoor
namespace Go.Proofs.YtgamknphlmcgnaaGreatDoor
open Go.RowKit
set_option maxRecDepth 100000 in
set_option maxHeartbeats 4000000 in
theorem sl_space (p : Nat) (s : List UInt8) (st : PS) (w : World) (h : PAt w p s st) (hs : s.length ≤ 65536) (c : UInt8) (r : List UInt8) (hno : c.toNat ≠ 110 ∧ c.toNat ≠ 116 ∧ c.toNat ≠ 120) (hk : c.toNat = 32) (hr : st.rest = 92 :: (c :: r)) :
    Calls Tryz.prog 215 #[ptr p] w (OnePost p s w (st.adv 2, c.toNat)) := by
  obtain ⟨c0, c1, c2, c3, c4, c5⟩ := h.cells
  have hsz : (⟨s.toArray⟩ : ByteArray).size = s.length := str_size s
  obtain ⟨hl, hg, hd, ht⟩ := one_at w p s st h 92 (c :: r) hr
  have hidx := fun W => str_at s st.at_ hl W
  rw [hg] at hidx
  have hc1 : ((st.at_ : Nat) : Int) < (s.length : Nat) := by omega
  have hc2 : ¬ s.length ≤ st.at_ := by omega
  have hc3 : ((st.at_ : Nat) : Int) + 1 ≤ (s.length : Nat) := by omega
  have hf1 := fun W => strFrom s (st.at_ + 1) (by omega) W
  have hf2 := fun W => strFromAt s (st.at_ + 1) (by omega) W
  rw [hd, show ((st.at_ + 1 : Nat) : Int) = (st.at_ : Int) + 1 by omega] at hf1 hf2
  have hwr : IntKind.i64.wrap ((st.at_ : Int) + 1) = (st.at_ : Int) + 1 := by rw [IntKind.wrap_i64]; omega
  have HF := Lib.hid (fun W (hp : PAt W p s st) => psFail_any p s st W hp hs 2 (by omega))
  have HP := Lib.hid h
  have HR2 : Hid (st.rest.length = ((c :: r) : List UInt8).length + 1) := by show _ = _; rw [hr]; simp
  have HA := Lib.hid (fun W (hp : PAt W p s st) k (hk : k ≤ st.rest.length) => hp.put_adv' k st.at_ rfl hk)
  have f1 := h.frz 1
  clear h hr hl hg hd c2 c3 c4 c5
  generalize hat : st.at_ = a at *
  clear hat
  have hz : (⟨(c :: r).toArray⟩ : ByteArray).size = r.length + 1 := str_size (c :: r)
  have hix : (⟨(c :: r).toArray⟩ : ByteArray)[0].toNat = c.toNat := rfl
  have HR2 : Hid (st.rest.length = r.length + 2) := by show _ = _; have := HR2.out; simpa using this
  have hcl := c.toNat_lt
  have g110 : (((c.toNat : Nat) : Int) == 110) = false := by rw [beq_eq_false_iff_ne]; omega
  have g116 : (((c.toNat : Nat) : Int) == 116) = false := by rw [beq_eq_false_iff_ne]; omega
  have g120 : (((c.toNat : Nat) : Int) == 120) = false := by rw [beq_eq_false_iff_ne]; omega
  generalize c.toNat = n at *
  have b1 : ¬ (32 : Int) < (n : Int) := by omega
  have q32 : ((n : Int) == 32) = true := by rw [hk]; rfl
  clear hno hk
  go_enter Tryz.func215, Tryz.ntmps215
  go_wp2_with fail
  go_quiet (fail)
  go_wp2_with fail
  go_quiet (fail)
  go_wp2_with fail
  go_quiet (fail)
  go_wp2_with fail
  go_ret
  exact ⟨rfl, HA.out _ (by repeat (first | exact HP.out | refine PAt.drew ?_ _)) 2 (by have := HR2.out; omega), (by repeat (first | exact Far.refl _ _ | refine Far.drew ?_ _ | refine Far.set ?_ _ _))⟩
set_option maxRecDepth 100000 in
set_option maxHeartbeats 4000000 in
theorem sl_low (p : Nat) (s : List UInt8) (st : PS) (w : World) (h : PAt w p s st) (hs : s.length ≤ 65536) (c : UInt8) (r : List UInt8) (hno : c.toNat ≠ 110 ∧ c.toNat ≠ 116 ∧ c.toNat ≠ 120) (hk : c.toNat < 32) (hr : st.rest = 92 :: (c :: r)) :
    Calls Tryz.prog 215 #[ptr p] w (OnePost p s w (st.fail 2, 0)) := by
  obtain ⟨c0, c1, c2, c3, c4, c5⟩ := h.cells
  have hsz : (⟨s.toArray⟩ : ByteArray).size = s.length := str_size s
  obtain ⟨hl, hg, hd, ht⟩ := one_at w p s st h 92 (c :: r) hr
  have hidx := fun W => str_at s st.at_ hl W
  rw [hg] at hidx
  have hc1 : ((st.at_ : Nat) : Int) < (s.length : Nat) := by omega
  have hc2 : ¬ s.length ≤ st.at_ := by omega
  have hc3 : ((st.at_ : Nat) : Int) + 1 ≤ (s.length : Nat) := by omega
  have hf1 := fun W => strFrom s (st.at_ + 1) (by omega) W
  have hf2 := fun W => strFromAt s (st.at_ + 1) (by omega) W
  rw [hd, show ((st.at_ + 1 : Nat) : Int) = (st.at_ : Int) + 1 by omega] at hf1 hf2
  have hwr : IntKind.i64.wrap ((st.at_ : Int) + 1) = (st.at_ : Int) + 1 := by rw [IntKind.wrap_i64]; omega
  have HF := Lib.hid (fun W (hp : PAt W p s st) => psFail_any p s st W hp hs 2 (by omega))
  have HP := Lib.hid h
  have HR2 : Hid (st.rest.length = ((c :: r) : List UInt8).length + 1) := by show _ = _; rw [hr]; simp
  have HA := Lib.hid (fun W (hp : PAt W p s st) k (hk : k ≤ st.rest.length) => hp.put_adv' k st.at_ rfl hk)
  have f1 := h.frz 1
  clear h hr hl hg hd c2 c3 c4 c5
  generalize hat : st.at_ = a at *
  clear hat
  have hz : (⟨(c :: r).toArray⟩ : ByteArray).size = r.length + 1 := str_size (c :: r)
  have hix : (⟨(c :: r).toArray⟩ : ByteArray)[0].toNat = c.toNat := rfl
  have HR2 : Hid (st.rest.length = r.length + 2) := by show _ = _; have := HR2.out; simpa using this
  have hcl := c.toNat_lt
  have g110 : (((c.toNat : Nat) : Int) == 110) = false := by rw [beq_eq_false_iff_ne]; omega
  have g116 : (((c.toNat : Nat) : Int) == 116) = false := by rw [beq_eq_false_iff_ne]; omega
  have g120 : (((c.toNat : Nat) : Int) == 120) = false := by rw [beq_eq_false_iff_ne]; omega
  generalize c.toNat = n at *
  have b1 : ¬ (32 : Int) < (n : Int) := by omega
  have q32 : ((n : Int) == 32) = false := by rw [beq_eq_false_iff_ne]; omega
  clear hno hk
  go_enter Tryz.func215, Tryz.ntmps215
  go_wp2_with fail
  go_quiet (fail)
  go_wp2_with fail
  go_quiet (fail)
  go_wp2_with fail
  go_quiet (fail)
  go_wp2_with fail
  refine (HF.out _ (by repeat (first | exact HP.out | refine PAt.drew ?_ _))).mono ?_
  rintro e w2 ⟨rfl, hp2, hf2⟩
  go_wp2_with fail
  go_ret
  exact ⟨rfl, hp2, (by repeat (first | exact Far.refl _ _ | refine Far.drew ?_ _) : Far p w _).trans hf2⟩
set_option maxRecDepth 100000 in
set_option maxHeartbeats 4000000 in
theorem sl_high (p : Nat) (s : List UInt8) (st : PS) (w : World) (h : PAt w p s st) (hs : s.length ≤ 65536) (c : UInt8) (r : List UInt8) (hno : c.toNat ≠ 110 ∧ c.toNat ≠ 116 ∧ c.toNat ≠ 120) (hk : 127 ≤ c.toNat) (hr : st.rest = 92 :: (c :: r)) :
    Calls Tryz.prog 215 #[ptr p] w (OnePost p s w (st.fail 2, 0)) := by
  obtain ⟨c0, c1, c2, c3, c4, c5⟩ := h.cells
  have hsz : (⟨s.toArray⟩ : ByteArray).size = s.length := str_size s
  obtain ⟨hl, hg, hd, ht⟩ := one_at w p s st h 92 (c :: r) hr
  have hidx := fun W => str_at s st.at_ hl W
  rw [hg] at hidx
  have hc1 : ((st.at_ : Nat) : Int) < (s.length : Nat) := by omega
  have hc2 : ¬ s.length ≤ st.at_ := by omega
  have hc3 : ((st.at_ : Nat) : Int) + 1 ≤ (s.length : Nat) := by omega
  have hf1 := fun W => strFrom s (st.at_ + 1) (by omega) W
  have hf2 := fun W => strFromAt s (st.at_ + 1) (by omega) W
  rw [hd, show ((st.at_ + 1 : Nat) : Int) = (st.at_ : Int) + 1 by omega] at hf1 hf2
  have hwr : IntKind.i64.wrap ((st.at_ : Int) + 1) = (st.at_ : Int) + 1 := by rw [IntKind.wrap_i64]; omega
  have HF := Lib.hid (fun W (hp : PAt W p s st) => psFail_any p s st W hp hs 2 (by omega))
  have HP := Lib.hid h
  have HR2 : Hid (st.rest.length = ((c :: r) : List UInt8).length + 1) := by show _ = _; rw [hr]; simp
  have HA := Lib.hid (fun W (hp : PAt W p s st) k (hk : k ≤ st.rest.length) => hp.put_adv' k st.at_ rfl hk)
  have f1 := h.frz 1
  clear h hr hl hg hd c2 c3 c4 c5
  generalize hat : st.at_ = a at *
  clear hat
  have hz : (⟨(c :: r).toArray⟩ : ByteArray).size = r.length + 1 := str_size (c :: r)
  have hix : (⟨(c :: r).toArray⟩ : ByteArray)[0].toNat = c.toNat := rfl
  have HR2 : Hid (st.rest.length = r.length + 2) := by show _ = _; have := HR2.out; simpa using this
  have hcl := c.toNat_lt
  have g110 : (((c.toNat : Nat) : Int) == 110) = false := by rw [beq_eq_false_iff_ne]; omega
  have g116 : (((c.toNat : Nat) : Int) == 116) = false := by rw [beq_eq_false_iff_ne]; omega
  have g120 : (((c.toNat : Nat) : Int) == 120) = false := by rw [beq_eq_false_iff_ne]; omega
  generalize c.toNat = n at *
  have b1 : (32 : Int) < (n : Int) := by omega
  have b2 : ¬ (n : Int) < 127 := by omega
  have q32 : ((n : Int) == 32) = false := by rw [beq_eq_false_iff_ne]; omega
  clear hno hk
  go_enter Tryz.func215, Tryz.ntmps215
  go_wp2_with fail
  go_quiet (fail)
  go_wp2_with fail
  go_quiet (fail)
  go_wp2_with fail
  go_quiet (fail)
  go_wp2_with fail
  refine (HF.out _ (by repeat (first | exact HP.out | refine PAt.drew ?_ _))).mono ?_
  rintro e w2 ⟨rfl, hp2, hf2⟩
  go_wp2_with fail
  go_ret
  exact ⟨rfl, hp2, (by repeat (first | exact Far.refl _ _ | refine Far.drew ?_ _) : Far p w _).trans hf2⟩
set_option maxRecDepth 100000 in
set_option maxHeartbeats 4000000 in
theorem sl_lc (p : Nat) (s : List UInt8) (st : PS) (w : World) (h : PAt w p s st) (hs : s.length ≤ 65536) (c : UInt8) (r : List UInt8) (hno : c.toNat ≠ 110 ∧ c.toNat ≠ 116 ∧ c.toNat ≠ 120) (hk : (97 ≤ c.toNat ∧ c.toNat ≤ 122)) (hr : st.rest = 92 :: (c :: r)) :
    Calls Tryz.prog 215 #[ptr p] w (OnePost p s w (st.fail 2, 0)) := by
  obtain ⟨c0, c1, c2, c3, c4, c5⟩ := h.cells
  have hsz : (⟨s.toArray⟩ : ByteArray).size = s.length := str_size s
  obtain ⟨hl, hg, hd, ht⟩ := one_at w p s st h 92 (c :: r) hr
  have hidx := fun W => str_at s st.at_ hl W
  rw [hg] at hidx
  have hc1 : ((st.at_ : Nat) : Int) < (s.length : Nat) := by omega
  have hc2 : ¬ s.length ≤ st.at_ := by omega
  have hc3 : ((st.at_ : Nat) : Int) + 1 ≤ (s.length : Nat) := by omega
  have hf1 := fun W => strFrom s (st.at_ + 1) (by omega) W
  have hf2 := fun W => strFromAt s (st.at_ + 1) (by omega) W
  rw [hd, show ((st.at_ + 1 : Nat) : Int) = (st.at_ : Int) + 1 by omega] at hf1 hf2
  have hwr : IntKind.i64.wrap ((st.at_ : Int) + 1) = (st.at_ : Int) + 1 := by rw [IntKind.wrap_i64]; omega
  have HF := Lib.hid (fun W (hp : PAt W p s st) => psFail_any p s st W hp hs 2 (by omega))
  have HP := Lib.hid h
  have HR2 : Hid (st.rest.length = ((c :: r) : List UInt8).length + 1) := by show _ = _; rw [hr]; simp
  have HA := Lib.hid (fun W (hp : PAt W p s st) k (hk : k ≤ st.rest.length) => hp.put_adv' k st.at_ rfl hk)
  have f1 := h.frz 1
  clear h hr hl hg hd c2 c3 c4 c5
  generalize hat : st.at_ = a at *
  clear hat
  have hz : (⟨(c :: r).toArray⟩ : ByteArray).size = r.length + 1 := str_size (c :: r)
  have hix : (⟨(c :: r).toArray⟩ : ByteArray)[0].toNat = c.toNat := rfl
  have HR2 : Hid (st.rest.length = r.length + 2) := by show _ = _; have := HR2.out; simpa using this
  have hcl := c.toNat_lt
  have g110 : (((c.toNat : Nat) : Int) == 110) = false := by rw [beq_eq_false_iff_ne]; omega
  have g116 : (((c.toNat : Nat) : Int) == 116) = false := by rw [beq_eq_false_iff_ne]; omega
  have g120 : (((c.toNat : Nat) : Int) == 120) = false := by rw [beq_eq_false_iff_ne]; omega
  generalize c.toNat = n at *
  have b1 : (32 : Int) < (n : Int) := by omega
  have b2 : (n : Int) < 127 := by omega
  have b3 : ¬ (n : Int) < 97 := by omega
  have b4 : ¬ (122 : Int) < (n : Int) := by omega
  have q32 : ((n : Int) == 32) = false := by rw [beq_eq_false_iff_ne]; omega
  clear hno hk
  go_enter Tryz.func215, Tryz.ntmps215
  go_wp2_with fail
  go_quiet (fail)
  go_wp2_with fail
  go_quiet (fail)
  go_wp2_with fail
  go_quiet (fail)
  go_wp2_with fail
  refine (HF.out _ (by repeat (first | exact HP.out | refine PAt.drew ?_ _))).mono ?_
  rintro e w2 ⟨rfl, hp2, hf2⟩
  go_wp2_with fail
  go_ret
  exact ⟨rfl, hp2, (by repeat (first | exact Far.refl _ _ | refine Far.drew ?_ _) : Far p w _).trans hf2⟩
set_option maxRecDepth 100000 in
set_option maxHeartbeats 4000000 in
theorem sl_uc (p : Nat) (s : List UInt8) (st : PS) (w : World) (h : PAt w p s st) (hs : s.length ≤ 65536) (c : UInt8) (r : List UInt8) (hno : c.toNat ≠ 110 ∧ c.toNat ≠ 116 ∧ c.toNat ≠ 120) (hk : (65 ≤ c.toNat ∧ c.toNat ≤ 90)) (hr : st.rest = 92 :: (c :: r)) :
    Calls Tryz.prog 215 #[ptr p] w (OnePost p s w (st.fail 2, 0)) := by
  obtain ⟨c0, c1, c2, c3, c4, c5⟩ := h.cells
  have hsz : (⟨s.toArray⟩ : ByteArray).size = s.length := str_size s
  obtain ⟨hl, hg, hd, ht⟩ := one_at w p s st h 92 (c :: r) hr
  have hidx := fun W => str_at s st.at_ hl W
  rw [hg] at hidx
  have hc1 : ((st.at_ : Nat) : Int) < (s.length : Nat) := by omega
  have hc2 : ¬ s.length ≤ st.at_ := by omega
  have hc3 : ((st.at_ : Nat) : Int) + 1 ≤ (s.length : Nat) := by omega
  have hf1 := fun W => strFrom s (st.at_ + 1) (by omega) W
  have hf2 := fun W => strFromAt s (st.at_ + 1) (by omega) W
  rw [hd, show ((st.at_ + 1 : Nat) : Int) = (st.at_ : Int) + 1 by omega] at hf1 hf2
  have hwr : IntKind.i64.wrap ((st.at_ : Int) + 1) = (st.at_ : Int) + 1 := by rw [IntKind.wrap_i64]; omega
  have HF := Lib.hid (fun W (hp : PAt W p s st) => psFail_any p s st W hp hs 2 (by omega))
  have HP := Lib.hid h
  have HR2 : Hid (st.rest.length = ((c :: r) : List UInt8).length + 1) := by show _ = _; rw [hr]; simp
  have HA := Lib.hid (fun W (hp : PAt W p s st) k (hk : k ≤ st.rest.length) => hp.put_adv' k st.at_ rfl hk)
  have f1 := h.frz 1
  clear h hr hl hg hd c2 c3 c4 c5
  generalize hat : st.at_ = a at *
  clear hat
  have hz : (⟨(c :: r).toArray⟩ : ByteArray).size = r.length + 1 := str_size (c :: r)
  have hix : (⟨(c :: r).toArray⟩ : ByteArray)[0].toNat = c.toNat := rfl
  have HR2 : Hid (st.rest.length = r.length + 2) := by show _ = _; have := HR2.out; simpa using this
  have hcl := c.toNat_lt
  have g110 : (((c.toNat : Nat) : Int) == 110) = false := by rw [beq_eq_false_iff_ne]; omega
  have g116 : (((c.toNat : Nat) : Int) == 116) = false := by rw [beq_eq_false_iff_ne]; omega
  have g120 : (((c.toNat : Nat) : Int) == 120) = false := by rw [beq_eq_false_iff_ne]; omega
  generalize c.toNat = n at *
  have b1 : (32 : Int) < (n : Int) := by omega
  have b2 : (n : Int) < 127 := by omega
  have b3 : (n : Int) < 97 := by omega
  have b4 : ¬ (n : Int) < 65 := by omega
  have b5 : ¬ (90 : Int) < (n : Int) := by omega
  have q32 : ((n : Int) == 32) = false := by rw [beq_eq_false_iff_ne]; omega
  clear hno hk
  go_enter Tryz.func215, Tryz.ntmps215
  go_wp2_with fail
  go_quiet (fail)
  go_wp2_with fail
  go_quiet (fail)
  go_wp2_with fail
  go_quiet (fail)
  go_wp2_with fail
  refine (HF.out _ (by repeat (first | exact HP.out | refine PAt.drew ?_ _))).mono ?_
  rintro e w2 ⟨rfl, hp2, hf2⟩
  go_wp2_with fail
  go_ret
  exact ⟨rfl, hp2, (by repeat (first | exact Far.refl _ _ | refine Far.drew ?_ _) : Far p w _).trans hf2⟩
set_option maxRecDepth 100000 in
set_option maxHeartbeats 4000000 in
theorem sl_dg (p : Nat) (s : List UInt8) (st : PS) (w : World) (h : PAt w p s st) (hs : s.length ≤ 65536) (c : UInt8) (r : List UInt8) (hno : c.toNat ≠ 110 ∧ c.toNat ≠ 116 ∧ c.toNat ≠ 120) (hk : (48 ≤ c.toNat ∧ c.toNat ≤ 57)) (hr : st.rest = 92 :: (c :: r)) :
    Calls Tryz.prog 215 #[ptr p] w (OnePost p s w (st.fail 2, 0)) := by
  obtain ⟨c0, c1, c2, c3, c4, c5⟩ := h.cells
  have hsz : (⟨s.toArray⟩ : ByteArray).size = s.length := str_size s
  obtain ⟨hl, hg, hd, ht⟩ := one_at w p s st h 92 (c :: r) hr
  have hidx := fun W => str_at s st.at_ hl W
  rw [hg] at hidx
  have hc1 : ((st.at_ : Nat) : Int) < (s.length : Nat) := by omega
  have hc2 : ¬ s.length ≤ st.at_ := by omega
  have hc3 : ((st.at_ : Nat) : Int) + 1 ≤ (s.length : Nat) := by omega
  have hf1 := fun W => strFrom s (st.at_ + 1) (by omega) W
  have hf2 := fun W => strFromAt s (st.at_ + 1) (by omega) W
  rw [hd, show ((st.at_ + 1 : Nat) : Int) = (st.at_ : Int) + 1 by omega] at hf1 hf2
  have hwr : IntKind.i64.wrap ((st.at_ : Int) + 1) = (st.at_ : Int) + 1 := by rw [IntKind.wrap_i64]; omega
  have HF := Lib.hid (fun W (hp : PAt W p s st) => psFail_any p s st W hp hs 2 (by omega))
  have HP := Lib.hid h
  have HR2 : Hid (st.rest.length = ((c :: r) : List UInt8).length + 1) := by show _ = _; rw [hr]; simp
  have HA := Lib.hid (fun W (hp : PAt W p s st) k (hk : k ≤ st.rest.length) => hp.put_adv' k st.at_ rfl hk)
  have f1 := h.frz 1
  clear h hr hl hg hd c2 c3 c4 c5
  generalize hat : st.at_ = a at *
  clear hat
  have hz : (⟨(c :: r).toArray⟩ : ByteArray).size = r.length + 1 := str_size (c :: r)
  have hix : (⟨(c :: r).toArray⟩ : ByteArray)[0].toNat = c.toNat := rfl
  have HR2 : Hid (st.rest.length = r.length + 2) := by show _ = _; have := HR2.out; simpa using this
  have hcl := c.toNat_lt
  have g110 : (((c.toNat : Nat) : Int) == 110) = false := by rw [beq_eq_false_iff_ne]; omega
  have g116 : (((c.toNat : Nat) : Int) == 116) = false := by rw [beq_eq_false_iff_ne]; omega
  have g120 : (((c.toNat : Nat) : Int) == 120) = false := by rw [beq_eq_false_iff_ne]; omega
  generalize c.toNat = n at *
  have b1 : (32 : Int) < (n : Int) := by omega
  have b2 : (n : Int) < 127 := by omega
  have b3 : (n : Int) < 97 := by omega
  have b4 : (n : Int) < 65 := by omega
  have b5 : ¬ (n : Int) < 48 := by omega
  have b6 : ¬ (57 : Int) < (n : Int) := by omega
  have q32 : ((n : Int) == 32) = false := by rw [beq_eq_false_iff_ne]; omega
  clear hno hk
  go_enter Tryz.func215, Tryz.ntmps215
  go_wp2_with fail
  go_quiet (fail)
  go_wp2_with fail
  go_quiet (fail)
  go_wp2_with fail
  go_quiet (fail)
  go_wp2_with fail
  refine (HF.out _ (by repeat (first | exact HP.out | refine PAt.drew ?_ _))).mono ?_
  rintro e w2 ⟨rfl, hp2, hf2⟩
  go_wp2_with fail
  go_ret
  exact ⟨rfl, hp2, (by repeat (first | exact Far.refl _ _ | refine Far.drew ?_ _) : Far p w _).trans hf2⟩
set_option maxRecDepth 100000 in
set_option maxHeartbeats 4000000 in
theorem sl_ok1 (p : Nat) (s : List UInt8) (st : PS) (w : World) (h : PAt w p s st) (hs : s.length ≤ 65536) (c : UInt8) (r : List UInt8) (hno : c.toNat ≠ 110 ∧ c.toNat ≠ 116 ∧ c.toNat ≠ 120) (hk : 33 ≤ c.toNat ∧ c.toNat ≤ 47) (hr : st.rest = 92 :: (c :: r)) :
    Calls Tryz.prog 215 #[ptr p] w (OnePost p s w (st.adv 2, c.toNat)) := by
  obtain ⟨c0, c1, c2, c3, c4, c5⟩ := h.cells
  have hsz : (⟨s.toArray⟩ : ByteArray).size = s.length := str_size s
  obtain ⟨hl, hg, hd, ht⟩ := one_at w p s st h 92 (c :: r) hr
  have hidx := fun W => str_at s st.at_ hl W
  rw [hg] at hidx
  have hc1 : ((st.at_ : Nat) : Int) < (s.length : Nat) := by omega
  have hc2 : ¬ s.length ≤ st.at_ := by omega
  have hc3 : ((st.at_ : Nat) : Int) + 1 ≤ (s.length : Nat) := by omega
  have hf1 := fun W => strFrom s (st.at_ + 1) (by omega) W
  have hf2 := fun W => strFromAt s (st.at_ + 1) (by omega) W
  rw [hd, show ((st.at_ + 1 : Nat) : Int) = (st.at_ : Int) + 1 by omega] at hf1 hf2
  have hwr : IntKind.i64.wrap ((st.at_ : Int) + 1) = (st.at_ : Int) + 1 := by rw [IntKind.wrap_i64]; omega
  have HF := Lib.hid (fun W (hp : PAt W p s st) => psFail_any p s st W hp hs 2 (by omega))
  have HP := Lib.hid h
  have HR2 : Hid (st.rest.length = ((c :: r) : List UInt8).length + 1) := by show _ = _; rw [hr]; simp
  have HA := Lib.hid (fun W (hp : PAt W p s st) k (hk : k ≤ st.rest.length) => hp.put_adv' k st.at_ rfl hk)
  have f1 := h.frz 1
  clear h hr hl hg hd c2 c3 c4 c5
  generalize hat : st.at_ = a at *
  clear hat
  have hz : (⟨(c :: r).toArray⟩ : ByteArray).size = r.length + 1 := str_size (c :: r)
  have hix : (⟨(c :: r).toArray⟩ : ByteArray)[0].toNat = c.toNat := rfl
  have HR2 : Hid (st.rest.length = r.length + 2) := by show _ = _; have := HR2.out; simpa using this
  have hcl := c.toNat_lt
  have g110 : (((c.toNat : Nat) : Int) == 110) = false := by rw [beq_eq_false_iff_ne]; omega
  have g116 : (((c.toNat : Nat) : Int) == 116) = false := by rw [beq_eq_false_iff_ne]; omega
  have g120 : (((c.toNat : Nat) : Int) == 120) = false := by rw [beq_eq_false_iff_ne]; omega
  generalize c.toNat = n at *
  have b0 : (32 : Int) < (n : Int) := by omega
  have b1 : (n : Int) < 127 := by omega
  have b2 : (n : Int) < 97 := by omega
  have b3 : (n : Int) < 65 := by omega
  have b4 : (n : Int) < 48 := by omega
  clear hno hk
  go_enter Tryz.func215, Tryz.ntmps215
  go_wp2_with fail
  go_quiet (fail)
  go_wp2_with fail
  go_quiet (fail)
  go_wp2_with fail
  go_quiet (fail)
  go_wp2_with fail
  go_ret
  exact ⟨rfl, HA.out _ (by repeat (first | exact HP.out | refine PAt.drew ?_ _)) 2 (by have := HR2.out; omega), (by repeat (first | exact Far.refl _ _ | refine Far.drew ?_ _ | refine Far.set ?_ _ _))⟩
set_option maxRecDepth 100000 in
set_option maxHeartbeats 4000000 in
theorem sl_ok2 (p : Nat) (s : List UInt8) (st : PS) (w : World) (h : PAt w p s st) (hs : s.length ≤ 65536) (c : UInt8) (r : List UInt8) (hno : c.toNat ≠ 110 ∧ c.toNat ≠ 116 ∧ c.toNat ≠ 120) (hk : 58 ≤ c.toNat ∧ c.toNat ≤ 64) (hr : st.rest = 92 :: (c :: r)) :
    Calls Tryz.prog 215 #[ptr p] w (OnePost p s w (st.adv 2, c.toNat)) := by
  obtain ⟨c0, c1, c2, c3, c4, c5⟩ := h.cells
  have hsz : (⟨s.toArray⟩ : ByteArray).size = s.length := str_size s
  obtain ⟨hl, hg, hd, ht⟩ := one_at w p s st h 92 (c :: r) hr
  have hidx := fun W => str_at s st.at_ hl W
  rw [hg] at hidx
  have hc1 : ((st.at_ : Nat) : Int) < (s.length : Nat) := by omega
  have hc2 : ¬ s.length ≤ st.at_ := by omega
  have hc3 : ((st.at_ : Nat) : Int) + 1 ≤ (s.length : Nat) := by omega
  have hf1 := fun W => strFrom s (st.at_ + 1) (by omega) W
  have hf2 := fun W => strFromAt s (st.at_ + 1) (by omega) W
  rw [hd, show ((st.at_ + 1 : Nat) : Int) = (st.at_ : Int) + 1 by omega] at hf1 hf2
  have hwr : IntKind.i64.wrap ((st.at_ : Int) + 1) = (st.at_ : Int) + 1 := by rw [IntKind.wrap_i64]; omega
  have HF := Lib.hid (fun W (hp : PAt W p s st) => psFail_any p s st W hp hs 2 (by omega))
  have HP := Lib.hid h
  have HR2 : Hid (st.rest.length = ((c :: r) : List UInt8).length + 1) := by show _ = _; rw [hr]; simp
  have HA := Lib.hid (fun W (hp : PAt W p s st) k (hk : k ≤ st.rest.length) => hp.put_adv' k st.at_ rfl hk)
  have f1 := h.frz 1
  clear h hr hl hg hd c2 c3 c4 c5
  generalize hat : st.at_ = a at *
  clear hat
  have hz : (⟨(c :: r).toArray⟩ : ByteArray).size = r.length + 1 := str_size (c :: r)
  have hix : (⟨(c :: r).toArray⟩ : ByteArray)[0].toNat = c.toNat := rfl
  have HR2 : Hid (st.rest.length = r.length + 2) := by show _ = _; have := HR2.out; simpa using this
  have hcl := c.toNat_lt
  have g110 : (((c.toNat : Nat) : Int) == 110) = false := by rw [beq_eq_false_iff_ne]; omega
  have g116 : (((c.toNat : Nat) : Int) == 116) = false := by rw [beq_eq_false_iff_ne]; omega
  have g120 : (((c.toNat : Nat) : Int) == 120) = false := by rw [beq_eq_false_iff_ne]; omega
  generalize c.toNat = n at *
  have b0 : (32 : Int) < (n : Int) := by omega
  have b1 : (n : Int) < 127 := by omega
  have b2 : (n : Int) < 97 := by omega
  have b3 : (n : Int) < 65 := by omega
  have b4 : ¬ (n : Int) < 48 := by omega
  have b5 : (57 : Int) < (n : Int) := by omega
  clear hno hk
  go_enter Tryz.func215, Tryz.ntmps215
  go_wp2_with fail
  go_quiet (fail)
  go_wp2_with fail
  go_quiet (fail)
  go_wp2_with fail
  go_quiet (fail)
  go_wp2_with fail
  go_ret
  exact ⟨rfl, HA.out _ (by repeat (first | exact HP.out | refine PAt.drew ?_ _)) 2 (by have := HR2.out; omega), (by repeat (first | exact Far.refl _ _ | refine Far.drew ?_ _ | refine Far.set ?_ _ _))⟩
set_option maxRecDepth 100000 in
set_option maxHeartbeats 4000000 in
theorem sl_ok3 (p : Nat) (s : List UInt8) (st : PS) (w : World) (h : PAt w p s st) (hs : s.length ≤ 65536) (c : UInt8) (r : List UInt8) (hno : c.toNat ≠ 110 ∧ c.toNat ≠ 116 ∧ c.toNat ≠ 120) (hk : 91 ≤ c.toNat ∧ c.toNat ≤ 96) (hr : st.rest = 92 :: (c :: r)) :
    Calls Tryz.prog 215 #[ptr p] w (OnePost p s w (st.adv 2, c.toNat)) := by
  obtain ⟨c0, c1, c2, c3, c4, c5⟩ := h.cells
  have hsz : (⟨s.toArray⟩ : ByteArray).size = s.length := str_size s
  obtain ⟨hl, hg, hd, ht⟩ := one_at w p s st h 92 (c :: r) hr
  have hidx := fun W => str_at s st.at_ hl W
  rw [hg] at hidx
  have hc1 : ((st.at_ : Nat) : Int) < (s.length : Nat) := by omega
  have hc2 : ¬ s.length ≤ st.at_ := by omega
  have hc3 : ((st.at_ : Nat) : Int) + 1 ≤ (s.length : Nat) := by omega
  have hf1 := fun W => strFrom s (st.at_ + 1) (by omega) W
  have hf2 := fun W => strFromAt s (st.at_ + 1) (by omega) W
  rw [hd, show ((st.at_ + 1 : Nat) : Int) = (st.at_ : Int) + 1 by omega] at hf1 hf2
  have hwr : IntKind.i64.wrap ((st.at_ : Int) + 1) = (st.at_ : Int) + 1 := by rw [IntKind.wrap_i64]; omega
  have HF := Lib.hid (fun W (hp : PAt W p s st) => psFail_any p s st W hp hs 2 (by omega))
  have HP := Lib.hid h
  have HR2 : Hid (st.rest.length = ((c :: r) : List UInt8).length + 1) := by show _ = _; rw [hr]; simp
  have HA := Lib.hid (fun W (hp : PAt W p s st) k (hk : k ≤ st.rest.length) => hp.put_adv' k st.at_ rfl hk)
  have f1 := h.frz 1
  clear h hr hl hg hd c2 c3 c4 c5
  generalize hat : st.at_ = a at *
  clear hat
  have hz : (⟨(c :: r).toArray⟩ : ByteArray).size = r.length + 1 := str_size (c :: r)
  have hix : (⟨(c :: r).toArray⟩ : ByteArray)[0].toNat = c.toNat := rfl
  have HR2 : Hid (st.rest.length = r.length + 2) := by show _ = _; have := HR2.out; simpa using this
  have hcl := c.toNat_lt
  have g110 : (((c.toNat : Nat) : Int) == 110) = false := by rw [beq_eq_false_iff_ne]; omega
  have g116 : (((c.toNat : Nat) : Int) == 116) = false := by rw [beq_eq_false_iff_ne]; omega
  have g120 : (((c.toNat : Nat) : Int) == 120) = false := by rw [beq_eq_false_iff_ne]; omega
  generalize c.toNat = n at *
  have b0 : (32 : Int) < (n : Int) := by omega
  have b1 : (n : Int) < 127 := by omega
  have b2 : (n : Int) < 97 := by omega
  have b3 : ¬ (n : Int) < 65 := by omega
  have b4 : (90 : Int) < (n : Int) := by omega
  have b5 : ¬ (n : Int) < 48 := by omega
  have b6 : (57 : Int) < (n : Int) := by omega
  clear hno hk
  go_enter Tryz.func215, Tryz.ntmps215
  go_wp2_with fail
  go_quiet (fail)
  go_wp2_with fail
  go_quiet (fail)
  go_wp2_with fail
  go_quiet (fail)
  go_wp2_with fail
  go_ret
  exact ⟨rfl, HA.out _ (by repeat (first | exact HP.out | refine PAt.drew ?_ _)) 2 (by have := HR2.out; omega), (by repeat (first | exact Far.refl _ _ | refine Far.drew ?_ _ | refine Far.set ?_ _ _))⟩
set_option maxRecDepth 100000 in
set_option maxHeartbeats 4000000 in
theorem sl_ok4 (p : Nat) (s : List UInt8) (st : PS) (w : World) (h : PAt w p s st) (hs : s.length ≤ 65536) (c : UInt8) (r : List UInt8) (hno : c.toNat ≠ 110 ∧ c.toNat ≠ 116 ∧ c.toNat ≠ 120) (hk : 123 ≤ c.toNat ∧ c.toNat ≤ 126) (hr : st.rest = 92 :: (c :: r)) :
    Calls Tryz.prog 215 #[ptr p] w (OnePost p s w (st.adv 2, c.toNat)) := by
  obtain ⟨c0, c1, c2, c3, c4, c5⟩ := h.cells
  have hsz : (⟨s.toArray⟩ : ByteArray).size = s.length := str_size s
  obtain ⟨hl, hg, hd, ht⟩ := one_at w p s st h 92 (c :: r) hr
  have hidx := fun W => str_at s st.at_ hl W
  rw [hg] at hidx
  have hc1 : ((st.at_ : Nat) : Int) < (s.length : Nat) := by omega
  have hc2 : ¬ s.length ≤ st.at_ := by omega
  have hc3 : ((st.at_ : Nat) : Int) + 1 ≤ (s.length : Nat) := by omega
  have hf1 := fun W => strFrom s (st.at_ + 1) (by omega) W
  have hf2 := fun W => strFromAt s (st.at_ + 1) (by omega) W
  rw [hd, show ((st.at_ + 1 : Nat) : Int) = (st.at_ : Int) + 1 by omega] at hf1 hf2
  have hwr : IntKind.i64.wrap ((st.at_ : Int) + 1) = (st.at_ : Int) + 1 := by rw [IntKind.wrap_i64]; omega
  have HF := Lib.hid (fun W (hp : PAt W p s st) => psFail_any p s st W hp hs 2 (by omega))
  have HP := Lib.hid h
  have HR2 : Hid (st.rest.length = ((c :: r) : List UInt8).length + 1) := by show _ = _; rw [hr]; simp
  have HA := Lib.hid (fun W (hp : PAt W p s st) k (hk : k ≤ st.rest.length) => hp.put_adv' k st.at_ rfl hk)
  have f1 := h.frz 1
  clear h hr hl hg hd c2 c3 c4 c5
  generalize hat : st.at_ = a at *
  clear hat
  have hz : (⟨(c :: r).toArray⟩ : ByteArray).size = r.length + 1 := str_size (c :: r)
  have hix : (⟨(c :: r).toArray⟩ : ByteArray)[0].toNat = c.toNat := rfl
  have HR2 : Hid (st.rest.length = r.length + 2) := by show _ = _; have := HR2.out; simpa using this
  have hcl := c.toNat_lt
  have g110 : (((c.toNat : Nat) : Int) == 110) = false := by rw [beq_eq_false_iff_ne]; omega
  have g116 : (((c.toNat : Nat) : Int) == 116) = false := by rw [beq_eq_false_iff_ne]; omega
  have g120 : (((c.toNat : Nat) : Int) == 120) = false := by rw [beq_eq_false_iff_ne]; omega
  generalize c.toNat = n at *
  have b0 : (32 : Int) < (n : Int) := by omega
  have b1 : (n : Int) < 127 := by omega
  have b2 : ¬ (n : Int) < 97 := by omega
  have b3 : (122 : Int) < (n : Int) := by omega
  have b4 : ¬ (n : Int) < 65 := by omega
  have b5 : (90 : Int) < (n : Int) := by omega
  have b6 : ¬ (n : Int) < 48 := by omega
  have b7 : (57 : Int) < (n : Int) := by omega
  clear hno hk
  go_enter Tryz.func215, Tryz.ntmps215
  go_wp2_with fail
  go_quiet (fail)
  go_wp2_with fail
  go_quiet (fail)
  go_wp2_with fail
  go_quiet (fail)
  go_wp2_with fail
  go_ret
  exact ⟨rfl, HA.out _ (by repeat (first | exact HP.out | refine PAt.drew ?_ _)) 2 (by have := HR2.out; omega), (by repeat (first | exact Far.refl _ _ | refine Far.drew ?_ _ | refine Far.set ?_ _ _))⟩
end Go.Proofs.YtgamknphlmcgnaaGreatDoor
end
