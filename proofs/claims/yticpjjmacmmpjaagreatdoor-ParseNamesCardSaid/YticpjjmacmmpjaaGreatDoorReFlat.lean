/-
  'flat', walked through the program: the kids of those of an op in their places, in a new row.
-/
import Derived.Test.YticpjjmacmmpjaaGreatDoorReMade
import Derived.Test.YticpjjmacmmpjaaGreatDoorSetX
set_option linter.unusedSimpArgs false
set_option linter.unusedVariables false
set_option maxRecDepth 100000
set_option linter.unnecessarySimpa false
namespace Go.Proofs.YticpjjmacmmpjaaGreatDoor
open Go.RowKit

theorem made_zero (o : Nat) (ho : o < 8) (ho2 : o ≠ 2) (nl : Bool) (kp : Option Addr) (cap : Nat) (bs : List Nat) (ks : List RE) (w : World) (hr : PtrsAt w kp bs) (hk : AreRe w bs ks) (hnl : nl = (RE.node o BS.none ks).null) (hsz : RE.sizes ks ≤ 1099511627776) :
    Calls Tryz.prog 74 #[.int .i64 o, .agg #[.int .u64 0, .int .u64 0, .int .u64 0, .int .u64 0], .bool nl, .slice kp ks.length cap] w fun e w' => ∃ b, e = .returned (ptr b) ∧ w.heap.size ≤ b ∧ w'.heap[b]? = some (.cells (nodeCells (RE.node o BS.none ks) kp cap) 115 (0, 0)) ∧ Below w.heap.size w w' := by
  have h := made_other o ho ho2 0 0 0 0 nl kp cap bs ks w hr hk hnl hsz
  rw [← wN_zero] at h
  exact h
theorem are_nil (w : World) : AreRe w [] [] := ⟨rfl, fun i hi => absurd hi (by simp)⟩
theorem fresh_leaf {B b o : Nat} {s : BS} {w' : World} (h0 : B ≤ b) (h1 : w'.heap[b]? = some (.cells (nodeCells (RE.node o s []) none 0) 115 (0, 0))) : IsReX (· < B) w' b (RE.node o s []) :=
  .mk b _ none 0 [] (by show ¬ b < B; omega) h1 rfl (.inl rfl) (fun h => absurd rfl h) (fun a ha => by cases ha) (fun i hi => absurd hi (by simp [RE.kids]))
set_option maxHeartbeats 800000 in
theorem Nothing_any (w : World) : Calls Tryz.prog 73 #[] w fun e w' => ∃ b, e = .returned (ptr b) ∧ IsReX (· < w.heap.size) w' b RE.nothing ∧ Below w.heap.size w w' := by
  have H := Lib.hid (made_zero 0 (by omega) (by omega) false none 0 [] [] w (.inl rfl) (are_nil w) (by simp [RE.null]) (by simp [RE.sizes]))
  go_enter Tryz.func73, Tryz.ntmps73
  go_wp2_with fail
  refine H.out.mono ?_
  rintro e w1 ⟨b, rfl, h0, h1, h2⟩
  go_wp2_with fail
  go_ret
  exact ⟨b, rfl, fresh_leaf h0 h1, h2⟩
set_option maxHeartbeats 800000 in
theorem EmptyRe_any (w : World) : Calls Tryz.prog 78 #[] w fun e w' => ∃ b, e = .returned (ptr b) ∧ IsReX (· < w.heap.size) w' b RE.empty ∧ Below w.heap.size w w' := by
  have H := Lib.hid (made_zero 1 (by omega) (by omega) true none 0 [] [] w (.inl rfl) (are_nil w) (by simp [RE.null]) (by simp [RE.sizes]))
  go_enter Tryz.func78, Tryz.ntmps78
  go_wp2_with fail
  refine H.out.mono ?_
  rintro e w1 ⟨b, rfl, h0, h1, h2⟩
  go_wp2_with fail
  go_ret
  exact ⟨b, rfl, fresh_leaf h0 h1, h2⟩
set_option maxHeartbeats 1600000 in
theorem One_any (s0 s1 s2 s3 : BitVec 64) (w : World) : Calls Tryz.prog 39 #[.agg #[.int .u64 (wN s0), .int .u64 (wN s1), .int .u64 (wN s2), .int .u64 (wN s3)]] w fun e w' => ∃ b, e = .returned (ptr b) ∧ IsReX (· < w.heap.size) w' b (RE.one ⟨s0, s1, s2, s3⟩) ∧ Below w.heap.size w w' := by
  have HM := Lib.hid (made_class s0 s1 s2 s3)
  by_cases hs : (⟨s0, s1, s2, s3⟩ : BS) = BS.none
  · have HE : Hid (decide ((⟨s0, s1, s2, s3⟩ : BS) = BS.none) = true) := decide_eq_true hs
    have HO : Hid (RE.one ⟨s0, s1, s2, s3⟩ = RE.nothing) := by show _ = _; unfold RE.one; rw [if_pos hs]
    clear hs
    go_enter Tryz.func39, Tryz.ntmps39
    go_wp2_with (go_at_call 72; refine (Empty_any s0 s1 s2 s3 _).mono ?_; rintro e w' ⟨rfl, rfl⟩; rw [HE.out])
    refine (Nothing_any _).mono ?_
    rintro e w1 ⟨b, rfl, h1, h2⟩
    have h2' : Below w.heap.size w w1 := by repeat (first | exact Below.refl _ _ | assumption | refine Below.drew ?_ | refine ext_drewN ?_ _ | refine ext_alloc ?_ _ | refine Below.setCell ?_ (by (try simp only [World.size_alloc, World.size_setCell, World.size_drew]); omega) _ | refine ext_step ?_ (by assumption))
    go_wp2_with fail
    go_ret
    exact ⟨b, rfl, by rw [HO.out]; exact h1.mono (fun k _ hk => by simp; omega), h2'⟩
  · have HE : Hid (decide ((⟨s0, s1, s2, s3⟩ : BS) = BS.none) = false) := decide_eq_false hs
    have HO : Hid (RE.one ⟨s0, s1, s2, s3⟩ = RE.node 2 ⟨s0, s1, s2, s3⟩ []) := by show _ = _; unfold RE.one; rw [if_neg hs]
    clear hs
    go_enter Tryz.func39, Tryz.ntmps39
    go_wp2_with (go_at_call 72; refine (Empty_any s0 s1 s2 s3 _).mono ?_; rintro e w' ⟨rfl, rfl⟩; rw [HE.out])
    refine (HM.out _).mono ?_
    rintro e w1 ⟨b, rfl, h0, h1, h2⟩
    have h2' : Below w.heap.size w w1 := by repeat (first | exact Below.refl _ _ | assumption | refine Below.drew ?_ | refine ext_drewN ?_ _ | refine ext_alloc ?_ _ | refine Below.setCell ?_ (by (try simp only [World.size_alloc, World.size_setCell, World.size_drew]); omega) _ | refine ext_step ?_ (by assumption))
    go_wp2_with fail
    go_ret
    exact ⟨b, rfl, by rw [HO.out]; exact fresh_leaf (by simp at h0; omega) h1, h2'⟩
end Go.Proofs.YticpjjmacmmpjaaGreatDoor
namespace Go.Proofs.YticpjjmacmmpjaaGreatDoor
open Go.RowKit

theorem infoPtr : (Tryz.prog.info? 37).map (fun i => (i.zero, i.size, i.bytes)) = some (some (.pointer none), 1, 8) := by kernel_rfl
theorem ptr_one (l : List Nat) : ∀ u ∈ l.map ptr, u.oneCell' = true := by intro u hu; obtain ⟨x, _, rfl⟩ := List.mem_map.1 hu; rfl
theorem addr_at (kb ko j : Nat) : (⟨kb, ko, none⟩ : Addr).add j = ⟨kb, ko + j, none⟩ := by unfold Addr.add; split <;> simp_all
/-- expressions, the pointers to which lie in a row of one's own -/
structure OwnRe (w : World) (ls : List RE) (bs : List Nat) (v : Value) (wr : World) : Prop where
  own : wr.ownsRow w.heap.size 37 1 v bs.length (bs.map ptr)
  are : AreReX (fun k => v.ownBlock = some k) wr bs ls
  bel : Below w.heap.size w wr
theorem OwnRe.later {w wr wr' : World} {ls : List RE} {bs : List Nat} {v : Value} (h : OwnRe w ls bs v wr) (hb : Below wr.heap.size wr wr') : OwnRe w ls bs v wr' :=
  ⟨h.own.kept (re_grownBy hb) (by cases v.ownBlock <;> simp), h.are.keep (fun k hk _ => hb.block k hk), ext_step h.bel hb⟩
theorem OwnRe.appended {w Wa W' : World} {ls ls' : List RE} {bs bs' : List Nat} {v : Value} {g n cp H : Nat} (h : OwnRe w ls bs v Wa) (h' : AreReX (fun k => v.ownBlock = some k) Wa bs' ls') (hH : Wa.heap.size ≤ H) (hn : n = bs.length + bs'.length)
   (hown : W'.ownsRow w.heap.size 37 1 (.slice (some ⟨g, 0, none⟩) n cp) n (bs.map ptr ++ bs'.map ptr)) (hg : Wa.grownBy W' v.ownBlock) (hat : v.ownBlock = some g ∨ g = H) :
    OwnRe w (ls ++ ls') (bs ++ bs') (.slice (some ⟨g, 0, none⟩) n cp) W' := by
  subst hn
  refine ⟨by rw [List.length_append, List.map_append]; exact hown, ?_, h.bel.grown hg h.bel.size (fun k e => (h.own.lt k e).1)⟩
  have h1 : AreReX (fun k => v.ownBlock = some k ∨ Wa.heap.size ≤ k) Wa (bs ++ bs') (ls ++ ls') := (h.are.append h').mono fun k hk hy => by
    rcases hy with hy | hy
    · exact hy
    · omega
  have h2 := h1.keep (w' := W') fun k hk hx => hg.block k hk (fun e => hx (.inl e.symm))
  refine h2.mono fun k _ e => ?_
  have e : g = k := by simpa [Value.ownBlock] using e
  subst e
  rcases hat with e | e
  · exact .inl e
  · exact .inr (by omega)
/-- a list of pointers, some of which may be nil -/
def ListO (w : World) (kp : Option Addr) (l : List (Option RE)) : Prop := l = [] ∨ ∃ kb ko, kp = some ⟨kb, ko, none⟩ ∧ ∀ i, i < l.length → ∃ v, w.cell? ⟨kb, ko + i, none⟩ = some v ∧ IsReO w v (l.getD i none)
theorem RE.flat_snoc (o : Nat) (l : List (Option RE)) (x : Option RE) : RE.flat o (l ++ [x]) = RE.flat o l ++ RE.flat1 o x := by simp [RE.flat]
theorem take_snocO (l : List (Option RE)) (k : Nat) (h : k < l.length) : l.take (k + 1) = l.take k ++ [l.getD k none] := by
  rw [List.take_succ_eq_append_getElem h]; simp [List.getD, h]
theorem flat_take_len (o : Nat) (l : List (Option RE)) (k : Nat) : (RE.flat o (l.take k)).length ≤ (RE.flat o l).length := by
  conv => rhs; rw [← List.take_append_drop k l]
  simp only [RE.flat, List.flatMap_append, List.length_append]; omega
def FlatAt (w : World) (o : Nat) (l : List (Option RE)) (v i : Value) (wr : World) : Prop :=
  ∃ (k : Nat) (bs : List Nat), k ≤ l.length ∧ i = .int .i64 k ∧ OwnRe w (RE.flat o (l.take k)) bs v wr

set_option maxRecDepth 100000 in
set_option maxHeartbeats 4000000 in
theorem flat_any (o : Nat) (kp : Option Addr) (cap : Nat) (l : List (Option RE)) (w : World) (hl : ListO w kp l) (hne : ∀ r, some r ∈ l → r.op = o → r.kids ≠ []) (hsz : (RE.flat o l).length ≤ 1099511627776) (hln : l.length ≤ 1099511627776) :
    Calls Tryz.prog 76 #[.int .i64 o, .slice kp l.length cap] w fun e w' => ∃ v bs, e = .returned v ∧ OwnRe w (RE.flat o l) bs v w' := by
  have HL := Lib.hid hl
  have HNE := Lib.hid hne
  clear hl hne
  obtain ⟨i0, hi, hz0, hz1, hz2⟩ := info_parts infoPtr
  have HI := Lib.hid hi; have HZ0 := Lib.hid hz0; have HZ1 := Lib.hid hz1; have HZ2 := Lib.hid hz2
  clear hi hz0 hz1 hz2
  go_enter Tryz.func76, Tryz.ntmps76
  go_wp2_with fail
  go_loopw [5, 10] (fun v i wr => FlatAt w o l v i wr) (fun _ i _ => l.length - (intOf i).toNat)
  case atStart => exact ⟨0, [], by omega, rfl, ⟨World.ownsRow_nil _ _ _ _, AreReX.nil, Below.refl _ _⟩⟩
  case round =>
    obtain ⟨k, bs, hk, rfl, hW⟩ := hrel
    by_cases hlt : k < l.length
    · rcases HL.out with h0 | ⟨kb, ko, rfl, hrow⟩
      · rw [h0] at hlt; simp at hlt
      obtain ⟨x, hx, hxo⟩ := hrow k hlt
      have hlen := flat_take_len o l (k + 1)
      have HNX : Hid (RE.flat o (l.take (k + 1)) = RE.flat o (l.take k) ++ RE.flat1 o (l.getD k none)) := by
        show _ = _
        rw [take_snocO l k hlt, RE.flat_snoc]
      have hmem : l.getD k none ∈ l := by simp [List.getD, hlt]
      rw [HNX.out, List.length_append, ← hW.are.1] at hlen
      have hkbl := World.block_lt_of_cell? w _ hx
      rw [← hW.bel.cell (p := ⟨kb, ko + k, none⟩) hkbl] at hx
      generalize RE.flat o (l.take k) = ls at *
      generalize l.getD k none = q at *
      clear hrow
      cases q with
      | none =>
        have hxv : x = .pointer none := hxo
        subst hxv
        have HF1 : Hid (RE.flat1 o none = [RE.nothing]) := rfl
        rw [HF1.out] at hlen
        simp only [List.length_cons, List.length_nil] at hlen
        go_wp2_with fail
        refine (Nothing_any _).mono ?_
        rintro e w1 ⟨b, rfl, h1, h2⟩
        have hW1 := hW.later h2
        go_wp2_with (at_builtin; refine wpList_append_lies _ rfl _ _ _ rfl w.heap.size 37 i0 _ 1 8 Tryz.underlying113 HI.out HZ0.out HZ1.out HZ2.out rfl (by omega) u5 bs.length (bs.map ptr) rfl (hW1.own.alloc _) ⟨w1.heap.size, 0, none⟩ 1 1 [ptr b] rfl rfl (World.news_of_block (cs := #[ptr b]) (t := 37) (fr := (0, 0)) (heap_alloc_last w1 _)) (ptr_one [b]) (by omega) (by unfold maxLen; omega) (by omega) (by have := hW1.bel.size; simp; omega) (w1.heap.size + 1) (by simp) ?_; intro g5 cp5 W9 hown9 hg9 hat9 hlt9)
        have hb1 : IsReX (fun k => u5.ownBlock = some k) (w1.alloc (.cells #[ptr b] 37)) b RE.nothing := (h1.keep fun k hk _ => (re_alloc w1 _).block k hk).mono fun k _ e => (hW.own.lt k e).2
        have hW9 := (hW1.later (re_alloc w1 _)).appended (n := bs.length + 1) (AreReX.one hb1) (by simp) rfl hown9 hg9 hat9
        have HW9 : Hid (OwnRe w (RE.flat o (l.take (k + 1))) (bs ++ [b]) (.slice (some ⟨g5, 0, none⟩) (bs.length + 1) cp5) W9) := by show OwnRe _ _ _ _ _; rw [HNX.out, HF1.out]; exact hW9
        clear hW9 hb1 hown9 hg9 hat9 hW1 hW h1 h2
        go_wp2
        go_roundw
        case rel => exact ⟨k + 1, _, by omega, by go_num, HW9.out⟩
        case measure => simp [intOf]; omega
      | some r =>
        obtain ⟨b, rfl, hb⟩ := hxo
        obtain ⟨kp1, cap1, bs1, hnode, hptr, hkids⟩ := hb.open
        have hnode1 := (hW.bel.block b hb.lt).trans hnode
        have hop : wr.cell? ⟨b, 0, none⟩ = some (.int .i64 (r.op : Nat)) := by rw [cell_of_row _ _ _ _ _ _ hnode1]; rfl
        have hks : wr.cell? ⟨b, 2 + 3, none⟩ = some (.slice kp1 r.kids.length cap1) := by rw [cell_of_row _ _ _ _ _ _ hnode1]; rfl
        change wr.cell? ⟨kb, ko + k, none⟩ = some (.pointer (some ⟨b, 0, none⟩)) at hx
        by_cases hro : r.op = o
        · have hro' : ((r.op : Int) == (o : Int)) = true := by rw [hro]; simp
          have HF1 : Hid (RE.flat1 o (some r) = r.kids) := by show _ = _; simp [RE.flat1, hro]
          rw [HF1.out] at hlen
          have hkn : 0 < r.kids.length := List.length_pos_iff.2 (HNE.out r hmem hro)
          have hb1l := hkids.1
          rcases hptr with h0 | ⟨k1, o1, rfl, hkc⟩
          · rw [h0] at hb1l; simp at hb1l; omega
          have hnews : ∀ j u, (bs1.map ptr)[j]? = some u → wr.cell? ((⟨k1, o1, none⟩ : Addr).add j) = some u := fun j u hu => by
            have hj : j < bs1.length := by have := (List.getElem?_eq_some_iff.1 hu).1; simpa using this
            have h3 := hkc j hj
            rw [addr_at, hW.bel.cell (p := ⟨k1, o1 + j, none⟩) (World.block_lt_of_cell? w _ h3), h3]
            simpa [List.getD, hj] using hu
          have HK1 := Lib.hid hnews
          clear hnews hkc
          go_wp2_with (at_builtin; refine wpList_append_lies _ rfl _ _ _ rfl w.heap.size 37 i0 _ 1 8 Tryz.underlying113 HI.out HZ0.out HZ1.out HZ2.out rfl (by omega) u5 bs.length (bs.map ptr) rfl hW.own ⟨k1, o1, none⟩ r.kids.length cap1 (bs1.map ptr) rfl (by simp [hb1l]) HK1.out (ptr_one bs1) (by omega) (by unfold maxLen; omega) (by omega) hW.bel.size wr.heap.size rfl ?_; intro g5 cp5 W9 hown9 hg9 hat9 hlt9)
          have hb1 : AreReX (fun k => u5.ownBlock = some k) wr bs1 r.kids := (hkids.avoid (X := fun k => u5.ownBlock = some k) fun k hk e => by have := (hW.own.lt k e).1; omega).keep fun k hk _ => hW.bel.block k hk
          have hW9 := hW.appended (n := bs.length + r.kids.length) hb1 (Nat.le_refl _) (by rw [hb1l]) hown9 hg9 hat9
          have HW9 : Hid (OwnRe w (RE.flat o (l.take (k + 1))) (bs ++ bs1) (.slice (some ⟨g5, 0, none⟩) (bs.length + r.kids.length) cp5) W9) := by show OwnRe _ _ _ _ _; rw [HNX.out, HF1.out]; exact hW9
          clear hW9 hb1 hown9 hg9 hat9 hW
          go_wp2
          go_roundw
          case rel => exact ⟨k + 1, _, by omega, by go_num, HW9.out⟩
          case measure => simp [intOf]; omega
        · have hro' : ((r.op : Int) == (o : Int)) = false := by simpa using fun e => hro (by omega)
          have HF1 : Hid (RE.flat1 o (some r) = [r]) := by show _ = _; simp [RE.flat1, hro]
          rw [HF1.out] at hlen
          simp only [List.length_cons, List.length_nil] at hlen
          go_wp2_with (at_builtin; refine wpList_append_lies _ rfl _ _ _ rfl w.heap.size 37 i0 _ 1 8 Tryz.underlying113 HI.out HZ0.out HZ1.out HZ2.out rfl (by omega) u5 bs.length (bs.map ptr) rfl (hW.own.alloc _) ⟨wr.heap.size, 0, none⟩ 1 1 [ptr b] rfl rfl (World.news_of_block (cs := #[ptr b]) (t := 37) (fr := (0, 0)) (heap_alloc_last wr _)) (ptr_one [b]) (by omega) (by unfold maxLen; omega) (by omega) (by have := hW.bel.size; simp; omega) (wr.heap.size + 1) (by simp) ?_; intro g5 cp5 W9 hown9 hg9 hat9 hlt9)
          have hb1 : IsReX (fun k => u5.ownBlock = some k) (wr.alloc (.cells #[ptr b] 37)) b r := ((hb.avoid (X := fun k => u5.ownBlock = some k) fun k hk e => by have := (hW.own.lt k e).1; omega).keep fun k hk _ => (ext_alloc hW.bel _).block k hk)
          have hW9 := (hW.later (re_alloc wr _)).appended (n := bs.length + 1) (AreReX.one hb1) (by simp) rfl hown9 hg9 hat9
          have HW9 : Hid (OwnRe w (RE.flat o (l.take (k + 1))) (bs ++ [b]) (.slice (some ⟨g5, 0, none⟩) (bs.length + 1) cp5) W9) := by show OwnRe _ _ _ _ _; rw [HNX.out, HF1.out]; exact hW9
          clear hW9 hb1 hown9 hg9 hat9 hW
          go_wp2
          go_roundw
          case rel => exact ⟨k + 1, _, by omega, by go_num, HW9.out⟩
          case measure => simp [intOf]; omega
    · obtain rfl : k = l.length := by omega
      rw [List.take_length] at hW
      go_wp2
      go_ret
      exact ⟨_, bs, rfl, hW⟩
end Go.Proofs.YticpjjmacmmpjaaGreatDoor
