/-
  LensWalks, walked through the program.
-/
import Derived.Test.YtpajpjocakhcdaaGreatDoorLnX
import Derived.BigQuiet
set_option linter.unusedSimpArgs false
set_option linter.unusedVariables false
set_option maxRecDepth 100000
set_option linter.unnecessarySimpa false
namespace Go.Proofs.YtpajpjocakhcdaaGreatDoor
open Go.RowKit
theorem TA.blocks_len : (t : TA) → t.blocks.length = t.size := by
  have key : ∀ n (t : TA), t.size ≤ n → t.blocks.length = t.size := by
    intro n
    induction n with
    | zero => intro t h; have := t.size_eq; omega
    | succ n ih =>
      intro t h
      rw [t.blocks_eq, t.size_eq]
      have : ∀ l : List TA, (∀ k ∈ l, k.size ≤ n) → (TA.blockss l).length = TA.sizes l := by
        intro l
        induction l with
        | nil => intro _; rfl
        | cons a l ih2 =>
          intro h
          simp only [TA.blockss, List.length_append, TA.sizes]
          rw [ih a (h a (by simp)), ih2 fun k hk => h k (by simp [hk])]
      rw [List.length_cons, this t.kids fun k hk => by have := TA.kid_size hk; omega]
      omega
  exact fun t => key t.size t (Nat.le_refl _)
theorem ptrs_one (bs : List Nat) : ∀ u ∈ bs.map ptr, u.oneCell' = true := by
  intro u hu
  obtain ⟨b, _, rfl⟩ := List.mem_map.1 hu
  rfl
theorem TA.blocks_ne (t : TA) : t.blocks ≠ [] := by rw [t.blocks_eq]; simp
/-- pointers to terms in a row of one's own -/
structure OwnP (w : World) (bs : List Nat) (v : Value) (wr : World) : Prop where
  own : wr.ownsRow w.heap.size 26 1 v bs.length (bs.map ptr)
  bel : Below w.heap.size w wr
theorem OwnP.later {w wr wr' : World} {bs : List Nat} {v : Value} (h : OwnP w bs v wr) (hb : Below wr.heap.size wr wr') : OwnP w bs v wr' :=
  ⟨h.own.kept (re_grownBy hb) (by cases v.ownBlock <;> simp), ext_step h.bel hb⟩
theorem OwnP.appended {w Wa W' : World} {bs cs : List Nat} {v : Value} {g cp : Nat} (h : OwnP w bs v Wa)
   (hown : W'.ownsRow w.heap.size 26 1 (.slice (some ⟨g, 0, none⟩) (bs.length + cs.length) cp) (bs.length + cs.length) (bs.map ptr ++ cs.map ptr)) (hg : Wa.grownBy W' v.ownBlock) :
    OwnP w (bs ++ cs) (.slice (some ⟨g, 0, none⟩) (bs.length + cs.length) cp) W' :=
  ⟨by simpa using hown, h.bel.grown hg h.bel.size (fun k e => (h.own.lt k e).1)⟩
theorem OwnP.one (w : World) (b : Nat) : OwnP w [b] (.slice (some ⟨w.heap.size, 0, none⟩) 1 1) (w.alloc (.cells #[ptr b] 26)) :=
  ⟨World.ownsRow_lit w #[ptr b] 1 (Nat.le_refl _) (by unfold maxLen; omega) rfl, re_alloc _ _⟩
theorem OwnP.form {w wr : World} {bs : List Nat} {v : Value} (h : OwnP w bs v wr) (hne : bs ≠ []) : ∃ g cap, v = .slice (some ⟨g, 0, none⟩) bs.length cap ∧ w.heap.size ≤ g ∧ g < wr.heap.size ∧ ∀ j u, (bs.map ptr)[j]? = some u → wr.cell? ((⟨g, 0, none⟩ : Addr).add j) = some u := by
  have hn : 0 < bs.length := List.length_pos_iff.2 hne
  obtain ⟨g, cap, rfl, h1, h2⟩ := h.own.form hn
  refine ⟨g, cap, rfl, h1, h2, fun j u hj => ?_⟩
  exact h.own.cells (show (Value.slice (some ⟨g, 0, none⟩) bs.length cap).ownBlock = some g from rfl) j u hj
def PartsPAt (w : World) (b : Nat) (ks : List TA) (v i : Value) (wr : World) : Prop := ∃ k : Nat, k ≤ ks.length ∧ i = .int .i64 k ∧ OwnP w (b :: TA.blockss (ks.take k)) v wr
set_option maxRecDepth 100000 in
set_option maxHeartbeats 4000000 in
theorem parts_any : ∀ (n : Nat) (t : TA), t.size ≤ n → t.size ≤ 1099511627776 → ∀ (w : World), IsTa w t →
      Calls Tryz.prog 19 #[ptr t.b] w fun e w' => ∃ v, e = .returned v ∧ OwnP w t.blocks v w' := by
  intro n
  induction n with
  | zero => intro t hn; have := t.size_eq; omega
  | succ n ih =>
    intro t hn hsz w ht
    obtain ⟨⟨rv, kp, cap, hnode⟩, hkids⟩ := ht.open
    have HIH := Lib.hid (fun k (hk : k ∈ t.kids) W (hb : Below w.heap.size w W) => ih k (by have := TA.kid_size hk; omega) (by have := TA.kid_size hk; omega) W (IsTa.later hb k (hkids k hk)))
    have hln : t.kids.length ≤ 1099511627776 := by have := TA.len_sizes t.kids; have := t.size_eq; omega
    have HTL : Hid ((t.b :: TA.blockss t.kids).length ≤ 1099511627776) := by show _ ≤ _; rw [← t.blocks_eq, t.blocks_len]; exact hsz
    have HR := Lib.hid hnode.2.2
    obtain ⟨_, _, _, _, _, _, c6⟩ := hnode.cells
    have hbl := World.block_lt_of_cell? w _ c6
    have hbl : t.b < w.heap.size := hbl
    have c6' := (re_alloc w (.cells #[ptr t.b] 26)).cell (p := ⟨t.b, 6, none⟩) hbl
    obtain ⟨i0, hi, hz0, hz1, hz2⟩ := info_parts infoTm
    have HI := Lib.hid hi; have HZ0 := Lib.hid hz0; have HZ1 := Lib.hid hz1; have HZ2 := Lib.hid hz2
    have hb0 : t.b ≠ w.heap.size := by omega
    rw [t.blocks_eq]
    clear hi hz0 hz1 hz2 hn hsz ht hnode hkids ih
    generalize t.kids = ks at *
    generalize t.b = b at *
    go_enter Tryz.func19, Tryz.ntmps19
    go_wp2_with fail
    go_loopw [3, 13] (fun v i wr => PartsPAt w b ks v i wr) (fun _ i _ => ks.length - (intOf i).toNat)
    case atStart => exact ⟨0, by omega, rfl, by rw [List.take_zero]; exact OwnP.one w b⟩
    case round =>
      obtain ⟨k, hk, rfl, hW⟩ := hrel
      by_cases hlt : k < ks.length
      · have hmem : ks.getD k TA.none ∈ ks := by simp [List.getD, hlt]
        obtain ⟨kb, ko, hkp, hkc⟩ : ∃ kb ko, kp = some ⟨kb, ko, none⟩ ∧ wr.cell? ⟨kb, ko + k, none⟩ = some (.pointer (some ⟨(ks.getD k TA.none).b, 0, none⟩)) := by
          rcases HR.out with h0 | ⟨kb, ko, cur, fr, h1, h2, h3⟩
          · rw [List.map_eq_nil_iff.1 h0] at hlt; simp at hlt
          · refine ⟨kb, ko, h1, ?_⟩
            rw [World.cell?_of_block (w := w) (w' := wr) (a := ⟨kb, ko + k, none⟩) (hW.bel.block kb (Array.getElem?_eq_some_iff.1 h2).1)]
            have := h3 k (by simpa using hlt)
            simpa [List.getD, hlt] using this
        have hbt : TA.blockss (ks.take (k + 1)) = TA.blockss (ks.take k) ++ (ks.getD k TA.none).blocks := by
          rw [tm_snoc ks k hlt, TA.blockss_append]; simp [TA.blockss]
        have HCL := Lib.hid (HIH.out _ hmem wr hW.bel)
        have hne := (ks.getD k TA.none).blocks_ne
        have hmm : 0 < (ks.getD k TA.none).blocks.length := List.length_pos_iff.2 hne
        have htl : (b :: TA.blockss (ks.take k)).length + (ks.getD k TA.none).blocks.length ≤ 1099511627776 := by
          have h1 := HTL.out
          have h2 : TA.blockss ks = TA.blockss (ks.take (k + 1)) ++ TA.blockss (ks.drop (k + 1)) := by rw [← TA.blockss_append, List.take_append_drop]
          rw [h2, hbt] at h1
          simp only [List.length_cons, List.length_append] at h1 ⊢
          omega
        have HNX : Hid (b :: TA.blockss (ks.take (k + 1)) = b :: TA.blockss (ks.take k) ++ (ks.getD k TA.none).blocks) := by show _ = _; rw [hbt]; rfl
        subst hkp
        have HW := Lib.hid hW
        have HNE := Lib.hid hne
        clear hbt hW hmem hne
        generalize b :: TA.blockss (ks.take k) = ps at *
        generalize (ks.getD k TA.none).blocks = cs at *
        generalize (ks.getD k TA.none).b = b1 at *
        go_wp2_with fail
        refine HCL.out.mono ?_
        rintro e w1 ⟨v1, rfl, h1⟩
        have hW1 := HW.out.later (h1.bel)
        obtain ⟨g1, cp1, rfl, _, _, hnews⟩ := h1.form HNE.out
        have hws : w.heap.size ≤ w1.heap.size := hW1.bel.size
        clear h1
        go_wp2_with (at_builtin; refine wpList_append_lies _ rfl _ _ _ rfl w.heap.size 26 i0 _ 1 8 Tryz.underlying32 HI.out HZ0.out HZ1.out HZ2.out rfl (by omega) u3 ps.length (ps.map ptr) rfl hW1.own ⟨g1, 0, none⟩ cs.length cp1 (cs.map ptr) rfl (by simp) hnews (ptrs_one cs) hmm (by unfold maxLen; omega) (by omega) hws w1.heap.size rfl ?_; intro g5 cp5 W9 hown9 hg9 hat9 hlt9)
        have hW9 := hW1.appended hown9 hg9
        rw [← HNX.out] at hW9
        have HW9 := Lib.hid hW9
        clear hW9 hown9 hg9 hat9 hW1 hnews
        go_wp2
        go_roundw
        case rel => exact ⟨k + 1, by omega, by go_num, HW9.out⟩
        case measure => simp [intOf]; omega
      · obtain rfl : k = ks.length := by omega
        rw [List.take_length] at hW
        have HW := Lib.hid hW
        clear hW
        go_wp2
        go_ret
        exact ⟨_, rfl, HW.out⟩
end Go.Proofs.YtpajpjocakhcdaaGreatDoor
