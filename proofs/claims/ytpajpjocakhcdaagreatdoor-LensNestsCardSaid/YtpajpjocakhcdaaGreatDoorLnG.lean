/-
  How deep the parentheses of a term's text lie in one another, walked through the program: Nest and what it calls.
-/
import Derived.Test.YtpajpjocakhcdaaGreatDoorLnF
set_option linter.unusedSimpArgs false
set_option linter.unusedVariables false
set_option maxRecDepth 100000
set_option linter.unnecessarySimpa false
namespace Go.Proofs.YtpajpjocakhcdaaGreatDoor
open Go.RowKit
theorem TA.len_sizes2 (l : List TA) : l.length ≤ TA.sizes l := by
  induction l with
  | nil => simp
  | cons a l ih => simp only [List.length_cons, TA.sizes]; have := a.size_eq; omega
theorem wraps_any (b o i kb ko : Nat) (ho : o < 18) (hko : ko < 18) (hi : i ≤ 1099511627776) (w : World) (hc : w.cell? ⟨b, 0, none⟩ = some (.int .i64 (o : Nat))) (hk : w.cell? ⟨kb, 0, none⟩ = some (.int .i64 (ko : Nat))) :
    Calls Tryz.prog 61 #[ptr b, ptr kb, .int .i64 (i : Nat)] w fun e w' => e = .returned (.bool (TA.wrapB o i ko)) ∧ w' = w := by
  have HL1 := Lib.hid (tmlevel_any b o ho w hc)
  have HL2 := Lib.hid (tmlevel_any kb ko hko w hk)
  have h1 : TA.lvl o ≤ 4 := by (unfold TA.lvl; repeat' split); all_goals omega
  have h2 : TA.lvl ko ≤ 4 := by (unfold TA.lvl; repeat' split); all_goals omega
  have h : (o = 7 ∨ o = 8 ∨ o = 11) ∨ o = 9 ∨ (o = 10 ∨ o = 12 ∨ o = 13 ∨ o = 14 ∨ o = 15) ∨ (o = 0 ∨ o = 1 ∨ o = 2 ∨ o = 3 ∨ o = 4 ∨ o = 5 ∨ o = 6 ∨ o = 16 ∨ o = 17) := by omega
  rcases h with h | h | h | h
  · have HE : Hid (TA.wrapB o i ko = decide (TA.lvl ko < TA.lvl o + i)) := by show _ = _; unfold TA.wrapB; rw [if_pos h]
    generalize TA.wrapB o i ko = out at *
    generalize TA.lvl o = l at *
    generalize TA.lvl ko = k at *
    have HF : Hid (decide ((k : Int) < (l : Int) + (i : Int)) = out) := by
      show _ = _
      rw [HE.out]
      exact decide_eq_decide.2 (by omega)
    clear ho hko hk HE
    rcases h with rfl | rfl | rfl
    all_goals
      go_enter Tryz.func61, Tryz.ntmps61
      go_wp2_with fail
      refine HL2.out.mono ?_
      rintro e w' ⟨rfl, rfl⟩
      go_wp2_with fail
      refine HL1.out.mono ?_
      rintro e w' ⟨rfl, rfl⟩
      go_wp2_with fail
      go_ret
      exact ⟨by rw [← HF.out]; rfl, rfl⟩
  · subst h
    have HE : Hid (decide (TA.lvl ko < TA.lvl 9) = TA.wrapB 9 i ko) := by
      show _ = _
      unfold TA.wrapB; rw [if_neg (by omega), if_pos rfl]
    generalize TA.wrapB 9 i ko = out at *
    generalize TA.lvl 9 = l at *
    generalize TA.lvl ko = k at *
    clear ho hko hk
    go_enter Tryz.func61, Tryz.ntmps61
    go_wp2_with fail
    refine HL2.out.mono ?_
    rintro e w' ⟨rfl, rfl⟩
    go_wp2_with fail
    refine HL1.out.mono ?_
    rintro e w' ⟨rfl, rfl⟩
    go_wp2_with fail
    go_ret
    exact ⟨by rw [← HE.out]; rfl, rfl⟩
  · have HE : Hid (TA.wrapB o i ko = true) := by show _ = _; unfold TA.wrapB; rw [if_neg (by omega), if_neg (by omega)]; simp; omega
    generalize TA.wrapB o i ko = out at *
    clear HL1 HL2 h1 h2 hko hk ho
    rcases h with rfl | rfl | rfl | rfl | rfl
    all_goals
      go_enter Tryz.func61, Tryz.ntmps61
      go_wp2_with fail
      go_ret
      exact ⟨by rw [HE.out]; rfl, rfl⟩
  · have HE : Hid (TA.wrapB o i ko = false) := by show _ = _; unfold TA.wrapB; rw [if_neg (by omega), if_neg (by omega)]; simp; omega
    generalize TA.wrapB o i ko = out at *
    clear HL1 HL2 h1 h2 hko hk ho
    rcases h with rfl | rfl | rfl | rfl | rfl | rfl | rfl | rfl | rfl
    all_goals
      go_enter Tryz.func61, Tryz.ntmps61
      go_wp2_with fail
      go_ret
      exact ⟨by rw [HE.out]; rfl, rfl⟩
def NestAt (w : World) (o : Nat) (ks : List TA) (N : Nat) (v i : Value) (wr : World) : Prop := ∃ k m : Nat, k ≤ ks.length ∧ i = .int .i64 k ∧ v = .int .i64 m ∧ m ≤ 1099511627777 ∧ TA.nestG o k (ks.drop k) m = N ∧ wr = w
theorem tmNest_nil (w : World) : Calls Tryz.prog 23 #[.pointer none] w fun e w' => e = .returned (.int .i64 0) ∧ w' = w := by
  go_enter Tryz.func23, Tryz.ntmps23
  go_wp2_with fail
  go_ret
  exact ⟨rfl, rfl⟩
set_option maxRecDepth 100000 in
set_option maxHeartbeats 2000000 in
theorem tmNest_any : ∀ (n : Nat) (t : TA), t.size ≤ n → t.ok → t.size ≤ 1099511627776 → ∀ (w : World), IsTa w t → Calls Tryz.prog 23 #[ptr t.b] w fun e w' => e = .returned (.int .i64 (t.nest : Nat)) ∧ w' = w
  | 0, t, hn, _, _, _, _ => by have := t.size_eq; omega
  | n + 1, t, hn, hok, hsz, w, ht => by
    obtain ⟨⟨rv, kp, cap, hnode⟩, hkt⟩ := ht.open
    have c0 := hnode.cells.1
    have c6 := hnode.cells.2.2.2.2.2.2
    have hrow := hnode.2.2
    have HE : Hid (TA.nestG t.op 0 t.kids 0 = t.nest) := t.nest_eq.symm
    have ho := (TA.ok_top hok).1
    have HIH : Hid (∀ k ∈ t.kids, Calls Tryz.prog 23 #[ptr k.b] w fun e w' => e = .returned (.int .i64 (k.nest : Nat)) ∧ w' = w) := fun k hk => tmNest_any n k (by have := TA.kid_size hk; omega) (TA.ok_kids hok k hk) (by have := TA.kid_size hk; omega) w (hkt k hk)
    have HWR : Hid (∀ k ∈ t.kids, ∀ i, i ≤ 1099511627776 → Calls Tryz.prog 61 #[ptr t.b, ptr k.b, .int .i64 (i : Nat)] w fun e w' => e = .returned (.bool (TA.wrapB t.op i k.op)) ∧ w' = w) := fun k hk i hi => by
      obtain ⟨⟨_, _, _, hk1⟩, _⟩ := (hkt k hk).open
      exact wraps_any t.b t.op i k.b k.op ho (TA.ok_top (TA.ok_kids hok k hk)).1 hi w c0 hk1.cells.1
    have HNL : Hid (∀ k ∈ t.kids, k.nest ≤ 1099511627776) := fun k hk => by have := TA.kid_size hk; have := k.nest_le; omega
    have HR := Lib.hid hrow
    have hll : t.kids.length ≤ 1099511627776 := by have := TA.len_sizes2 t.kids; have := t.size_eq; omega
    clear hnode hkt ht hrow c0 ho hok hn
    generalize t.kids = ks at *
    generalize t.nest = N at *
    generalize t.op = o at *
    generalize t.b = b at *
    go_enter Tryz.func23, Tryz.ntmps23
    go_wp2_with fail
    go_loopw [3, 14] (fun v i wr => NestAt w o ks N v i wr) (fun _ i _ => ks.length - (intOf i).toNat)
    case atStart => exact ⟨0, 0, by omega, rfl, rfl, by omega, HE.out, rfl⟩
    case round =>
      obtain ⟨k, m, hk, rfl, rfl, hm, hgo, rfl⟩ := hrel
      by_cases hlt : k < ks.length
      · obtain ⟨kb, ko, rfl, hc⟩ := HR.out.at (fun e => by rw [e] at hlt; simp at hlt)
        have hp := hc k hlt
        have hmem : ks.getD k TA.none ∈ ks := by simp [List.getD, hlt]
        have HC := Lib.hid (HIH.out _ hmem)
        have HD := Lib.hid (HWR.out _ hmem k (by omega))
        have hnl := HNL.out _ hmem
        have hdrop : ks.drop k = ks.getD k TA.none :: ks.drop (k + 1) := by rw [List.drop_eq_getElem_cons hlt]; simp [List.getD, hlt]
        rw [hdrop, TA.nestG] at hgo
        have HGO := Lib.hid hgo
        clear hgo hdrop hc hmem
        generalize (ks.getD k TA.none).nest = q at *
        generalize (ks.getD k TA.none).b = b1 at *
        generalize hwb : TA.wrapB o k (ks.getD k TA.none).op = wb at *
        clear hwb
        cases wb
        · have HX : Hid (TA.nestG o (k + 1) (ks.drop (k + 1)) (max m q) = N) := by show _ = _; have := HGO.out; simpa using this
          have e1 : max ((m : Nat) : Int) ((q : Nat) : Int) = ((max m q : Nat) : Int) := by omega
          go_wp2_with fail
          refine HC.out.mono ?_
          rintro e w' ⟨rfl, rfl⟩
          go_wp2_with fail
          refine HD.out.mono ?_
          rintro e w' ⟨rfl, rfl⟩
          go_wp2_with fail
          go_roundw
          case rel => exact ⟨k + 1, max m q, by omega, by go_num, by first | rfl | go_num | (rw [e1]) | simp [e1], by omega, HX.out, rfl⟩
          case measure => simp [intOf]; omega
        · have HX : Hid (TA.nestG o (k + 1) (ks.drop (k + 1)) (max m (q + 1)) = N) := by show _ = _; have := HGO.out; simpa using this
          have e1 : max ((m : Nat) : Int) ((q : Nat) + 1 : Int) = ((max m (q + 1) : Nat) : Int) := by omega
          go_wp2_with fail
          refine HC.out.mono ?_
          rintro e w' ⟨rfl, rfl⟩
          go_wp2_with fail
          refine HD.out.mono ?_
          rintro e w' ⟨rfl, rfl⟩
          go_wp2_with fail
          go_roundw
          case rel => exact ⟨k + 1, max m (q + 1), by omega, by go_num, by first | rfl | go_num | (rw [e1]) | simp [e1], by omega, HX.out, rfl⟩
          case measure => simp [intOf]; omega
      · obtain rfl : k = ks.length := by omega
        rw [List.drop_length, TA.nestG] at hgo
        subst hgo
        go_wp2_with fail
        go_ret
        exact ⟨rfl, rfl⟩
end Go.Proofs.YtpajpjocakhcdaaGreatDoor
