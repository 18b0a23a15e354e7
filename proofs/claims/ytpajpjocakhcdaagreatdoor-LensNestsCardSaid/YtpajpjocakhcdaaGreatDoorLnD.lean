/-
  Terms as they are written, whatever terms; their size; a nil term.
-/
import Derived.Test.YtpajpjocakhcdaaGreatDoorLnB
set_option linter.unusedSimpArgs false
set_option linter.unusedVariables false
set_option maxRecDepth 100000
set_option linter.unnecessarySimpa false
namespace Go.Proofs.YtpajpjocakhcdaaGreatDoor
open Go.RowKit
theorem TA.kid_size {t k : TA} (h : k ∈ t.kids) : k.size < t.size := by have := TA.mem_sizes h; rw [t.size_eq]; omega
theorem TA.kid_wt {t k : TA} (h : k ∈ t.kids) : k.wt ≤ t.wt := by have := TA.mem_wts h; rw [t.wt_eq]; omega
theorem tmString_any : ∀ (n : Nat) (t : TA), t.size ≤ n → t.ok → t.wt ≤ 1099511627776 → ∀ (w : World), Tab w → WordsAt w → IsTa w t → Calls Tryz.prog 16 #[ptr t.b] w (StrPost t.str w)
  | 0, t, hn, _, _, _, _, _, _ => by have := t.size_eq; omega
  | n + 1, t, hn, hok, hwt, w, hT, hWo, ht => tmString_step t hok hwt w hT hWo ht fun k hk W hb =>
    tmString_any n k (by have := TA.kid_size hk; omega) (TA.ok_kids hok k hk) (by have := TA.kid_wt hk; omega) W (hT.later hb) (hWo.later hb) (IsTa.later hb k (ht.open.2 k hk))
theorem tmString_nil (w : World) : Calls Tryz.prog 16 #[.pointer none] w (StrPost [40, 41] w) := by
  go_enter Tryz.func16, Tryz.ntmps16
  go_wp2_with fail
  go_ret
  exact ⟨rfl, Below.refl _ _⟩
def SizeAt (w : World) (ks : List TA) (v i : Value) (wr : World) : Prop := ∃ k : Nat, k ≤ ks.length ∧ i = .int .i64 k ∧ v = .int .i64 (1 + TA.sizes (ks.take k) : Nat) ∧ wr = w
theorem TA.sizes_append (l l' : List TA) : TA.sizes (l ++ l') = TA.sizes l + TA.sizes l' := by
  induction l with
  | nil => simp [TA.sizes]
  | cons a l ih => simp [TA.sizes, ih]; omega
theorem TA.sizes_take (l : List TA) (k : Nat) : TA.sizes (l.take k) ≤ TA.sizes l := by
  conv => rhs; rw [← List.take_append_drop k l, TA.sizes_append]
  omega
set_option maxRecDepth 100000 in
set_option maxHeartbeats 2000000 in
theorem tmSize_any : ∀ (n : Nat) (t : TA), t.size ≤ n → t.size ≤ 1099511627776 → ∀ (w : World), IsTa w t → Calls Tryz.prog 18 #[ptr t.b] w fun e w' => e = .returned (.int .i64 (t.size : Nat)) ∧ w' = w
  | 0, t, hn, _, _, _ => by have := t.size_eq; omega
  | n + 1, t, hn, hsz, w, ht => by
    obtain ⟨⟨rv, kp, cap, hnode⟩, hkt⟩ := ht.open
    have c6 := hnode.cells.2.2.2.2.2.2
    have hrow := hnode.2.2
    have HE : Hid (t.size = 1 + TA.sizes t.kids) := t.size_eq
    have hse := t.size_eq
    have HIH : Hid (∀ k ∈ t.kids, Calls Tryz.prog 18 #[ptr k.b] w fun e w' => e = .returned (.int .i64 (k.size : Nat)) ∧ w' = w) := fun k hk => tmSize_any n k (by have := TA.kid_size hk; omega) (by have := TA.kid_size hk; omega) w (hkt k hk)
    have HR := Lib.hid hrow
    have hll : t.kids.length ≤ TA.sizes t.kids := by
      have : ∀ l : List TA, l.length ≤ TA.sizes l := by
        intro l
        induction l with
        | nil => simp
        | cons a l ih => have := a.size_eq; simp [TA.sizes]; omega
      exact this _
    clear hnode hkt ht hrow
    generalize t.kids = ks at *
    generalize t.size = sz at *
    generalize t.b = b at *
    go_enter Tryz.func18, Tryz.ntmps18
    go_wp2_with fail
    go_loopw [3, 13] (fun v i wr => SizeAt w ks v i wr) (fun _ i _ => ks.length - (intOf i).toNat)
    case atStart => exact ⟨0, by omega, rfl, rfl, rfl⟩
    case round =>
      obtain ⟨k, hk, rfl, rfl, rfl⟩ := hrel
      by_cases hlt : k < ks.length
      · obtain ⟨kb, ko, rfl, hc⟩ := HR.out.at (fun e => by rw [e] at hlt; simp at hlt)
        have hp := hc k hlt
        have hmem : ks.getD k TA.none ∈ ks := by simp [List.getD, hlt]
        have HC := Lib.hid (HIH.out _ hmem)
        have HNX : Hid (1 + TA.sizes (ks.take (k + 1)) = 1 + TA.sizes (ks.take k) + (ks.getD k TA.none).size) := by
          show _ = _
          rw [tm_snoc ks k hlt, TA.sizes_append]; simp [TA.sizes]; omega
        have h1 := TA.sizes_take ks (k + 1)
        have h2 := HNX.out
        have hbd : 1 + TA.sizes (ks.take k) + (ks.getD k TA.none).size ≤ 1099511627776 := by omega
        clear h1 h2 hc hmem
        generalize 1 + TA.sizes (ks.take k) = s at *
        generalize (ks.getD k TA.none).size = q at *
        generalize (ks.getD k TA.none).b = b1 at *
        go_wp2_with fail
        refine HC.out.mono ?_
        rintro e w' ⟨rfl, rfl⟩
        go_wp2_with fail
        go_roundw
        case rel => exact ⟨k + 1, by omega, by go_num, by rw [HNX.out]; go_num, rfl⟩
        case measure => simp [intOf]; omega
      · obtain rfl : k = ks.length := by omega
        rw [List.take_length]
        go_wp2_with fail
        go_ret
        exact ⟨by rw [HE.out]; rfl, rfl⟩
theorem tmSize_nil (w : World) : Calls Tryz.prog 18 #[.pointer none] w fun e w' => e = .returned (.int .i64 0) ∧ w' = w := by
  go_enter Tryz.func18, Tryz.ntmps18
  go_wp2_with fail
  go_ret
  exact ⟨rfl, rfl⟩
namespace TA
/-- a term as it may be made -/
def madeTop (o : Nat) (ks : List TA) : Prop :=
  2 ≤ o ∧ o < 18 ∧ (o = 2 ∨ o = 16 ∨ o = 3 ∨ o = 4 ∨ o = 5 ∨ o = 17 → ks = []) ∧ (o = 7 ∨ o = 8 ∨ o = 11 ∨ o = 10 ∨ o = 14 ∨ o = 15 → ∃ x y, ks = [x, y]) ∧ (o = 9 ∨ o = 12 ∨ o = 13 → ∃ x, ks = [x])
mutual
def made : TA → Prop | node _ o _ _ _ _ _ ks => madeTop o ks ∧ mades ks
def mades : List TA → Prop | [] => True | k :: ks => made k ∧ mades ks
end
theorem mades_iff (l : List TA) : mades l ↔ ∀ r ∈ l, made r := by
  induction l with
  | nil => simp [mades]
  | cons a l ih => simp [mades, ih]
theorem made_top {t : TA} (h : made t) : madeTop t.op t.kids := by cases t; exact h.1
theorem made_kids {t : TA} (h : made t) : ∀ k ∈ t.kids, made k := by cases t; exact (mades_iff _).1 h.2
end TA
theorem lwlevel_any (b o : Nat) (ho : o < 18) (w : World) (hc : w.cell? ⟨b, 0, none⟩ = some (.int .i64 (o : Nat))) : Calls Tryz.prog 96 #[ptr b] w fun e w' => e = .returned (.int .i64 (TA.lvl o : Nat)) ∧ w' = w := by
  have h : o = 7 ∨ o = 8 ∨ o = 11 ∨ o = 9 ∨ (¬ o = 7 ∧ ¬ o = 8 ∧ ¬ o = 11 ∧ ¬ o = 9) := by omega
  rcases h with rfl | rfl | rfl | rfl | ⟨h7, h8, h11, h9⟩
  any_goals
    go_enter Tryz.func96, Tryz.ntmps96
    go_wp2
    go_ret
    exact ⟨rfl, rfl⟩
  have HL : Hid (TA.lvl o = 4) := by show _ = _; simp [TA.lvl, h7, h8, h11, h9]
  have g7 : ((o : Int) == 7) = false := by rw [beq_eq_false_iff_ne]; omega
  have g8 : ((o : Int) == 8) = false := by rw [beq_eq_false_iff_ne]; omega
  have g11 : ((o : Int) == 11) = false := by rw [beq_eq_false_iff_ne]; omega
  have g9 : ((o : Int) == 9) = false := by rw [beq_eq_false_iff_ne]; omega
  generalize TA.lvl o = l at *
  clear h7 h8 h11 h9
  go_enter Tryz.func96, Tryz.ntmps96
  go_wp2
  go_ret
  exact ⟨by rw [HL.out]; rfl, rfl⟩
set_option maxRecDepth 100000 in
set_option maxHeartbeats 2000000 in
theorem lwwithin_any (t : TA) (l : Nat) (hl : l ≤ 4) (hok : t.ok) (hwt : t.wt ≤ 1099511627776) (w : World) (ht : IsTa w t) (hS : ∀ W, Below w.heap.size w W → Calls Tryz.prog 17 #[ptr t.b] W (StrPost t.str W)) :
    Calls Tryz.prog 60 #[ptr t.b, .int .i64 l] w (StrPost (TA.inn l t) w) := by
  obtain ⟨⟨rv, kp, cap, hn⟩, _⟩ := ht.open
  have HL := Lib.hid (lwlevel_any t.b t.op (TA.ok_top hok).1 w hn.cells.1)
  have HO := Lib.hid (hS w (Below.refl _ _))
  have HI : Hid (TA.inn l t = if TA.lvl t.op < l then [40] ++ t.str ++ [41] else t.str) := rfl
  have hlen := t.str_len
  clear hn ht hS hok
  generalize t.str = s at *
  generalize TA.inn l t = out at *
  generalize TA.lvl t.op = lv at *
  generalize t.wt = wt at *
  by_cases hlt : lv < l
  · have HE : Hid (out = [40] ++ s ++ [41]) := by show _ = _; rw [HI.out, if_pos hlt]
    have hlt' : (lv : Int) < (l : Int) := by omega
    go_enter Tryz.func60, Tryz.ntmps60
    go_wp2_with fail
    refine HL.out.mono ?_
    rintro e w' ⟨rfl, rfl⟩
    go_wp2_with fail
    refine HO.out.mono ?_
    rintro e w1 ⟨rfl, hb⟩
    go_wp2_with fail
    go_ret
    exact ⟨congrArg (fun s => Ending.returned (.string s)) (ByteArray.ext (by rw [HE.out]; simp)), hb⟩
  · have HE : Hid (out = s) := by show _ = _; rw [HI.out, if_neg hlt]
    have hlt' : ¬ (lv : Int) < (l : Int) := by omega
    go_enter Tryz.func60, Tryz.ntmps60
    go_wp2_with fail
    refine HL.out.mono ?_
    rintro e w' ⟨rfl, rfl⟩
    go_wp2_with fail
    refine HO.out.mono ?_
    rintro e w1 ⟨rfl, hb⟩
    go_wp2_with fail
    go_ret
    exact ⟨by rw [HE.out]; rfl, hb⟩
end Go.Proofs.YtpajpjocakhcdaaGreatDoor
