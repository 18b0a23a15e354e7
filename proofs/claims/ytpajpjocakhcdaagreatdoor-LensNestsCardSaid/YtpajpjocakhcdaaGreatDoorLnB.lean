/-
  Terms as they are written, and their size, walked through the program.
-/
import Derived.Test.YtpajpjocakhcdaaGreatDoorLnA
set_option linter.unusedSimpArgs false
set_option linter.unusedVariables false
set_option maxRecDepth 100000
set_option linter.unnecessarySimpa false
namespace Go.Proofs.YtpajpjocakhcdaaGreatDoor
open Go.RowKit
theorem tmlevel_any (b o : Nat) (ho : o < 18) (w : World) (hc : w.cell? ⟨b, 0, none⟩ = some (.int .i64 (o : Nat))) : Calls Tryz.prog 94 #[ptr b] w fun e w' => e = .returned (.int .i64 (TA.lvl o : Nat)) ∧ w' = w := by
  have h : o = 7 ∨ o = 8 ∨ o = 11 ∨ o = 9 ∨ (¬ o = 7 ∧ ¬ o = 8 ∧ ¬ o = 11 ∧ ¬ o = 9) := by omega
  rcases h with rfl | rfl | rfl | rfl | ⟨h7, h8, h11, h9⟩
  any_goals
    go_enter Tryz.func94, Tryz.ntmps94
    go_wp2
    go_ret
    exact ⟨rfl, rfl⟩
  have HL : Hid (TA.lvl o = 4) := by show _ = _; simp [TA.lvl, h7, h8, h11, h9]
  have g7 : ((o : Int) == 7) = false := by rw [beq_eq_false_iff_ne]; omega
  have g8 : ((o : Int) == 8) = false := by rw [beq_eq_false_iff_ne]; omega
  have g11 : ((o : Int) == 11) = false := by rw [beq_eq_false_iff_ne]; omega
  have g9 : ((o : Int) == 9) = false := by rw [beq_eq_false_iff_ne]; omega
  generalize TA.lvl o = l at *
  clear h7 h8 h11 h9
  go_enter Tryz.func94, Tryz.ntmps94
  go_wp2
  go_ret
  exact ⟨by rw [HL.out]; rfl, rfl⟩
set_option maxRecDepth 100000 in
set_option maxHeartbeats 2000000 in
theorem tmin_any (t : TA) (l : Nat) (hl : l ≤ 4) (hok : t.ok) (hwt : t.wt ≤ 1099511627776) (w : World) (ht : IsTa w t) (hS : ∀ W, Below w.heap.size w W → Calls Tryz.prog 16 #[ptr t.b] W (StrPost t.str W)) :
    Calls Tryz.prog 57 #[ptr t.b, .int .i64 l] w (StrPost (TA.inn l t) w) := by
  obtain ⟨⟨rv, kp, cap, hn⟩, _⟩ := ht.open
  have HL := Lib.hid (tmlevel_any t.b t.op (TA.ok_top hok).1 w hn.cells.1)
  have HO := Lib.hid (hS w (Below.refl _ _))
  have HI : Hid (TA.inn l t = if TA.lvl t.op < l then [40] ++ t.str ++ [41] else t.str) := rfl
  have hlen := t.str_len
  clear hn ht hS hok
  generalize t.str = s at *
  generalize TA.inn l t = out at *
  generalize TA.lvl t.op = lv at *
  generalize t.wt = wt at *
  by_cases hlt : lv < l
  · have HE : Hid (out = [40] ++ s ++ [41]) := by show _ = _; rw [HI.out, if_pos hlt]
    have hlt' : (lv : Int) < (l : Int) := by omega
    go_enter Tryz.func57, Tryz.ntmps57
    go_wp2_with fail
    refine HL.out.mono ?_
    rintro e w' ⟨rfl, rfl⟩
    go_wp2_with fail
    refine HO.out.mono ?_
    rintro e w1 ⟨rfl, hb⟩
    go_wp2_with fail
    go_ret
    exact ⟨congrArg (fun s => Ending.returned (.string s)) (ByteArray.ext (by rw [HE.out]; simp)), hb⟩
  · have HE : Hid (out = s) := by show _ = _; rw [HI.out, if_neg hlt]
    have hlt' : ¬ (lv : Int) < (l : Int) := by omega
    go_enter Tryz.func57, Tryz.ntmps57
    go_wp2_with fail
    refine HL.out.mono ?_
    rintro e w' ⟨rfl, rfl⟩
    go_wp2_with fail
    refine HO.out.mono ?_
    rintro e w1 ⟨rfl, hb⟩
    go_wp2_with fail
    go_ret
    exact ⟨by rw [HE.out]; rfl, hb⟩
/-- what holds of the terms of a call: each is written so, in whatever world behind -/
def Strs (w : World) (ks : List TA) : Prop := ∀ k ∈ ks, ∀ W, Below w.heap.size w W → Calls Tryz.prog 16 #[ptr k.b] W (StrPost k.str W)
set_option maxRecDepth 100000 in
set_option maxHeartbeats 2000000 in
theorem tmarg_any (t : TA) (hok : t.ok) (hwt : t.wt ≤ 1099511627776) (w : World) (hT : Tab w) (ht : IsTa w t) (hS : Strs w t.kids) :
    Calls Tryz.prog 54 #[ptr t.b] w (StrPost (TA.arg t.re t.kids) w) := by
  obtain ⟨⟨rv, kp, cap, hn⟩, _⟩ := ht.open
  obtain ⟨c0, c1, c2, c3, c4, c5, c6⟩ := hn.cells
  have hre := hn.2.1
  have hrow := hn.2.2
  have hwe := t.wt_eq
  have hnf := (TA.ok_top hok).2.1
  clear c0 c1 c2 c4 c5 hn ht hok
  by_cases h1 : t.kids.length = 1
  · obtain ⟨k, hk⟩ : ∃ k, t.kids = [k] := List.length_eq_one_iff.1 h1
    rw [hk] at hrow hS c6
    obtain ⟨kb, ko, rfl, hc⟩ := hrow.at (by simp)
    have hp : w.cell? ⟨kb, ko, none⟩ = some (.pointer (some ⟨k.b, 0, none⟩)) := by have := hc 0 (by simp); simpa using this
    have HO := Lib.hid (hS k (by simp) w (Below.refl _ _))
    have HE : Hid (TA.arg t.re t.kids = k.str) := by show _ = _; rw [hk]; rfl
    generalize TA.arg t.re t.kids = out at *
    generalize t.b = b at *
    generalize k.b = kb' at *
    generalize k.str = s at *
    clear hre hS hc h1 hk hwe hnf hrow
    go_enter Tryz.func54, Tryz.ntmps54
    go_wp2_with fail
    refine HO.out.mono ?_
    rintro e w1 ⟨rfl, hb⟩
    go_wp2_with fail
    go_ret
    exact ⟨by rw [HE.out]; rfl, hb⟩
  · have HE : Hid (TA.arg t.re t.kids = [47] ++ RE.ofO t.re ++ [47]) := by
      show _ = _
      match t.kids, h1 with
      | [], _ => rfl
      | _ :: _ :: _, _ => rfl
    have h1' : ((t.kids.length : Int) == 1) = false := by rw [beq_eq_false_iff_ne]; omega
    have hsz : RE.sizeO t.re ≤ 1073741824 := by omega
    have HO := Lib.hid (Of_text rv t.re w hT hre hnf hsz)
    have hlen : (RE.ofO t.re).length ≤ 2404 * (1 + RE.sizeO t.re) := by
      cases t.re with
      | none => simp [RE.ofO]; omega
      | some x => have := RE.ofW_len x; simp only [RE.ofO, RE.sizeO]; omega
    generalize TA.arg t.re t.kids = out at *
    generalize RE.ofO t.re = s at *
    generalize RE.sizeO t.re = z at *
    generalize t.kids.length = n at *
    generalize t.b = b at *
    clear hre hS hrow h1 hnf
    go_enter Tryz.func54, Tryz.ntmps54
    go_wp2_with fail
    refine HO.out.mono ?_
    rintro e w1 ⟨rfl, hb⟩
    go_wp2_with fail
    go_ret
    exact ⟨congrArg (fun s => Ending.returned (.string s)) (ByteArray.ext (by rw [HE.out]; simp)), hb⟩
set_option maxRecDepth 100000 in
set_option maxHeartbeats 4000000 in
theorem tmpair_any (t : TA) (sign : List UInt8) (l : Nat) (hsl : sign.length ≤ 3) (hl : l = 0 ∨ l = 1 ∨ l = 2) (hok : t.ok) (hwt : t.wt ≤ 1099511627776) (w : World) (ht : IsTa w t) (hS : Strs w t.kids) :
    Calls Tryz.prog 56 #[ptr t.b, .string ⟨sign.toArray⟩, .int .i64 l] w (StrPost (TA.pair sign l t.kids) w) := by
  obtain ⟨⟨rv, kp, cap, hn⟩, hkt⟩ := ht.open
  obtain ⟨c0, c1, c2, c3, c4, c5, c6⟩ := hn.cells
  have hrow := hn.2.2
  have hwe := t.wt_eq
  have hko := TA.ok_kids hok
  clear c0 c1 c2 c3 c4 c5 hn ht hok
  by_cases h2 : t.kids.length = 2
  · obtain ⟨x, y, hk⟩ : ∃ x y, t.kids = [x, y] := by
      match hk : t.kids, h2 with
      | [x, y], _ => exact ⟨x, y, rfl⟩
    rw [hk] at hrow hS c6 hkt hko hwe
    obtain ⟨kb, ko, rfl, hc⟩ := hrow.at (by simp)
    have hp0 : w.cell? ⟨kb, ko, none⟩ = some (.pointer (some ⟨x.b, 0, none⟩)) := by have := hc 0 (by simp); simpa using this
    have hp1 : w.cell? ⟨kb, ko + 1, none⟩ = some (.pointer (some ⟨y.b, 0, none⟩)) := hc 1 (by simp)
    have hwx : x.wt + y.wt ≤ 1099511627776 := by simp only [TA.wts] at hwe; omega
    have HI0 : Hid (∀ W, Below w.heap.size w W → Calls Tryz.prog 57 #[ptr x.b, .int .i64 l] W (StrPost (TA.inn l x) W)) := fun W hb =>
      tmin_any x l (by omega) (hko x (by simp)) (by omega) W (IsTa.later hb x (hkt x (by simp))) fun W' hb' => hS x (by simp) W' (ext_step hb hb')
    have HI1 : Hid (∀ W, Below w.heap.size w W → Calls Tryz.prog 57 #[ptr y.b, .int .i64 ((l + 1 : Nat) : Int)] W (StrPost (TA.inn (l + 1) y) W)) := fun W hb =>
      tmin_any y (l + 1) (by omega) (hko y (by simp)) (by omega) W (IsTa.later hb y (hkt y (by simp))) fun W' hb' => hS y (by simp) W' (ext_step hb hb')
    have HE : Hid (TA.pair sign l t.kids = TA.inn l x ++ sign ++ TA.inn (l + 1) y) := by show _ = _; rw [hk]; rfl
    have hlx : (TA.inn l x).length ≤ x.wt := by have := x.str_len; unfold TA.inn; split <;> (try simp only [List.length_append, List.length_cons, List.length_nil]) <;> omega
    have hly : (TA.inn (l + 1) y).length ≤ y.wt := by have := y.str_len; unfold TA.inn; split <;> (try simp only [List.length_append, List.length_cons, List.length_nil]) <;> omega
    generalize TA.pair sign l t.kids = out at *
    generalize t.b = b at *
    generalize x.b = b0 at *
    generalize y.b = b1 at *
    generalize TA.inn l x = l0 at *
    generalize TA.inn (l + 1) y = l1 at *
    generalize x.wt = wx at *
    generalize y.wt = wy at *
    obtain ⟨S, hS2⟩ : ∃ S : World → Prop, ∀ W', S W' ↔ Below w.heap.size w W' := ⟨_, fun _ => Iff.rfl⟩
    have HS := Lib.hid hS2
    have cs : ∀ p : InC S, p.w.cell? ⟨b, 6, none⟩ = some (.slice (some ⟨kb, ko, none⟩) 2 cap) ∧ p.w.cell? ⟨kb, ko, none⟩ = some (.pointer (some ⟨b0, 0, none⟩)) ∧ p.w.cell? ⟨kb, ko + 1, none⟩ = some (.pointer (some ⟨b1, 0, none⟩)) := fun p => by
      have hb := (hS2 p.w).1 p.h
      exact ⟨by rw [hb.cell (p := ⟨b, 6, none⟩) (World.block_lt_of_cell? w _ c6)]; exact c6, by rw [hb.cell (p := ⟨kb, ko, none⟩) (World.block_lt_of_cell? w _ hp0)]; exact hp0, by rw [hb.cell (p := ⟨kb, ko + 1, none⟩) (World.block_lt_of_cell? w _ hp1)]; exact hp1⟩
    have hS0 : S w.drew := (hS2 _).2 (Below.refl _ _).drew
    have hne : Nonempty (InC S) := ⟨⟨_, hS0⟩⟩
    have HC0 : Hid (∀ (p : InC S) (li : Int), li = (l : Int) → Calls Tryz.prog 57 #[.pointer (some ⟨b0, 0, none⟩), .int .i64 li] p.w fun e w' => e = .returned (.string ⟨l0.toArray⟩) ∧ ∃ q : InC S, w' = q.w) := fun p li hli => by
      subst hli
      exact (HI0.out p.w ((hS2 _).1 p.h)).mono fun e w' ⟨he, hb⟩ => ⟨he, ⟨w', (hS2 _).2 (ext_step ((hS2 _).1 p.h) hb)⟩, rfl⟩
    have HC1 : Hid (∀ (p : InC S) (li : Int), li = ((l + 1 : Nat) : Int) → Calls Tryz.prog 57 #[.pointer (some ⟨b1, 0, none⟩), .int .i64 li] p.w fun e w' => e = .returned (.string ⟨l1.toArray⟩) ∧ ∃ q : InC S, w' = q.w) := fun p li hli => by
      subst hli
      exact (HI1.out p.w ((hS2 _).1 p.h)).mono fun e w' ⟨he, hb⟩ => ⟨he, ⟨w', (hS2 _).2 (ext_step ((hS2 _).1 p.h) hb)⟩, rfl⟩
    clear hS2 hS hc h2 hk hwe hkt hko hrow HI0 HI1
    rcases hl with rfl | rfl | rfl
    all_goals
      go_enter Tryz.func56, Tryz.ntmps56
      go_wp2_with fail
      clear c6 hp0 hp1
      refine wp_region_class S (by kernel_rfl) (by kernel_rfl) hS0 ?_
      repeat (go_big_quiet_step (first | (with_reducible exact HC0.out _ _ (by decide)) | (with_reducible exact HC1.out _ _ (by decide))))
      refine wpQuiet_nil ?_
      intro p
      have hb := (HS.out p.w).1 p.h
      go_wp2
      go_ret
      exact ⟨congrArg (fun s => Ending.returned (.string s)) (ByteArray.ext (by rw [HE.out]; simp)), hb⟩
  · have HE : Hid (TA.pair sign l t.kids = [40, 41]) := by
      show _ = _
      match t.kids, h2 with
      | [], _ => rfl
      | [_], _ => rfl
      | _ :: _ :: _ :: _, _ => rfl
    have h2' : ((t.kids.length : Int) != 2) = true := by rw [bne_iff_ne]; omega
    generalize TA.pair sign l t.kids = out at *
    generalize t.kids.length = n at *
    generalize t.b = b at *
    clear hS hrow h2 hkt hko
    go_enter Tryz.func56, Tryz.ntmps56
    go_wp2_with fail
    go_ret
    exact ⟨by rw [HE.out]; rfl, Below.refl _ _⟩
-- by cases of the op
theorem str_node (t : TA) : t.str = if t.op = 0 then t.name else if t.op = 1 then [47] ++ RE.ofO t.re ++ [47] else if t.op = 2 ∨ t.op = 16 then TA.word t.op ++ [32] ++ TA.arg t.re t.kids
    else if t.op = 3 then [107, 101, 121, 32] ++ t.name ++ [32] ++ TA.arg t.re t.kids
    else if t.op = 4 then [99, 111, 110, 115, 116, 32] ++ TA.arg t.re t.kids ++ [32] ++ quoteW t.text ++ [32] ++ quoteW t.back
    else if t.op = 5 then [100, 101, 108, 32] ++ TA.arg t.re t.kids ++ [32] ++ quoteW t.back
    else if t.op = 17 then [110, 111, 114, 109, 32] ++ TA.arg t.re t.kids ++ [32] ++ quoteW t.text
    else if t.op = 6 then [105, 110, 115, 32] ++ quoteW t.text
    else if t.op = 7 then TA.pair [32, 124, 32] 0 t.kids else if t.op = 8 then TA.pair [32, 46, 32] 1 t.kids else if t.op = 11 then TA.pair [32, 59, 32] 2 t.kids
    else if t.op = 9 then TA.star t.kids else TA.word t.op ++ [40] ++ Lib.join (TA.strs t.kids) [44, 32] ++ [41] := by cases t; rw [TA.str]; rfl
def PartsAt (w : World) (ks : List TA) (v i : Value) (wr : World) : Prop := ∃ k : Nat, k ≤ ks.length ∧ i = .int .i64 k ∧ OwnS w ((ks.take k).map TA.str) v wr
theorem tm_snoc (l : List TA) (k : Nat) (h : k < l.length) : l.take (k + 1) = l.take k ++ [l.getD k TA.none] := by
  rw [List.take_succ_eq_append_getElem h]; simp [List.getD, h]
theorem tm_dec : ∀ o, o < 18 → o = 0 ∨ o = 1 ∨ o = 2 ∨ o = 16 ∨ o = 3 ∨ o = 4 ∨ o = 5 ∨ o = 17 ∨ o = 6 ∨ o = 7 ∨ o = 8 ∨ o = 11 ∨ o = 9 ∨ o = 10 ∨ o = 12 ∨ o = 13 ∨ o = 14 ∨ o = 15 := by decide
set_option maxRecDepth 100000 in
set_option maxHeartbeats 8000000 in
theorem tmString_step (t : TA) (hok : t.ok) (hwt : t.wt ≤ 1099511627776) (w : World) (hT : Tab w) (hWo : WordsAt w) (ht : IsTa w t) (hS : Strs w t.kids) :
    Calls Tryz.prog 16 #[ptr t.b] w (StrPost t.str w) := by
  obtain ⟨⟨rv, kp, cap, hn⟩, hkt⟩ := ht.open
  obtain ⟨c0, c1, c2, c3, c4, c5, c6⟩ := hn.cells
  have hrow := hn.2.2
  have hwe := t.wt_eq
  have hok1 := TA.ok_top hok
  have hkw : ∀ k ∈ t.kids, k.wt ≤ TA.wts t.kids := fun k hk => TA.mem_wts hk
  have hnl : t.name.length ≤ 1099511627776 := by omega
  have hal : (TA.arg t.re t.kids).length ≤ 3000000000000 := by
    have h1 := TA.arg_len t.re t.kids
    have hr : (RE.ofO t.re).length ≤ 2404 * (1 + RE.sizeO t.re) := by
      cases t.re with
      | none => simp [RE.ofO]; omega
      | some x => have := RE.ofW_len x; simp only [RE.ofO, RE.sizeO]; omega
    omega
  have hrl : (RE.ofO t.re).length ≤ 3000000000000 := by
    cases hre : t.re with
    | none => simp [RE.ofO]
    | some x => rw [hre] at hwe; have := RE.ofW_len x; simp only [RE.ofO, RE.sizeO] at hwe ⊢; omega
  have hwl := TA.word_len t.op
  have hql : (quoteW t.text).length ≤ 3000000000000 := by have := bytesW_len t.text; simp [quoteW]; omega
  have hbl : (quoteW t.back).length ≤ 3000000000000 := by have := bytesW_len t.back; simp [quoteW]; omega
  have hsz : RE.sizeO t.re ≤ 1073741824 := by omega
  obtain ⟨S, hS2⟩ : ∃ S : World → Prop, ∀ W', S W' ↔ Below w.heap.size w W' := ⟨_, fun _ => Iff.rfl⟩
  have HS := Lib.hid hS2
  have HA : Hid (∀ p : InC S, Calls Tryz.prog 54 #[.pointer (some ⟨t.b, 0, none⟩)] p.w fun e w' => e = .returned (.string ⟨(TA.arg t.re t.kids).toArray⟩) ∧ ∃ q : InC S, w' = q.w) := fun p => by
    have hb := (hS2 p.w).1 p.h
    exact (tmarg_any t hok hwt p.w (hT.later hb) (IsTa.later hb t ht) fun k hk W hb' => hS k hk W (ext_step hb hb')).mono fun e w' ⟨he, hb'⟩ => ⟨he, ⟨w', (hS2 _).2 (ext_step hb hb')⟩, rfl⟩
  have HQT : Hid (∀ p : InC S, Calls Tryz.prog 55 #[.string ⟨t.text.toArray⟩] p.w fun e w' => e = .returned (.string ⟨(quoteW t.text).toArray⟩) ∧ ∃ q : InC S, w' = q.w) := fun p => by
    have hb := (hS2 p.w).1 p.h
    exact (Quote_any t.text (by omega) p.w).mono fun e w' ⟨he, hb'⟩ => ⟨he, ⟨w', (hS2 _).2 (ext_step hb hb')⟩, rfl⟩
  have HQB : Hid (∀ p : InC S, Calls Tryz.prog 55 #[.string ⟨t.back.toArray⟩] p.w fun e w' => e = .returned (.string ⟨(quoteW t.back).toArray⟩) ∧ ∃ q : InC S, w' = q.w) := fun p => by
    have hb := (hS2 p.w).1 p.h
    exact (Quote_any t.back (by omega) p.w).mono fun e w' ⟨he, hb'⟩ => ⟨he, ⟨w', (hS2 _).2 (ext_step hb hb')⟩, rfl⟩
  have HAW := Lib.hid (tmarg_any t hok hwt w hT ht hS)
  have HQW := Lib.hid (Quote_any t.text (by omega) w)
  have HOF := Lib.hid (Of_text rv t.re w hT hn.2.1 hok1.2.1 hsz)
  have HWD := Lib.hid (fun W (h : WordsAt W) => Word_op (t.op : Int) W h)
  have HWO := Lib.hid hWo
  have HP := fun sign l hsl hl => tmpair_any t sign l hsl hl hok hwt w ht hS
  have HP0 := Lib.hid (HP [32, 124, 32] 0 (by simp) (.inl rfl))
  have HP1 := Lib.hid (HP [32, 46, 32] 1 (by simp) (.inr (.inl rfl)))
  have HP2 := Lib.hid (HP [32, 59, 32] 2 (by simp) (.inr (.inr rfl)))
  have HSS := Lib.hid hS
  have HKT := Lib.hid hkt
  have HOUT := Lib.hid (str_node t)
  have HKO := Lib.hid (TA.ok_kids hok)
  have HKW := Lib.hid hkw
  have HROW := Lib.hid hrow
  have hle := t.str_len
  have HKN := Lib.hid hok1.2.2
  have hsl := TA.strs_len t.kids
  have hkl : t.kids.length ≤ 1099511627776 := by
    have : ∀ l : List TA, l.length ≤ TA.wts l := by
      intro l
      induction l with
      | nil => simp
      | cons a l ih => have := a.wt_eq; simp [TA.wts]; omega
    have := this t.kids
    omega
  have hjl := RE.join_len_le (TA.strs t.kids) [44, 32]
  simp only [List.length_cons, List.length_nil] at hjl
  have hwk : TA.wts t.kids ≤ 1099511627776 := by omega
  clear ht hn hS hkt hrow hT hWo hS2 HP hkw hwe
  have ho := tm_dec t.op hok1.1
  have hok0 : True := trivial
  clear hok hok1 hsz hwt
  generalize t.str = out at *
  generalize t.b = b at *
  generalize t.name = nm at *
  generalize TA.arg t.re t.kids = ar at *
  generalize RE.ofO t.re = ofr at *
  generalize quoteW t.text = qt at *
  generalize quoteW t.back = qb at *
  generalize t.text = tx at *
  generalize t.back = bk at *
  generalize t.at_ = at' at *
  generalize t.wt = wt at *
  generalize t.kids = ks at *
  generalize t.op = o at *
  rcases ho with rfl | rfl | rfl | rfl | rfl | rfl | rfl | rfl | rfl | rfl | rfl | rfl | rfl | rfl | rfl | rfl | rfl | rfl
  · have HE : Hid (out = nm) := by show _ = _; rw [HOUT.out]; rfl
    go_enter Tryz.func16, Tryz.ntmps16
    go_wp2_with fail
    go_ret
    exact ⟨congrArg (fun s => Ending.returned (.string s)) (ByteArray.ext (by rw [HE.out])), Below.refl _ _⟩
  · have HE : Hid (out = [47] ++ ofr ++ [47]) := by show _ = _; rw [HOUT.out]; rfl
    go_enter Tryz.func16, Tryz.ntmps16
    go_wp2_with fail
    refine HOF.out.mono ?_
    rintro e w1 ⟨rfl, hb1⟩
    go_wp2_with fail
    go_ret
    exact ⟨congrArg (fun s => Ending.returned (.string s)) (ByteArray.ext (by rw [HE.out]; simp)), hb1⟩
  · have HE : Hid (out = TA.word 2 ++ [32] ++ ar) := by show _ = _; rw [HOUT.out]; rfl
    go_enter Tryz.func16, Tryz.ntmps16
    go_wp2_with fail
    refine (HWD.out _ HWO.out).mono ?_
    rintro e w' ⟨rfl, rfl⟩
    change (TA.word 2).length ≤ 8 at hwl
    rw [show wordT ((2 : Nat) : Int) = TA.word 2 from rfl]
    generalize TA.word 2 = wd at *
    go_wp2_with fail
    refine HAW.out.mono ?_
    rintro e w1 ⟨rfl, hb1⟩
    go_wp2_with fail
    go_ret
    exact ⟨congrArg (fun s => Ending.returned (.string s)) (ByteArray.ext (by rw [HE.out]; simp)), hb1⟩
  · have HE : Hid (out = TA.word 16 ++ [32] ++ ar) := by show _ = _; rw [HOUT.out]; rfl
    go_enter Tryz.func16, Tryz.ntmps16
    go_wp2_with fail
    refine (HWD.out _ HWO.out).mono ?_
    rintro e w' ⟨rfl, rfl⟩
    change (TA.word 16).length ≤ 8 at hwl
    rw [show wordT ((16 : Nat) : Int) = TA.word 16 from rfl]
    generalize TA.word 16 = wd at *
    go_wp2_with fail
    refine HAW.out.mono ?_
    rintro e w1 ⟨rfl, hb1⟩
    go_wp2_with fail
    go_ret
    exact ⟨congrArg (fun s => Ending.returned (.string s)) (ByteArray.ext (by rw [HE.out]; simp)), hb1⟩
  · have HE : Hid (out = [107, 101, 121, 32] ++ nm ++ [32] ++ ar) := by show _ = _; rw [HOUT.out]; rfl
    have cs : ∀ p : InC S, p.w.cell? ⟨b, 2, none⟩ = some (.string ⟨nm.toArray⟩) := fun p => by
      have hb := (HS.out p.w).1 p.h
      exact (hb.cell (p := ⟨b, 2, none⟩) (World.block_lt_of_cell? w _ c2)).trans c2
    have hS0 : S w.drew := (HS.out _).2 (Below.refl _ _).drew
    have hne : Nonempty (InC S) := ⟨⟨_, hS0⟩⟩
    clear c1 c2 c3 c4 c5 c6
    go_enter Tryz.func16, Tryz.ntmps16
    go_wp2_with fail
    clear c0
    refine wp_region_class S (by kernel_rfl) (by kernel_rfl) hS0 ?_
    repeat (go_big_quiet_step (first | (with_reducible exact HA.out _)))
    refine wpQuiet_nil ?_
    intro p
    have hb := (HS.out p.w).1 p.h
    go_wp2
    go_ret
    exact ⟨congrArg (fun s => Ending.returned (.string s)) (ByteArray.ext (by rw [HE.out]; simp)), hb⟩
  · have HE : Hid (out = [99, 111, 110, 115, 116, 32] ++ ar ++ [32] ++ qt ++ [32] ++ qb) := by show _ = _; rw [HOUT.out]; rfl
    have cs : ∀ p : InC S, p.w.cell? ⟨b, 4, none⟩ = some (.string ⟨tx.toArray⟩) ∧ p.w.cell? ⟨b, 5, none⟩ = some (.string ⟨bk.toArray⟩) := fun p => by
      have hb := (HS.out p.w).1 p.h
      exact ⟨(hb.cell (p := ⟨b, 4, none⟩) (World.block_lt_of_cell? w _ c4)).trans c4, (hb.cell (p := ⟨b, 5, none⟩) (World.block_lt_of_cell? w _ c5)).trans c5⟩
    have hS0 : S w.drew := (HS.out _).2 (Below.refl _ _).drew
    have hne : Nonempty (InC S) := ⟨⟨_, hS0⟩⟩
    clear c1 c2 c3 c4 c5 c6
    go_enter Tryz.func16, Tryz.ntmps16
    go_wp2_with fail
    clear c0
    refine wp_region_class S (by kernel_rfl) (by kernel_rfl) hS0 ?_
    repeat (go_big_quiet_step (first | (with_reducible exact HA.out _) | (with_reducible exact HQT.out _) | (with_reducible exact HQB.out _)))
    refine wpQuiet_nil ?_
    intro p
    have hb := (HS.out p.w).1 p.h
    go_wp2
    go_ret
    exact ⟨congrArg (fun s => Ending.returned (.string s)) (ByteArray.ext (by rw [HE.out]; simp)), hb⟩
  · have HE : Hid (out = [100, 101, 108, 32] ++ ar ++ [32] ++ qb) := by show _ = _; rw [HOUT.out]; rfl
    have cs : ∀ p : InC S, p.w.cell? ⟨b, 5, none⟩ = some (.string ⟨bk.toArray⟩) := fun p => by
      have hb := (HS.out p.w).1 p.h
      exact (hb.cell (p := ⟨b, 5, none⟩) (World.block_lt_of_cell? w _ c5)).trans c5
    have hS0 : S w.drew := (HS.out _).2 (Below.refl _ _).drew
    have hne : Nonempty (InC S) := ⟨⟨_, hS0⟩⟩
    clear c1 c2 c3 c4 c5 c6
    go_enter Tryz.func16, Tryz.ntmps16
    go_wp2_with fail
    clear c0
    refine wp_region_class S (by kernel_rfl) (by kernel_rfl) hS0 ?_
    repeat (go_big_quiet_step (first | (with_reducible exact HA.out _) | (with_reducible exact HQB.out _)))
    refine wpQuiet_nil ?_
    intro p
    have hb := (HS.out p.w).1 p.h
    go_wp2
    go_ret
    exact ⟨congrArg (fun s => Ending.returned (.string s)) (ByteArray.ext (by rw [HE.out]; simp)), hb⟩
  · have HE : Hid (out = [110, 111, 114, 109, 32] ++ ar ++ [32] ++ qt) := by show _ = _; rw [HOUT.out]; rfl
    have cs : ∀ p : InC S, p.w.cell? ⟨b, 4, none⟩ = some (.string ⟨tx.toArray⟩) := fun p => by
      have hb := (HS.out p.w).1 p.h
      exact (hb.cell (p := ⟨b, 4, none⟩) (World.block_lt_of_cell? w _ c4)).trans c4
    have hS0 : S w.drew := (HS.out _).2 (Below.refl _ _).drew
    have hne : Nonempty (InC S) := ⟨⟨_, hS0⟩⟩
    clear c1 c2 c3 c4 c5 c6
    go_enter Tryz.func16, Tryz.ntmps16
    go_wp2_with fail
    clear c0
    refine wp_region_class S (by kernel_rfl) (by kernel_rfl) hS0 ?_
    repeat (go_big_quiet_step (first | (with_reducible exact HA.out _) | (with_reducible exact HQT.out _)))
    refine wpQuiet_nil ?_
    intro p
    have hb := (HS.out p.w).1 p.h
    go_wp2
    go_ret
    exact ⟨congrArg (fun s => Ending.returned (.string s)) (ByteArray.ext (by rw [HE.out]; simp)), hb⟩
  · have HE : Hid (out = [105, 110, 115, 32] ++ qt) := by show _ = _; rw [HOUT.out]; rfl
    go_enter Tryz.func16, Tryz.ntmps16
    go_wp2_with fail
    refine HQW.out.mono ?_
    rintro e w1 ⟨rfl, hb1⟩
    go_wp2_with fail
    go_ret
    exact ⟨congrArg (fun s => Ending.returned (.string s)) (ByteArray.ext (by rw [HE.out]; simp)), hb1⟩
  · have HE : Hid (out = TA.pair [32, 124, 32] 0 ks) := by show _ = _; rw [HOUT.out]; rfl
    go_enter Tryz.func16, Tryz.ntmps16
    go_wp2_with fail
    refine HP0.out.mono ?_
    rintro e w1 ⟨rfl, hb1⟩
    go_wp2_with fail
    go_ret
    exact ⟨congrArg (fun s => Ending.returned (.string s)) (ByteArray.ext (by rw [HE.out])), hb1⟩
  · have HE : Hid (out = TA.pair [32, 46, 32] 1 ks) := by show _ = _; rw [HOUT.out]; rfl
    go_enter Tryz.func16, Tryz.ntmps16
    go_wp2_with fail
    refine HP1.out.mono ?_
    rintro e w1 ⟨rfl, hb1⟩
    go_wp2_with fail
    go_ret
    exact ⟨congrArg (fun s => Ending.returned (.string s)) (ByteArray.ext (by rw [HE.out])), hb1⟩
  · have HE : Hid (out = TA.pair [32, 59, 32] 2 ks) := by show _ = _; rw [HOUT.out]; rfl
    go_enter Tryz.func16, Tryz.ntmps16
    go_wp2_with fail
    refine HP2.out.mono ?_
    rintro e w1 ⟨rfl, hb1⟩
    go_wp2_with fail
    go_ret
    exact ⟨congrArg (fun s => Ending.returned (.string s)) (ByteArray.ext (by rw [HE.out])), hb1⟩
  · -- star
    by_cases h1 : ks.length = 1
    · obtain ⟨k, rfl⟩ : ∃ k, ks = [k] := List.length_eq_one_iff.1 h1
      obtain ⟨kb, ko, rfl, hc⟩ := HROW.out.at (by simp)
      have hp : w.cell? ⟨kb, ko, none⟩ = some (.pointer (some ⟨k.b, 0, none⟩)) := by have := hc 0 (by simp); simpa using this
      have hkw2 : k.wt ≤ 1099511627776 := by simp only [TA.wts] at hwk; omega
      have HI := Lib.hid (tmin_any k 3 (by omega) (HKO.out k (by simp)) hkw2 w (HKT.out k (by simp)) fun W hb => HSS.out k (by simp) W hb)
      have HE : Hid (out = TA.inn 3 k ++ [42]) := by show _ = _; rw [HOUT.out]; rfl
      have hlx : (TA.inn 3 k).length ≤ k.wt := by have := k.str_len; unfold TA.inn; split <;> (try simp only [List.length_append, List.length_cons, List.length_nil]) <;> omega
      generalize TA.inn 3 k = l0 at *
      generalize k.b = b0 at *
      generalize k.wt = wk at *
      clear hc h1
      go_enter Tryz.func16, Tryz.ntmps16
      go_wp2_with fail
      refine HI.out.mono ?_
      rintro e w1 ⟨rfl, hb1⟩
      go_wp2_with fail
      go_ret
      exact ⟨congrArg (fun s => Ending.returned (.string s)) (ByteArray.ext (by rw [HE.out]; simp)), hb1⟩
    · have HE : Hid (out = [40, 41]) := by
        show _ = _
        rw [HOUT.out]
        match ks, h1 with
        | [], _ => rfl
        | _ :: _ :: _, _ => rfl
      have h1' : ((ks.length : Int) == 1) = false := by rw [beq_eq_false_iff_ne]; omega
      clear h1
      go_enter Tryz.func16, Tryz.ntmps16
      go_wp2_with fail
      go_ret
      exact ⟨by rw [HE.out]; rfl, Below.refl _ _⟩
  · have hne := HKN.out (by omega)
    have HNE := Lib.hid hne
    have HE : Hid (out = TA.word 10 ++ [40] ++ Lib.join (ks.map TA.str) [44, 32] ++ [41]) := by show _ = _; rw [HOUT.out, ← TA.strs_map]; rfl
    obtain ⟨kb, ko, rfl, hc⟩ := HROW.out.at hne
    have HC := Lib.hid hc
    obtain ⟨i0, hi, hz0, hz1, hz2⟩ := info_parts infoStr'
    have HI := Lib.hid hi; have HZ0 := Lib.hid hz0; have HZ1 := Lib.hid hz1; have HZ2 := Lib.hid hz2
    rw [TA.strs_map] at hjl hsl
    change (TA.word 10).length ≤ 8 at hwl
    have HWE : Hid (wordT ((10 : Nat) : Int) = TA.word 10) := rfl
    generalize TA.word 10 = wd at *
    clear hne hc hi hz0 hz1 hz2
    go_enter Tryz.func16, Tryz.ntmps16
    go_wp2_with fail
    go_loopw [3, 134] (fun v i wr => PartsAt w ks v i wr) (fun _ i _ => ks.length - (intOf i).toNat)
    case atStart => exact ⟨0, by omega, rfl, OwnS.nil w⟩
    case round =>
      obtain ⟨k, hk, rfl, hW⟩ := hrel
      by_cases hlt : k < ks.length
      · have hp := HC.out k hlt
        have hkbl := World.block_lt_of_cell? w _ hp
        rw [← hW.bel.cell (p := ⟨kb, ko + k, none⟩) hkbl] at hp
        have hmem : ks.getD k TA.none ∈ ks := by simp [List.getD, hlt]
        have HCL := Lib.hid (HSS.out _ hmem wr hW.bel)
        have HNX : Hid ((ks.take (k + 1)).map TA.str = (ks.take k).map TA.str ++ [(ks.getD k TA.none).str]) := by
          show _ = _
          rw [tm_snoc ks k hlt, List.map_append]; rfl
        have hpl : ((ks.take k).map TA.str).length ≤ 1099511627776 := by simp; omega
        generalize (ks.take k).map TA.str = ps at *
        generalize (ks.getD k TA.none).str = tt at *
        generalize (ks.getD k TA.none).b = b1 at *
        have HW := Lib.hid hW
        clear hW hmem
        go_wp2_with fail
        refine HCL.out.mono ?_
        rintro e w1 ⟨rfl, hb1⟩
        have hW1 := HW.out.later hb1
        go_wp2_with (at_builtin; refine wpList_append_lies _ rfl _ _ _ rfl w.heap.size 9 i0 _ 1 16 Tryz.underlying65 HI.out HZ0.out HZ1.out HZ2.out rfl (by omega) u3 ps.length (ps.map strV) rfl (hW1.own.alloc _) ⟨w1.heap.size, 0, none⟩ 1 1 [strV tt] rfl rfl (World.news_of_block (cs := #[strV tt]) (t := 9) (fr := (0, 0)) (heap_alloc_last w1 _)) (strV_one [tt]) (by omega) (by unfold maxLen; omega) (by omega) (by have := hW1.bel.size; simp; omega) (w1.heap.size + 1) (by simp) ?_; intro g5 cp5 W9 hown9 hg9 hat9 hlt9)
        have hW9 := (hW1.later (re_alloc w1 _)).appended hown9 hg9
        rw [← HNX.out] at hW9
        have HW9 := Lib.hid hW9
        clear hW9 hown9 hg9 hat9 hW1
        go_wp2
        go_roundw
        case rel => exact ⟨k + 1, by omega, by go_num, HW9.out⟩
        case measure => simp [intOf]; omega
      · obtain rfl : k = ks.length := by omega
        rw [List.take_length] at hW
        have HJ := Lib.hid (hW.join (by simpa using HNE.out) [44, 32] (by simp; omega) (by omega))
        have HB := Lib.hid hW.bel
        have c0' : wr.cell? ⟨b, 0, none⟩ = some (.int .i64 (10 : Nat)) := (hW.bel.cell (p := ⟨b, 0, none⟩) (World.block_lt_of_cell? w _ c0)).trans c0
        have HWW := Lib.hid (HWD.out wr (HWO.out.later hW.bel))
        clear hW
        generalize Lib.join (ks.map TA.str) [44, 32] = jo at *
        go_wp2_with fail
        refine HWW.out.mono ?_
        rintro e w' ⟨rfl, rfl⟩
        rw [HWE.out]
        go_wp2_with fail
        refine HJ.out.mono ?_
        rintro e w1 ⟨rfl, hb1⟩
        go_wp2_with fail
        go_ret
        exact ⟨congrArg (fun s => Ending.returned (.string s)) (ByteArray.ext (by rw [HE.out]; simp)), ext_step HB.out hb1⟩
  · have hne := HKN.out (by omega)
    have HNE := Lib.hid hne
    have HE : Hid (out = TA.word 12 ++ [40] ++ Lib.join (ks.map TA.str) [44, 32] ++ [41]) := by show _ = _; rw [HOUT.out, ← TA.strs_map]; rfl
    obtain ⟨kb, ko, rfl, hc⟩ := HROW.out.at hne
    have HC := Lib.hid hc
    obtain ⟨i0, hi, hz0, hz1, hz2⟩ := info_parts infoStr'
    have HI := Lib.hid hi; have HZ0 := Lib.hid hz0; have HZ1 := Lib.hid hz1; have HZ2 := Lib.hid hz2
    rw [TA.strs_map] at hjl hsl
    change (TA.word 12).length ≤ 8 at hwl
    have HWE : Hid (wordT ((12 : Nat) : Int) = TA.word 12) := rfl
    generalize TA.word 12 = wd at *
    clear hne hc hi hz0 hz1 hz2
    go_enter Tryz.func16, Tryz.ntmps16
    go_wp2_with fail
    go_loopw [3, 134] (fun v i wr => PartsAt w ks v i wr) (fun _ i _ => ks.length - (intOf i).toNat)
    case atStart => exact ⟨0, by omega, rfl, OwnS.nil w⟩
    case round =>
      obtain ⟨k, hk, rfl, hW⟩ := hrel
      by_cases hlt : k < ks.length
      · have hp := HC.out k hlt
        have hkbl := World.block_lt_of_cell? w _ hp
        rw [← hW.bel.cell (p := ⟨kb, ko + k, none⟩) hkbl] at hp
        have hmem : ks.getD k TA.none ∈ ks := by simp [List.getD, hlt]
        have HCL := Lib.hid (HSS.out _ hmem wr hW.bel)
        have HNX : Hid ((ks.take (k + 1)).map TA.str = (ks.take k).map TA.str ++ [(ks.getD k TA.none).str]) := by
          show _ = _
          rw [tm_snoc ks k hlt, List.map_append]; rfl
        have hpl : ((ks.take k).map TA.str).length ≤ 1099511627776 := by simp; omega
        generalize (ks.take k).map TA.str = ps at *
        generalize (ks.getD k TA.none).str = tt at *
        generalize (ks.getD k TA.none).b = b1 at *
        have HW := Lib.hid hW
        clear hW hmem
        go_wp2_with fail
        refine HCL.out.mono ?_
        rintro e w1 ⟨rfl, hb1⟩
        have hW1 := HW.out.later hb1
        go_wp2_with (at_builtin; refine wpList_append_lies _ rfl _ _ _ rfl w.heap.size 9 i0 _ 1 16 Tryz.underlying65 HI.out HZ0.out HZ1.out HZ2.out rfl (by omega) u3 ps.length (ps.map strV) rfl (hW1.own.alloc _) ⟨w1.heap.size, 0, none⟩ 1 1 [strV tt] rfl rfl (World.news_of_block (cs := #[strV tt]) (t := 9) (fr := (0, 0)) (heap_alloc_last w1 _)) (strV_one [tt]) (by omega) (by unfold maxLen; omega) (by omega) (by have := hW1.bel.size; simp; omega) (w1.heap.size + 1) (by simp) ?_; intro g5 cp5 W9 hown9 hg9 hat9 hlt9)
        have hW9 := (hW1.later (re_alloc w1 _)).appended hown9 hg9
        rw [← HNX.out] at hW9
        have HW9 := Lib.hid hW9
        clear hW9 hown9 hg9 hat9 hW1
        go_wp2
        go_roundw
        case rel => exact ⟨k + 1, by omega, by go_num, HW9.out⟩
        case measure => simp [intOf]; omega
      · obtain rfl : k = ks.length := by omega
        rw [List.take_length] at hW
        have HJ := Lib.hid (hW.join (by simpa using HNE.out) [44, 32] (by simp; omega) (by omega))
        have HB := Lib.hid hW.bel
        have c0' : wr.cell? ⟨b, 0, none⟩ = some (.int .i64 (12 : Nat)) := (hW.bel.cell (p := ⟨b, 0, none⟩) (World.block_lt_of_cell? w _ c0)).trans c0
        have HWW := Lib.hid (HWD.out wr (HWO.out.later hW.bel))
        clear hW
        generalize Lib.join (ks.map TA.str) [44, 32] = jo at *
        go_wp2_with fail
        refine HWW.out.mono ?_
        rintro e w' ⟨rfl, rfl⟩
        rw [HWE.out]
        go_wp2_with fail
        refine HJ.out.mono ?_
        rintro e w1 ⟨rfl, hb1⟩
        go_wp2_with fail
        go_ret
        exact ⟨congrArg (fun s => Ending.returned (.string s)) (ByteArray.ext (by rw [HE.out]; simp)), ext_step HB.out hb1⟩
  · have hne := HKN.out (by omega)
    have HNE := Lib.hid hne
    have HE : Hid (out = TA.word 13 ++ [40] ++ Lib.join (ks.map TA.str) [44, 32] ++ [41]) := by show _ = _; rw [HOUT.out, ← TA.strs_map]; rfl
    obtain ⟨kb, ko, rfl, hc⟩ := HROW.out.at hne
    have HC := Lib.hid hc
    obtain ⟨i0, hi, hz0, hz1, hz2⟩ := info_parts infoStr'
    have HI := Lib.hid hi; have HZ0 := Lib.hid hz0; have HZ1 := Lib.hid hz1; have HZ2 := Lib.hid hz2
    rw [TA.strs_map] at hjl hsl
    change (TA.word 13).length ≤ 8 at hwl
    have HWE : Hid (wordT ((13 : Nat) : Int) = TA.word 13) := rfl
    generalize TA.word 13 = wd at *
    clear hne hc hi hz0 hz1 hz2
    go_enter Tryz.func16, Tryz.ntmps16
    go_wp2_with fail
    go_loopw [3, 134] (fun v i wr => PartsAt w ks v i wr) (fun _ i _ => ks.length - (intOf i).toNat)
    case atStart => exact ⟨0, by omega, rfl, OwnS.nil w⟩
    case round =>
      obtain ⟨k, hk, rfl, hW⟩ := hrel
      by_cases hlt : k < ks.length
      · have hp := HC.out k hlt
        have hkbl := World.block_lt_of_cell? w _ hp
        rw [← hW.bel.cell (p := ⟨kb, ko + k, none⟩) hkbl] at hp
        have hmem : ks.getD k TA.none ∈ ks := by simp [List.getD, hlt]
        have HCL := Lib.hid (HSS.out _ hmem wr hW.bel)
        have HNX : Hid ((ks.take (k + 1)).map TA.str = (ks.take k).map TA.str ++ [(ks.getD k TA.none).str]) := by
          show _ = _
          rw [tm_snoc ks k hlt, List.map_append]; rfl
        have hpl : ((ks.take k).map TA.str).length ≤ 1099511627776 := by simp; omega
        generalize (ks.take k).map TA.str = ps at *
        generalize (ks.getD k TA.none).str = tt at *
        generalize (ks.getD k TA.none).b = b1 at *
        have HW := Lib.hid hW
        clear hW hmem
        go_wp2_with fail
        refine HCL.out.mono ?_
        rintro e w1 ⟨rfl, hb1⟩
        have hW1 := HW.out.later hb1
        go_wp2_with (at_builtin; refine wpList_append_lies _ rfl _ _ _ rfl w.heap.size 9 i0 _ 1 16 Tryz.underlying65 HI.out HZ0.out HZ1.out HZ2.out rfl (by omega) u3 ps.length (ps.map strV) rfl (hW1.own.alloc _) ⟨w1.heap.size, 0, none⟩ 1 1 [strV tt] rfl rfl (World.news_of_block (cs := #[strV tt]) (t := 9) (fr := (0, 0)) (heap_alloc_last w1 _)) (strV_one [tt]) (by omega) (by unfold maxLen; omega) (by omega) (by have := hW1.bel.size; simp; omega) (w1.heap.size + 1) (by simp) ?_; intro g5 cp5 W9 hown9 hg9 hat9 hlt9)
        have hW9 := (hW1.later (re_alloc w1 _)).appended hown9 hg9
        rw [← HNX.out] at hW9
        have HW9 := Lib.hid hW9
        clear hW9 hown9 hg9 hat9 hW1
        go_wp2
        go_roundw
        case rel => exact ⟨k + 1, by omega, by go_num, HW9.out⟩
        case measure => simp [intOf]; omega
      · obtain rfl : k = ks.length := by omega
        rw [List.take_length] at hW
        have HJ := Lib.hid (hW.join (by simpa using HNE.out) [44, 32] (by simp; omega) (by omega))
        have HB := Lib.hid hW.bel
        have c0' : wr.cell? ⟨b, 0, none⟩ = some (.int .i64 (13 : Nat)) := (hW.bel.cell (p := ⟨b, 0, none⟩) (World.block_lt_of_cell? w _ c0)).trans c0
        have HWW := Lib.hid (HWD.out wr (HWO.out.later hW.bel))
        clear hW
        generalize Lib.join (ks.map TA.str) [44, 32] = jo at *
        go_wp2_with fail
        refine HWW.out.mono ?_
        rintro e w' ⟨rfl, rfl⟩
        rw [HWE.out]
        go_wp2_with fail
        refine HJ.out.mono ?_
        rintro e w1 ⟨rfl, hb1⟩
        go_wp2_with fail
        go_ret
        exact ⟨congrArg (fun s => Ending.returned (.string s)) (ByteArray.ext (by rw [HE.out]; simp)), ext_step HB.out hb1⟩
  · have hne := HKN.out (by omega)
    have HNE := Lib.hid hne
    have HE : Hid (out = TA.word 14 ++ [40] ++ Lib.join (ks.map TA.str) [44, 32] ++ [41]) := by show _ = _; rw [HOUT.out, ← TA.strs_map]; rfl
    obtain ⟨kb, ko, rfl, hc⟩ := HROW.out.at hne
    have HC := Lib.hid hc
    obtain ⟨i0, hi, hz0, hz1, hz2⟩ := info_parts infoStr'
    have HI := Lib.hid hi; have HZ0 := Lib.hid hz0; have HZ1 := Lib.hid hz1; have HZ2 := Lib.hid hz2
    rw [TA.strs_map] at hjl hsl
    change (TA.word 14).length ≤ 8 at hwl
    have HWE : Hid (wordT ((14 : Nat) : Int) = TA.word 14) := rfl
    generalize TA.word 14 = wd at *
    clear hne hc hi hz0 hz1 hz2
    go_enter Tryz.func16, Tryz.ntmps16
    go_wp2_with fail
    go_loopw [3, 134] (fun v i wr => PartsAt w ks v i wr) (fun _ i _ => ks.length - (intOf i).toNat)
    case atStart => exact ⟨0, by omega, rfl, OwnS.nil w⟩
    case round =>
      obtain ⟨k, hk, rfl, hW⟩ := hrel
      by_cases hlt : k < ks.length
      · have hp := HC.out k hlt
        have hkbl := World.block_lt_of_cell? w _ hp
        rw [← hW.bel.cell (p := ⟨kb, ko + k, none⟩) hkbl] at hp
        have hmem : ks.getD k TA.none ∈ ks := by simp [List.getD, hlt]
        have HCL := Lib.hid (HSS.out _ hmem wr hW.bel)
        have HNX : Hid ((ks.take (k + 1)).map TA.str = (ks.take k).map TA.str ++ [(ks.getD k TA.none).str]) := by
          show _ = _
          rw [tm_snoc ks k hlt, List.map_append]; rfl
        have hpl : ((ks.take k).map TA.str).length ≤ 1099511627776 := by simp; omega
        generalize (ks.take k).map TA.str = ps at *
        generalize (ks.getD k TA.none).str = tt at *
        generalize (ks.getD k TA.none).b = b1 at *
        have HW := Lib.hid hW
        clear hW hmem
        go_wp2_with fail
        refine HCL.out.mono ?_
        rintro e w1 ⟨rfl, hb1⟩
        have hW1 := HW.out.later hb1
        go_wp2_with (at_builtin; refine wpList_append_lies _ rfl _ _ _ rfl w.heap.size 9 i0 _ 1 16 Tryz.underlying65 HI.out HZ0.out HZ1.out HZ2.out rfl (by omega) u3 ps.length (ps.map strV) rfl (hW1.own.alloc _) ⟨w1.heap.size, 0, none⟩ 1 1 [strV tt] rfl rfl (World.news_of_block (cs := #[strV tt]) (t := 9) (fr := (0, 0)) (heap_alloc_last w1 _)) (strV_one [tt]) (by omega) (by unfold maxLen; omega) (by omega) (by have := hW1.bel.size; simp; omega) (w1.heap.size + 1) (by simp) ?_; intro g5 cp5 W9 hown9 hg9 hat9 hlt9)
        have hW9 := (hW1.later (re_alloc w1 _)).appended hown9 hg9
        rw [← HNX.out] at hW9
        have HW9 := Lib.hid hW9
        clear hW9 hown9 hg9 hat9 hW1
        go_wp2
        go_roundw
        case rel => exact ⟨k + 1, by omega, by go_num, HW9.out⟩
        case measure => simp [intOf]; omega
      · obtain rfl : k = ks.length := by omega
        rw [List.take_length] at hW
        have HJ := Lib.hid (hW.join (by simpa using HNE.out) [44, 32] (by simp; omega) (by omega))
        have HB := Lib.hid hW.bel
        have c0' : wr.cell? ⟨b, 0, none⟩ = some (.int .i64 (14 : Nat)) := (hW.bel.cell (p := ⟨b, 0, none⟩) (World.block_lt_of_cell? w _ c0)).trans c0
        have HWW := Lib.hid (HWD.out wr (HWO.out.later hW.bel))
        clear hW
        generalize Lib.join (ks.map TA.str) [44, 32] = jo at *
        go_wp2_with fail
        refine HWW.out.mono ?_
        rintro e w' ⟨rfl, rfl⟩
        rw [HWE.out]
        go_wp2_with fail
        refine HJ.out.mono ?_
        rintro e w1 ⟨rfl, hb1⟩
        go_wp2_with fail
        go_ret
        exact ⟨congrArg (fun s => Ending.returned (.string s)) (ByteArray.ext (by rw [HE.out]; simp)), ext_step HB.out hb1⟩
  · have hne := HKN.out (by omega)
    have HNE := Lib.hid hne
    have HE : Hid (out = TA.word 15 ++ [40] ++ Lib.join (ks.map TA.str) [44, 32] ++ [41]) := by show _ = _; rw [HOUT.out, ← TA.strs_map]; rfl
    obtain ⟨kb, ko, rfl, hc⟩ := HROW.out.at hne
    have HC := Lib.hid hc
    obtain ⟨i0, hi, hz0, hz1, hz2⟩ := info_parts infoStr'
    have HI := Lib.hid hi; have HZ0 := Lib.hid hz0; have HZ1 := Lib.hid hz1; have HZ2 := Lib.hid hz2
    rw [TA.strs_map] at hjl hsl
    change (TA.word 15).length ≤ 8 at hwl
    have HWE : Hid (wordT ((15 : Nat) : Int) = TA.word 15) := rfl
    generalize TA.word 15 = wd at *
    clear hne hc hi hz0 hz1 hz2
    go_enter Tryz.func16, Tryz.ntmps16
    go_wp2_with fail
    go_loopw [3, 134] (fun v i wr => PartsAt w ks v i wr) (fun _ i _ => ks.length - (intOf i).toNat)
    case atStart => exact ⟨0, by omega, rfl, OwnS.nil w⟩
    case round =>
      obtain ⟨k, hk, rfl, hW⟩ := hrel
      by_cases hlt : k < ks.length
      · have hp := HC.out k hlt
        have hkbl := World.block_lt_of_cell? w _ hp
        rw [← hW.bel.cell (p := ⟨kb, ko + k, none⟩) hkbl] at hp
        have hmem : ks.getD k TA.none ∈ ks := by simp [List.getD, hlt]
        have HCL := Lib.hid (HSS.out _ hmem wr hW.bel)
        have HNX : Hid ((ks.take (k + 1)).map TA.str = (ks.take k).map TA.str ++ [(ks.getD k TA.none).str]) := by
          show _ = _
          rw [tm_snoc ks k hlt, List.map_append]; rfl
        have hpl : ((ks.take k).map TA.str).length ≤ 1099511627776 := by simp; omega
        generalize (ks.take k).map TA.str = ps at *
        generalize (ks.getD k TA.none).str = tt at *
        generalize (ks.getD k TA.none).b = b1 at *
        have HW := Lib.hid hW
        clear hW hmem
        go_wp2_with fail
        refine HCL.out.mono ?_
        rintro e w1 ⟨rfl, hb1⟩
        have hW1 := HW.out.later hb1
        go_wp2_with (at_builtin; refine wpList_append_lies _ rfl _ _ _ rfl w.heap.size 9 i0 _ 1 16 Tryz.underlying65 HI.out HZ0.out HZ1.out HZ2.out rfl (by omega) u3 ps.length (ps.map strV) rfl (hW1.own.alloc _) ⟨w1.heap.size, 0, none⟩ 1 1 [strV tt] rfl rfl (World.news_of_block (cs := #[strV tt]) (t := 9) (fr := (0, 0)) (heap_alloc_last w1 _)) (strV_one [tt]) (by omega) (by unfold maxLen; omega) (by omega) (by have := hW1.bel.size; simp; omega) (w1.heap.size + 1) (by simp) ?_; intro g5 cp5 W9 hown9 hg9 hat9 hlt9)
        have hW9 := (hW1.later (re_alloc w1 _)).appended hown9 hg9
        rw [← HNX.out] at hW9
        have HW9 := Lib.hid hW9
        clear hW9 hown9 hg9 hat9 hW1
        go_wp2
        go_roundw
        case rel => exact ⟨k + 1, by omega, by go_num, HW9.out⟩
        case measure => simp [intOf]; omega
      · obtain rfl : k = ks.length := by omega
        rw [List.take_length] at hW
        have HJ := Lib.hid (hW.join (by simpa using HNE.out) [44, 32] (by simp; omega) (by omega))
        have HB := Lib.hid hW.bel
        have c0' : wr.cell? ⟨b, 0, none⟩ = some (.int .i64 (15 : Nat)) := (hW.bel.cell (p := ⟨b, 0, none⟩) (World.block_lt_of_cell? w _ c0)).trans c0
        have HWW := Lib.hid (HWD.out wr (HWO.out.later hW.bel))
        clear hW
        generalize Lib.join (ks.map TA.str) [44, 32] = jo at *
        go_wp2_with fail
        refine HWW.out.mono ?_
        rintro e w' ⟨rfl, rfl⟩
        rw [HWE.out]
        go_wp2_with fail
        refine HJ.out.mono ?_
        rintro e w1 ⟨rfl, hb1⟩
        go_wp2_with fail
        go_ret
        exact ⟨congrArg (fun s => Ending.returned (.string s)) (ByteArray.ext (by rw [HE.out]; simp)), ext_step HB.out hb1⟩
end Go.Proofs.YtpajpjocakhcdaaGreatDoor
