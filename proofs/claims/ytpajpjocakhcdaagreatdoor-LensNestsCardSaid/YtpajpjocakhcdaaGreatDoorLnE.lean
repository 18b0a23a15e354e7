/-
  Terms as the statement writes them, walked through the program: as the program writes them.
-/
import Derived.Test.YtpajpjocakhcdaaGreatDoorLnD
set_option linter.unusedSimpArgs false
set_option linter.unusedVariables false
set_option maxRecDepth 100000
set_option linter.unnecessarySimpa false
namespace Go.Proofs.YtpajpjocakhcdaaGreatDoor
open Go.RowKit
set_option maxRecDepth 100000 in
set_option maxHeartbeats 8000000 in
theorem lwWrite_step (t : TA) (hm : t.made) (hok : t.ok) (hwt : t.wt ≤ 1099511627776) (w : World) (hT : Tab w) (ht : IsTa w t) (hS : ∀ k ∈ t.kids, ∀ W, Below w.heap.size w W → Calls Tryz.prog 17 #[ptr k.b] W (StrPost k.str W)) :
    Calls Tryz.prog 17 #[ptr t.b] w (StrPost t.str w) := by
  obtain ⟨⟨rv, kp, cap, hn⟩, hkt⟩ := ht.open
  obtain ⟨c0, c1, c2, c3, c4, c5, c6⟩ := hn.cells
  have hrow := hn.2.2
  have hwe := t.wt_eq
  have hok1 := TA.ok_top hok
  have hmt := TA.made_top hm
  unfold TA.madeTop at hmt
  obtain ⟨hm2, hm18, hmz, hmp, hms⟩ := hmt
  have hnl : t.name.length ≤ 1099511627776 := by omega
  have hrl : (RE.ofO t.re).length ≤ 3000000000000 := by
    cases hre : t.re with
    | none => simp [RE.ofO]
    | some x => rw [hre] at hwe; have := RE.ofW_len x; simp only [RE.ofO, RE.sizeO] at hwe ⊢; omega
  have htl : t.text.length ≤ 1099511627776 := by omega
  have hkl : t.back.length ≤ 1099511627776 := by omega
  have hql : (quoteW t.text).length ≤ 5000000000000 := by have := bytesW_len t.text; simp [quoteW]; omega
  have hbl : (quoteW t.back).length ≤ 5000000000000 := by have := bytesW_len t.back; simp [quoteW]; omega
  have hsz : RE.sizeO t.re ≤ 1073741824 := by omega
  have HOF := Lib.hid (Of_text rv t.re w hT hn.2.1 hok1.2.1 hsz)
  have HOUT := Lib.hid (str_node t)
  have HSS := Lib.hid hS
  have HKT := Lib.hid hkt
  have HKO := Lib.hid (TA.ok_kids hok)
  have HROW := Lib.hid hrow
  have hwk : TA.wts t.kids ≤ 1099511627776 := by omega
  have hle := t.str_len
  clear ht hn hS hkt hrow hT hwe hm hok
  have ho := tm_dec t.op hok1.1
  clear hok1 hsz hwt
  generalize t.str = out at *
  generalize t.b = b at *
  generalize t.name = nm at *
  generalize ht0 : t.re = re0 at *
  generalize t.text = tx at *
  generalize t.back = bk at *
  generalize t.at_ = at' at *
  generalize t.wt = wt at *
  generalize t.kids = ks at *
  generalize t.op = o at *
  clear ht0
  rcases ho with rfl | rfl | rfl | rfl | rfl | rfl | rfl | rfl | rfl | rfl | rfl | rfl | rfl | rfl | rfl | rfl | rfl | rfl
  · omega
  · omega
  · have hks := hmz (by omega)
    subst hks
    have HE : Hid (out = [99, 111, 112, 121, 32] ++ ([47] ++ RE.ofO re0 ++ [47])) := by
      show _ = _
      rw [HOUT.out]; rfl
    clear hmz hmp hms HROW HSS HKT HKO
    generalize RE.ofO re0 = ofr at *
    go_enter Tryz.func17, Tryz.ntmps17
    go_wp2_with fail
    refine HOF.out.mono ?_
    rintro e w1 ⟨rfl, hb1⟩
    have hp : ∀ j v, w.cell? ⟨b, j, none⟩ = some v → w1.cell? ⟨b, j, none⟩ = some v := fun j v h => (hb1.cell (p := ⟨b, j, none⟩) (World.block_lt_of_cell? w _ h)).trans h
    have d0 := hp 0 _ c0; have d2 := hp 2 _ c2; have d4 := hp 4 _ c4; have d5 := hp 5 _ c5; have d6 := hp 6 _ c6
    clear hp
    go_wp2_with fail
    go_ret
    exact ⟨congrArg (fun s => Ending.returned (.string s)) (ByteArray.ext (by rw [HE.out]; simp)), hb1⟩
  · have hks := hmz (by omega)
    subst hks
    have HE : Hid (out = [107, 101, 101, 112, 32] ++ ([47] ++ RE.ofO re0 ++ [47])) := by
      show _ = _
      rw [HOUT.out]; rfl
    clear hmz hmp hms HROW HSS HKT HKO
    generalize RE.ofO re0 = ofr at *
    go_enter Tryz.func17, Tryz.ntmps17
    go_wp2_with fail
    refine HOF.out.mono ?_
    rintro e w1 ⟨rfl, hb1⟩
    have hp : ∀ j v, w.cell? ⟨b, j, none⟩ = some v → w1.cell? ⟨b, j, none⟩ = some v := fun j v h => (hb1.cell (p := ⟨b, j, none⟩) (World.block_lt_of_cell? w _ h)).trans h
    have d0 := hp 0 _ c0; have d2 := hp 2 _ c2; have d4 := hp 4 _ c4; have d5 := hp 5 _ c5; have d6 := hp 6 _ c6
    clear hp
    go_wp2_with fail
    go_ret
    exact ⟨congrArg (fun s => Ending.returned (.string s)) (ByteArray.ext (by rw [HE.out]; simp)), hb1⟩
  · have hks := hmz (by omega)
    subst hks
    have HE : Hid (out = [107, 101, 121, 32] ++ nm ++ [32] ++ ([47] ++ RE.ofO re0 ++ [47])) := by
      show _ = _
      rw [HOUT.out]; rfl
    clear hmz hmp hms HROW HSS HKT HKO
    generalize RE.ofO re0 = ofr at *
    go_enter Tryz.func17, Tryz.ntmps17
    go_wp2_with fail
    refine HOF.out.mono ?_
    rintro e w1 ⟨rfl, hb1⟩
    have hp : ∀ j v, w.cell? ⟨b, j, none⟩ = some v → w1.cell? ⟨b, j, none⟩ = some v := fun j v h => (hb1.cell (p := ⟨b, j, none⟩) (World.block_lt_of_cell? w _ h)).trans h
    have d0 := hp 0 _ c0; have d2 := hp 2 _ c2; have d4 := hp 4 _ c4; have d5 := hp 5 _ c5; have d6 := hp 6 _ c6
    clear hp
    go_wp2_with fail
    go_ret
    exact ⟨congrArg (fun s => Ending.returned (.string s)) (ByteArray.ext (by rw [HE.out]; simp)), hb1⟩
  · have hks := hmz (by omega)
    subst hks
    have HE : Hid (out = [99, 111, 110, 115, 116, 32] ++ ([47] ++ RE.ofO re0 ++ [47]) ++ [32] ++ quoteW tx ++ [32] ++ quoteW bk) := by
      show _ = _
      rw [HOUT.out]; rfl
    clear hmz hmp hms HROW HSS HKT HKO
    generalize RE.ofO re0 = ofr at *
    have HQT := Lib.hid (fun W => quote_any tx htl W)
    have HQB := Lib.hid (fun W => quote_any bk hkl W)
    generalize quoteW tx = qt at *
    generalize quoteW bk = qb at *
    go_enter Tryz.func17, Tryz.ntmps17
    go_wp2_with fail
    refine HOF.out.mono ?_
    rintro e w1 ⟨rfl, hb1⟩
    have hp : ∀ j v, w.cell? ⟨b, j, none⟩ = some v → w1.cell? ⟨b, j, none⟩ = some v := fun j v h => (hb1.cell (p := ⟨b, j, none⟩) (World.block_lt_of_cell? w _ h)).trans h
    have d0 := hp 0 _ c0; have d2 := hp 2 _ c2; have d4 := hp 4 _ c4; have d5 := hp 5 _ c5; have d6 := hp 6 _ c6
    clear hp
    obtain ⟨S, hS2⟩ : ∃ S : World → Prop, ∀ W', S W' ↔ Below w1.heap.size w1 W' := ⟨_, fun _ => Iff.rfl⟩
    have HS := Lib.hid hS2
    have cs : ∀ p : InC S, p.w.cell? ⟨b, 4, none⟩ = some (.string ⟨tx.toArray⟩) ∧ p.w.cell? ⟨b, 5, none⟩ = some (.string ⟨bk.toArray⟩) := fun p => by
      have hb := (hS2 p.w).1 p.h
      exact ⟨(hb.cell (p := ⟨b, 4, none⟩) (World.block_lt_of_cell? w1 _ d4)).trans d4, (hb.cell (p := ⟨b, 5, none⟩) (World.block_lt_of_cell? w1 _ d5)).trans d5⟩
    have hS0 : S w1.drew := (hS2 _).2 (Below.refl _ _).drew
    have hne : Nonempty (InC S) := ⟨⟨_, hS0⟩⟩
    have HC0 : Hid (∀ p : InC S, Calls Tryz.prog 59 #[.string ⟨tx.toArray⟩] p.w fun e w' => e = .returned (.string ⟨qt.toArray⟩) ∧ ∃ q : InC S, w' = q.w) := fun p => (HQT.out p.w).mono fun e w' ⟨he, hb⟩ => ⟨he, ⟨w', (hS2 _).2 (ext_step ((hS2 _).1 p.h) hb)⟩, rfl⟩
    have HC1 : Hid (∀ p : InC S, Calls Tryz.prog 59 #[.string ⟨bk.toArray⟩] p.w fun e w' => e = .returned (.string ⟨qb.toArray⟩) ∧ ∃ q : InC S, w' = q.w) := fun p => (HQB.out p.w).mono fun e w' ⟨he, hb⟩ => ⟨he, ⟨w', (hS2 _).2 (ext_step ((hS2 _).1 p.h) hb)⟩, rfl⟩
    clear hS2
    go_wp2_with fail
    clear d0 d2 d4 d5 d6 c0 c1 c2 c3 c4 c5 c6
    refine wp_region_class S (by kernel_rfl) (by kernel_rfl) hS0 ?_
    repeat (go_big_quiet_step (first | (with_reducible exact HC0.out _) | (with_reducible exact HC1.out _)))
    refine wpQuiet_nil ?_
    intro p
    have hb := ext_step hb1 ((HS.out p.w).1 p.h)
    go_wp2
    go_ret
    exact ⟨congrArg (fun s => Ending.returned (.string s)) (ByteArray.ext (by rw [HE.out]; simp)), hb⟩
  · have hks := hmz (by omega)
    subst hks
    have HE : Hid (out = [100, 101, 108, 32] ++ ([47] ++ RE.ofO re0 ++ [47]) ++ [32] ++ quoteW bk) := by
      show _ = _
      rw [HOUT.out]; rfl
    clear hmz hmp hms HROW HSS HKT HKO
    generalize RE.ofO re0 = ofr at *
    go_enter Tryz.func17, Tryz.ntmps17
    go_wp2_with fail
    refine HOF.out.mono ?_
    rintro e w1 ⟨rfl, hb1⟩
    have hp : ∀ j v, w.cell? ⟨b, j, none⟩ = some v → w1.cell? ⟨b, j, none⟩ = some v := fun j v h => (hb1.cell (p := ⟨b, j, none⟩) (World.block_lt_of_cell? w _ h)).trans h
    have d0 := hp 0 _ c0; have d2 := hp 2 _ c2; have d4 := hp 4 _ c4; have d5 := hp 5 _ c5; have d6 := hp 6 _ c6
    clear hp
    go_wp2_with fail
    refine (quote_any bk (by omega) _).mono ?_
    rintro e w2 ⟨rfl, hb2⟩
    have hB2 := ext_step hb1 hb2
    clear hb2
    generalize quoteW bk = qbk at *
    go_wp2_with fail
    go_ret
    exact ⟨congrArg (fun s => Ending.returned (.string s)) (ByteArray.ext (by rw [HE.out]; simp)), hB2⟩
  · have hks := hmz (by omega)
    subst hks
    have HE : Hid (out = [110, 111, 114, 109, 32] ++ ([47] ++ RE.ofO re0 ++ [47]) ++ [32] ++ quoteW tx) := by
      show _ = _
      rw [HOUT.out]; rfl
    clear hmz hmp hms HROW HSS HKT HKO
    generalize RE.ofO re0 = ofr at *
    go_enter Tryz.func17, Tryz.ntmps17
    go_wp2_with fail
    refine HOF.out.mono ?_
    rintro e w1 ⟨rfl, hb1⟩
    have hp : ∀ j v, w.cell? ⟨b, j, none⟩ = some v → w1.cell? ⟨b, j, none⟩ = some v := fun j v h => (hb1.cell (p := ⟨b, j, none⟩) (World.block_lt_of_cell? w _ h)).trans h
    have d0 := hp 0 _ c0; have d2 := hp 2 _ c2; have d4 := hp 4 _ c4; have d5 := hp 5 _ c5; have d6 := hp 6 _ c6
    clear hp
    go_wp2_with fail
    refine (quote_any tx (by omega) _).mono ?_
    rintro e w2 ⟨rfl, hb2⟩
    have hB2 := ext_step hb1 hb2
    clear hb2
    generalize quoteW tx = qtx at *
    go_wp2_with fail
    go_ret
    exact ⟨congrArg (fun s => Ending.returned (.string s)) (ByteArray.ext (by rw [HE.out]; simp)), hB2⟩
  · have HE : Hid (out = [105, 110, 115, 32] ++ quoteW tx) := by
      show _ = _
      rw [HOUT.out]; rfl
    clear hmz hmp hms HROW HSS HKT HKO
    generalize RE.ofO re0 = ofr at *
    go_enter Tryz.func17, Tryz.ntmps17
    go_wp2_with fail
    refine HOF.out.mono ?_
    rintro e w1 ⟨rfl, hb1⟩
    have hp : ∀ j v, w.cell? ⟨b, j, none⟩ = some v → w1.cell? ⟨b, j, none⟩ = some v := fun j v h => (hb1.cell (p := ⟨b, j, none⟩) (World.block_lt_of_cell? w _ h)).trans h
    have d0 := hp 0 _ c0; have d2 := hp 2 _ c2; have d4 := hp 4 _ c4; have d5 := hp 5 _ c5; have d6 := hp 6 _ c6
    clear hp
    go_wp2_with fail
    refine (quote_any tx (by omega) _).mono ?_
    rintro e w2 ⟨rfl, hb2⟩
    have hB2 := ext_step hb1 hb2
    clear hb2
    generalize quoteW tx = qtx at *
    go_wp2_with fail
    go_ret
    exact ⟨congrArg (fun s => Ending.returned (.string s)) (ByteArray.ext (by rw [HE.out]; simp)), hB2⟩
  · obtain ⟨x, y, rfl⟩ := hmp (by omega)
    have HE : Hid (out = TA.inn 0 x ++ [32, 124, 32] ++ TA.inn 1 y) := by
      show _ = _
      rw [HOUT.out]; simp [TA.pair, TA.inn, TA.strs, Lib.join, List.intercalate, TA.word, wordT, opWords]
    have hxy : x.wt + y.wt ≤ 1099511627776 := by simp only [TA.wts] at hwk; omega
    obtain ⟨kb, ko, rfl, hc⟩ := HROW.out.at (by simp)
    have hp0 : w.cell? ⟨kb, ko, none⟩ = some (.pointer (some ⟨x.b, 0, none⟩)) := by have := hc 0 (by simp); simpa using this
    have hp1 : w.cell? ⟨kb, ko + 1, none⟩ = some (.pointer (some ⟨y.b, 0, none⟩)) := hc 1 (by simp)
    have HI0 : Hid (∀ W, Below w.heap.size w W → Calls Tryz.prog 60 #[.pointer (some ⟨x.b, 0, none⟩), .int .i64 0] W (StrPost (TA.inn 0 x) W)) := fun W hb => lwwithin_any x 0 (by omega) (HKO.out x (by simp)) (by omega) W (IsTa.later hb x (HKT.out x (by simp))) fun W' hb' => HSS.out x (by simp) W' (ext_step hb hb')
    have HI1 : Hid (∀ W, Below w.heap.size w W → Calls Tryz.prog 60 #[.pointer (some ⟨y.b, 0, none⟩), .int .i64 1] W (StrPost (TA.inn 1 y) W)) := fun W hb => lwwithin_any y 1 (by omega) (HKO.out y (by simp)) (by omega) W (IsTa.later hb y (HKT.out y (by simp))) fun W' hb' => HSS.out y (by simp) W' (ext_step hb hb')
    have hlx : (TA.inn 0 x).length ≤ x.wt := by have := x.str_len; unfold TA.inn; split <;> (try simp only [List.length_append, List.length_cons, List.length_nil]) <;> omega
    have hly : (TA.inn 1 y).length ≤ y.wt := by have := y.str_len; unfold TA.inn; split <;> (try simp only [List.length_append, List.length_cons, List.length_nil]) <;> omega
    generalize TA.inn 0 x = l0 at *
    generalize TA.inn 1 y = l1 at *
    generalize x.b = b0 at *
    generalize y.b = b1 at *
    generalize x.wt = wx at *
    generalize y.wt = wy at *
    clear hmz hmp hms HROW HSS HKT HKO hc hwk
    generalize RE.ofO re0 = ofr at *
    go_enter Tryz.func17, Tryz.ntmps17
    go_wp2_with fail
    refine HOF.out.mono ?_
    rintro e w1 ⟨rfl, hb1⟩
    have hp : ∀ j v, w.cell? ⟨b, j, none⟩ = some v → w1.cell? ⟨b, j, none⟩ = some v := fun j v h => (hb1.cell (p := ⟨b, j, none⟩) (World.block_lt_of_cell? w _ h)).trans h
    have d0 := hp 0 _ c0; have d2 := hp 2 _ c2; have d4 := hp 4 _ c4; have d5 := hp 5 _ c5; have d6 := hp 6 _ c6
    clear hp
    have e0 : w1.cell? ⟨kb, ko, none⟩ = some (.pointer (some ⟨b0, 0, none⟩)) := (hb1.cell (p := ⟨kb, ko, none⟩) (World.block_lt_of_cell? w _ hp0)).trans hp0
    have e1 : w1.cell? ⟨kb, ko + 1, none⟩ = some (.pointer (some ⟨b1, 0, none⟩)) := (hb1.cell (p := ⟨kb, ko + 1, none⟩) (World.block_lt_of_cell? w _ hp1)).trans hp1
    obtain ⟨S, hS2⟩ : ∃ S : World → Prop, ∀ W', S W' ↔ Below w1.heap.size w1 W' := ⟨_, fun _ => Iff.rfl⟩
    have HS := Lib.hid hS2
    have cs : ∀ p : InC S, p.w.cell? ⟨b, 6, none⟩ = some (.slice (some ⟨kb, ko, none⟩) 2 cap) ∧ p.w.cell? ⟨kb, ko, none⟩ = some (.pointer (some ⟨b0, 0, none⟩)) ∧ p.w.cell? ⟨kb, ko + 1, none⟩ = some (.pointer (some ⟨b1, 0, none⟩)) := fun p => by
      have hb := (hS2 p.w).1 p.h
      exact ⟨(hb.cell (p := ⟨b, 6, none⟩) (World.block_lt_of_cell? w1 _ d6)).trans d6, (hb.cell (p := ⟨kb, ko, none⟩) (World.block_lt_of_cell? w1 _ e0)).trans e0, (hb.cell (p := ⟨kb, ko + 1, none⟩) (World.block_lt_of_cell? w1 _ e1)).trans e1⟩
    have hS0 : S w1.drew := (hS2 _).2 (Below.refl _ _).drew
    have hne : Nonempty (InC S) := ⟨⟨_, hS0⟩⟩
    have HC0 : Hid (∀ p : InC S, Calls Tryz.prog 60 #[.pointer (some ⟨b0, 0, none⟩), .int .i64 0] p.w fun e w' => e = .returned (.string ⟨l0.toArray⟩) ∧ ∃ q : InC S, w' = q.w) := fun p => (HI0.out p.w (ext_step hb1 ((hS2 _).1 p.h))).mono fun e w' ⟨he, hb⟩ => ⟨he, ⟨w', (hS2 _).2 (ext_step ((hS2 _).1 p.h) hb)⟩, rfl⟩
    have HC1 : Hid (∀ p : InC S, Calls Tryz.prog 60 #[.pointer (some ⟨b1, 0, none⟩), .int .i64 1] p.w fun e w' => e = .returned (.string ⟨l1.toArray⟩) ∧ ∃ q : InC S, w' = q.w) := fun p => (HI1.out p.w (ext_step hb1 ((hS2 _).1 p.h))).mono fun e w' ⟨he, hb⟩ => ⟨he, ⟨w', (hS2 _).2 (ext_step ((hS2 _).1 p.h) hb)⟩, rfl⟩
    clear hS2
    go_wp2_with fail
    clear d0 d2 d4 d5 d6 c0 c1 c2 c3 c4 c5 c6 e0 e1 hp0 hp1
    refine wp_region_class S (by kernel_rfl) (by kernel_rfl) hS0 ?_
    repeat (go_big_quiet_step (first | (with_reducible exact HC0.out _) | (with_reducible exact HC1.out _)))
    refine wpQuiet_nil ?_
    intro p
    have hb := ext_step hb1 ((HS.out p.w).1 p.h)
    go_wp2
    go_ret
    exact ⟨congrArg (fun s => Ending.returned (.string s)) (ByteArray.ext (by rw [HE.out]; simp)), hb⟩
  · obtain ⟨x, y, rfl⟩ := hmp (by omega)
    have HE : Hid (out = TA.inn 1 x ++ [32, 46, 32] ++ TA.inn 2 y) := by
      show _ = _
      rw [HOUT.out]; simp [TA.pair, TA.inn, TA.strs, Lib.join, List.intercalate, TA.word, wordT, opWords]
    have hxy : x.wt + y.wt ≤ 1099511627776 := by simp only [TA.wts] at hwk; omega
    obtain ⟨kb, ko, rfl, hc⟩ := HROW.out.at (by simp)
    have hp0 : w.cell? ⟨kb, ko, none⟩ = some (.pointer (some ⟨x.b, 0, none⟩)) := by have := hc 0 (by simp); simpa using this
    have hp1 : w.cell? ⟨kb, ko + 1, none⟩ = some (.pointer (some ⟨y.b, 0, none⟩)) := hc 1 (by simp)
    have HI0 : Hid (∀ W, Below w.heap.size w W → Calls Tryz.prog 60 #[.pointer (some ⟨x.b, 0, none⟩), .int .i64 1] W (StrPost (TA.inn 1 x) W)) := fun W hb => lwwithin_any x 1 (by omega) (HKO.out x (by simp)) (by omega) W (IsTa.later hb x (HKT.out x (by simp))) fun W' hb' => HSS.out x (by simp) W' (ext_step hb hb')
    have HI1 : Hid (∀ W, Below w.heap.size w W → Calls Tryz.prog 60 #[.pointer (some ⟨y.b, 0, none⟩), .int .i64 2] W (StrPost (TA.inn 2 y) W)) := fun W hb => lwwithin_any y 2 (by omega) (HKO.out y (by simp)) (by omega) W (IsTa.later hb y (HKT.out y (by simp))) fun W' hb' => HSS.out y (by simp) W' (ext_step hb hb')
    have hlx : (TA.inn 1 x).length ≤ x.wt := by have := x.str_len; unfold TA.inn; split <;> (try simp only [List.length_append, List.length_cons, List.length_nil]) <;> omega
    have hly : (TA.inn 2 y).length ≤ y.wt := by have := y.str_len; unfold TA.inn; split <;> (try simp only [List.length_append, List.length_cons, List.length_nil]) <;> omega
    generalize TA.inn 1 x = l0 at *
    generalize TA.inn 2 y = l1 at *
    generalize x.b = b0 at *
    generalize y.b = b1 at *
    generalize x.wt = wx at *
    generalize y.wt = wy at *
    clear hmz hmp hms HROW HSS HKT HKO hc hwk
    generalize RE.ofO re0 = ofr at *
    go_enter Tryz.func17, Tryz.ntmps17
    go_wp2_with fail
    refine HOF.out.mono ?_
    rintro e w1 ⟨rfl, hb1⟩
    have hp : ∀ j v, w.cell? ⟨b, j, none⟩ = some v → w1.cell? ⟨b, j, none⟩ = some v := fun j v h => (hb1.cell (p := ⟨b, j, none⟩) (World.block_lt_of_cell? w _ h)).trans h
    have d0 := hp 0 _ c0; have d2 := hp 2 _ c2; have d4 := hp 4 _ c4; have d5 := hp 5 _ c5; have d6 := hp 6 _ c6
    clear hp
    have e0 : w1.cell? ⟨kb, ko, none⟩ = some (.pointer (some ⟨b0, 0, none⟩)) := (hb1.cell (p := ⟨kb, ko, none⟩) (World.block_lt_of_cell? w _ hp0)).trans hp0
    have e1 : w1.cell? ⟨kb, ko + 1, none⟩ = some (.pointer (some ⟨b1, 0, none⟩)) := (hb1.cell (p := ⟨kb, ko + 1, none⟩) (World.block_lt_of_cell? w _ hp1)).trans hp1
    obtain ⟨S, hS2⟩ : ∃ S : World → Prop, ∀ W', S W' ↔ Below w1.heap.size w1 W' := ⟨_, fun _ => Iff.rfl⟩
    have HS := Lib.hid hS2
    have cs : ∀ p : InC S, p.w.cell? ⟨b, 6, none⟩ = some (.slice (some ⟨kb, ko, none⟩) 2 cap) ∧ p.w.cell? ⟨kb, ko, none⟩ = some (.pointer (some ⟨b0, 0, none⟩)) ∧ p.w.cell? ⟨kb, ko + 1, none⟩ = some (.pointer (some ⟨b1, 0, none⟩)) := fun p => by
      have hb := (hS2 p.w).1 p.h
      exact ⟨(hb.cell (p := ⟨b, 6, none⟩) (World.block_lt_of_cell? w1 _ d6)).trans d6, (hb.cell (p := ⟨kb, ko, none⟩) (World.block_lt_of_cell? w1 _ e0)).trans e0, (hb.cell (p := ⟨kb, ko + 1, none⟩) (World.block_lt_of_cell? w1 _ e1)).trans e1⟩
    have hS0 : S w1.drew := (hS2 _).2 (Below.refl _ _).drew
    have hne : Nonempty (InC S) := ⟨⟨_, hS0⟩⟩
    have HC0 : Hid (∀ p : InC S, Calls Tryz.prog 60 #[.pointer (some ⟨b0, 0, none⟩), .int .i64 1] p.w fun e w' => e = .returned (.string ⟨l0.toArray⟩) ∧ ∃ q : InC S, w' = q.w) := fun p => (HI0.out p.w (ext_step hb1 ((hS2 _).1 p.h))).mono fun e w' ⟨he, hb⟩ => ⟨he, ⟨w', (hS2 _).2 (ext_step ((hS2 _).1 p.h) hb)⟩, rfl⟩
    have HC1 : Hid (∀ p : InC S, Calls Tryz.prog 60 #[.pointer (some ⟨b1, 0, none⟩), .int .i64 2] p.w fun e w' => e = .returned (.string ⟨l1.toArray⟩) ∧ ∃ q : InC S, w' = q.w) := fun p => (HI1.out p.w (ext_step hb1 ((hS2 _).1 p.h))).mono fun e w' ⟨he, hb⟩ => ⟨he, ⟨w', (hS2 _).2 (ext_step ((hS2 _).1 p.h) hb)⟩, rfl⟩
    clear hS2
    go_wp2_with fail
    clear d0 d2 d4 d5 d6 c0 c1 c2 c3 c4 c5 c6 e0 e1 hp0 hp1
    refine wp_region_class S (by kernel_rfl) (by kernel_rfl) hS0 ?_
    repeat (go_big_quiet_step (first | (with_reducible exact HC0.out _) | (with_reducible exact HC1.out _)))
    refine wpQuiet_nil ?_
    intro p
    have hb := ext_step hb1 ((HS.out p.w).1 p.h)
    go_wp2
    go_ret
    exact ⟨congrArg (fun s => Ending.returned (.string s)) (ByteArray.ext (by rw [HE.out]; simp)), hb⟩
  · obtain ⟨x, y, rfl⟩ := hmp (by omega)
    have HE : Hid (out = TA.inn 2 x ++ [32, 59, 32] ++ TA.inn 3 y) := by
      show _ = _
      rw [HOUT.out]; simp [TA.pair, TA.inn, TA.strs, Lib.join, List.intercalate, TA.word, wordT, opWords]
    have hxy : x.wt + y.wt ≤ 1099511627776 := by simp only [TA.wts] at hwk; omega
    obtain ⟨kb, ko, rfl, hc⟩ := HROW.out.at (by simp)
    have hp0 : w.cell? ⟨kb, ko, none⟩ = some (.pointer (some ⟨x.b, 0, none⟩)) := by have := hc 0 (by simp); simpa using this
    have hp1 : w.cell? ⟨kb, ko + 1, none⟩ = some (.pointer (some ⟨y.b, 0, none⟩)) := hc 1 (by simp)
    have HI0 : Hid (∀ W, Below w.heap.size w W → Calls Tryz.prog 60 #[.pointer (some ⟨x.b, 0, none⟩), .int .i64 2] W (StrPost (TA.inn 2 x) W)) := fun W hb => lwwithin_any x 2 (by omega) (HKO.out x (by simp)) (by omega) W (IsTa.later hb x (HKT.out x (by simp))) fun W' hb' => HSS.out x (by simp) W' (ext_step hb hb')
    have HI1 : Hid (∀ W, Below w.heap.size w W → Calls Tryz.prog 60 #[.pointer (some ⟨y.b, 0, none⟩), .int .i64 3] W (StrPost (TA.inn 3 y) W)) := fun W hb => lwwithin_any y 3 (by omega) (HKO.out y (by simp)) (by omega) W (IsTa.later hb y (HKT.out y (by simp))) fun W' hb' => HSS.out y (by simp) W' (ext_step hb hb')
    have hlx : (TA.inn 2 x).length ≤ x.wt := by have := x.str_len; unfold TA.inn; split <;> (try simp only [List.length_append, List.length_cons, List.length_nil]) <;> omega
    have hly : (TA.inn 3 y).length ≤ y.wt := by have := y.str_len; unfold TA.inn; split <;> (try simp only [List.length_append, List.length_cons, List.length_nil]) <;> omega
    generalize TA.inn 2 x = l0 at *
    generalize TA.inn 3 y = l1 at *
    generalize x.b = b0 at *
    generalize y.b = b1 at *
    generalize x.wt = wx at *
    generalize y.wt = wy at *
    clear hmz hmp hms HROW HSS HKT HKO hc hwk
    generalize RE.ofO re0 = ofr at *
    go_enter Tryz.func17, Tryz.ntmps17
    go_wp2_with fail
    refine HOF.out.mono ?_
    rintro e w1 ⟨rfl, hb1⟩
    have hp : ∀ j v, w.cell? ⟨b, j, none⟩ = some v → w1.cell? ⟨b, j, none⟩ = some v := fun j v h => (hb1.cell (p := ⟨b, j, none⟩) (World.block_lt_of_cell? w _ h)).trans h
    have d0 := hp 0 _ c0; have d2 := hp 2 _ c2; have d4 := hp 4 _ c4; have d5 := hp 5 _ c5; have d6 := hp 6 _ c6
    clear hp
    have e0 : w1.cell? ⟨kb, ko, none⟩ = some (.pointer (some ⟨b0, 0, none⟩)) := (hb1.cell (p := ⟨kb, ko, none⟩) (World.block_lt_of_cell? w _ hp0)).trans hp0
    have e1 : w1.cell? ⟨kb, ko + 1, none⟩ = some (.pointer (some ⟨b1, 0, none⟩)) := (hb1.cell (p := ⟨kb, ko + 1, none⟩) (World.block_lt_of_cell? w _ hp1)).trans hp1
    obtain ⟨S, hS2⟩ : ∃ S : World → Prop, ∀ W', S W' ↔ Below w1.heap.size w1 W' := ⟨_, fun _ => Iff.rfl⟩
    have HS := Lib.hid hS2
    have cs : ∀ p : InC S, p.w.cell? ⟨b, 6, none⟩ = some (.slice (some ⟨kb, ko, none⟩) 2 cap) ∧ p.w.cell? ⟨kb, ko, none⟩ = some (.pointer (some ⟨b0, 0, none⟩)) ∧ p.w.cell? ⟨kb, ko + 1, none⟩ = some (.pointer (some ⟨b1, 0, none⟩)) := fun p => by
      have hb := (hS2 p.w).1 p.h
      exact ⟨(hb.cell (p := ⟨b, 6, none⟩) (World.block_lt_of_cell? w1 _ d6)).trans d6, (hb.cell (p := ⟨kb, ko, none⟩) (World.block_lt_of_cell? w1 _ e0)).trans e0, (hb.cell (p := ⟨kb, ko + 1, none⟩) (World.block_lt_of_cell? w1 _ e1)).trans e1⟩
    have hS0 : S w1.drew := (hS2 _).2 (Below.refl _ _).drew
    have hne : Nonempty (InC S) := ⟨⟨_, hS0⟩⟩
    have HC0 : Hid (∀ p : InC S, Calls Tryz.prog 60 #[.pointer (some ⟨b0, 0, none⟩), .int .i64 2] p.w fun e w' => e = .returned (.string ⟨l0.toArray⟩) ∧ ∃ q : InC S, w' = q.w) := fun p => (HI0.out p.w (ext_step hb1 ((hS2 _).1 p.h))).mono fun e w' ⟨he, hb⟩ => ⟨he, ⟨w', (hS2 _).2 (ext_step ((hS2 _).1 p.h) hb)⟩, rfl⟩
    have HC1 : Hid (∀ p : InC S, Calls Tryz.prog 60 #[.pointer (some ⟨b1, 0, none⟩), .int .i64 3] p.w fun e w' => e = .returned (.string ⟨l1.toArray⟩) ∧ ∃ q : InC S, w' = q.w) := fun p => (HI1.out p.w (ext_step hb1 ((hS2 _).1 p.h))).mono fun e w' ⟨he, hb⟩ => ⟨he, ⟨w', (hS2 _).2 (ext_step ((hS2 _).1 p.h) hb)⟩, rfl⟩
    clear hS2
    go_wp2_with fail
    clear d0 d2 d4 d5 d6 c0 c1 c2 c3 c4 c5 c6 e0 e1 hp0 hp1
    refine wp_region_class S (by kernel_rfl) (by kernel_rfl) hS0 ?_
    repeat (go_big_quiet_step (first | (with_reducible exact HC0.out _) | (with_reducible exact HC1.out _)))
    refine wpQuiet_nil ?_
    intro p
    have hb := ext_step hb1 ((HS.out p.w).1 p.h)
    go_wp2
    go_ret
    exact ⟨congrArg (fun s => Ending.returned (.string s)) (ByteArray.ext (by rw [HE.out]; simp)), hb⟩
  · obtain ⟨k, rfl⟩ := hms (by omega)
    have HE : Hid (out = TA.inn 3 k ++ [42]) := by
      show _ = _
      rw [HOUT.out]; simp [TA.star, TA.inn, TA.strs, Lib.join, List.intercalate, TA.word, wordT, opWords]
    have hxy : k.wt ≤ 1099511627776 := by simp only [TA.wts] at hwk; omega
    obtain ⟨kb, ko, rfl, hc⟩ := HROW.out.at (by simp)
    have hp0 : w.cell? ⟨kb, ko, none⟩ = some (.pointer (some ⟨k.b, 0, none⟩)) := by have := hc 0 (by simp); simpa using this
    have hlx : (TA.inn 3 k).length ≤ k.wt := by have := k.str_len; unfold TA.inn; split <;> (try simp only [List.length_append, List.length_cons, List.length_nil]) <;> omega
    clear hmz hmp hms HROW hc hwk
    generalize RE.ofO re0 = ofr at *
    go_enter Tryz.func17, Tryz.ntmps17
    go_wp2_with fail
    refine HOF.out.mono ?_
    rintro e w1 ⟨rfl, hb1⟩
    have hp : ∀ j v, w.cell? ⟨b, j, none⟩ = some v → w1.cell? ⟨b, j, none⟩ = some v := fun j v h => (hb1.cell (p := ⟨b, j, none⟩) (World.block_lt_of_cell? w _ h)).trans h
    have d0 := hp 0 _ c0; have d2 := hp 2 _ c2; have d4 := hp 4 _ c4; have d5 := hp 5 _ c5; have d6 := hp 6 _ c6
    clear hp
    have e0 : w1.cell? ⟨kb, ko, none⟩ = some (.pointer (some ⟨k.b, 0, none⟩)) := (hb1.cell (p := ⟨kb, ko, none⟩) (World.block_lt_of_cell? w _ hp0)).trans hp0
    have HI := Lib.hid (lwwithin_any k 3 (by omega) (HKO.out k (by simp)) (by omega) w1 (IsTa.later hb1 k (HKT.out k (by simp))) fun W' hb' => HSS.out k (by simp) W' (ext_step hb1 hb'))
    clear HSS HKT HKO c0 c1 c2 c3 c4 c5 c6 hp0
    generalize TA.inn 3 k = l0 at *
    generalize k.b = b0 at *
    generalize k.wt = wk at *
    go_wp2_with fail
    refine HI.out.mono ?_
    rintro e w2 ⟨rfl, hb2⟩
    have hB2 := ext_step hb1 hb2
    clear hb2
    go_wp2_with fail
    go_ret
    exact ⟨congrArg (fun s => Ending.returned (.string s)) (ByteArray.ext (by rw [HE.out]; simp)), hB2⟩
  · obtain ⟨x, y, rfl⟩ := hmp (by omega)
    have HE : Hid (out = [115, 119, 97, 112, 40] ++ x.str ++ [44, 32] ++ y.str ++ [41]) := by
      show _ = _
      rw [HOUT.out]; simp [TA.pair, TA.inn, TA.strs, Lib.join, List.intercalate, TA.word, wordT, opWords]
    have hxy : x.wt + y.wt ≤ 1099511627776 := by simp only [TA.wts] at hwk; omega
    obtain ⟨kb, ko, rfl, hc⟩ := HROW.out.at (by simp)
    have hp0 : w.cell? ⟨kb, ko, none⟩ = some (.pointer (some ⟨x.b, 0, none⟩)) := by have := hc 0 (by simp); simpa using this
    have hp1 : w.cell? ⟨kb, ko + 1, none⟩ = some (.pointer (some ⟨y.b, 0, none⟩)) := hc 1 (by simp)
    have HI0 : Hid (∀ W, Below w.heap.size w W → Calls Tryz.prog 17 #[.pointer (some ⟨x.b, 0, none⟩)] W (StrPost (x.str) W)) := fun W hb => HSS.out x (by simp) W hb
    have HI1 : Hid (∀ W, Below w.heap.size w W → Calls Tryz.prog 17 #[.pointer (some ⟨y.b, 0, none⟩)] W (StrPost (y.str) W)) := fun W hb => HSS.out y (by simp) W hb
    have hlx : (x.str).length ≤ x.wt := by have := x.str_len; omega
    have hly : (y.str).length ≤ y.wt := by have := y.str_len; omega
    generalize x.str = l0 at *
    generalize y.str = l1 at *
    generalize x.b = b0 at *
    generalize y.b = b1 at *
    generalize x.wt = wx at *
    generalize y.wt = wy at *
    clear hmz hmp hms HROW HSS HKT HKO hc hwk
    generalize RE.ofO re0 = ofr at *
    go_enter Tryz.func17, Tryz.ntmps17
    go_wp2_with fail
    refine HOF.out.mono ?_
    rintro e w1 ⟨rfl, hb1⟩
    have hp : ∀ j v, w.cell? ⟨b, j, none⟩ = some v → w1.cell? ⟨b, j, none⟩ = some v := fun j v h => (hb1.cell (p := ⟨b, j, none⟩) (World.block_lt_of_cell? w _ h)).trans h
    have d0 := hp 0 _ c0; have d2 := hp 2 _ c2; have d4 := hp 4 _ c4; have d5 := hp 5 _ c5; have d6 := hp 6 _ c6
    clear hp
    have e0 : w1.cell? ⟨kb, ko, none⟩ = some (.pointer (some ⟨b0, 0, none⟩)) := (hb1.cell (p := ⟨kb, ko, none⟩) (World.block_lt_of_cell? w _ hp0)).trans hp0
    have e1 : w1.cell? ⟨kb, ko + 1, none⟩ = some (.pointer (some ⟨b1, 0, none⟩)) := (hb1.cell (p := ⟨kb, ko + 1, none⟩) (World.block_lt_of_cell? w _ hp1)).trans hp1
    obtain ⟨S, hS2⟩ : ∃ S : World → Prop, ∀ W', S W' ↔ Below w1.heap.size w1 W' := ⟨_, fun _ => Iff.rfl⟩
    have HS := Lib.hid hS2
    have cs : ∀ p : InC S, p.w.cell? ⟨b, 6, none⟩ = some (.slice (some ⟨kb, ko, none⟩) 2 cap) ∧ p.w.cell? ⟨kb, ko, none⟩ = some (.pointer (some ⟨b0, 0, none⟩)) ∧ p.w.cell? ⟨kb, ko + 1, none⟩ = some (.pointer (some ⟨b1, 0, none⟩)) := fun p => by
      have hb := (hS2 p.w).1 p.h
      exact ⟨(hb.cell (p := ⟨b, 6, none⟩) (World.block_lt_of_cell? w1 _ d6)).trans d6, (hb.cell (p := ⟨kb, ko, none⟩) (World.block_lt_of_cell? w1 _ e0)).trans e0, (hb.cell (p := ⟨kb, ko + 1, none⟩) (World.block_lt_of_cell? w1 _ e1)).trans e1⟩
    have hS0 : S w1.drew := (hS2 _).2 (Below.refl _ _).drew
    have hne : Nonempty (InC S) := ⟨⟨_, hS0⟩⟩
    have HC0 : Hid (∀ p : InC S, Calls Tryz.prog 17 #[.pointer (some ⟨b0, 0, none⟩)] p.w fun e w' => e = .returned (.string ⟨l0.toArray⟩) ∧ ∃ q : InC S, w' = q.w) := fun p => (HI0.out p.w (ext_step hb1 ((hS2 _).1 p.h))).mono fun e w' ⟨he, hb⟩ => ⟨he, ⟨w', (hS2 _).2 (ext_step ((hS2 _).1 p.h) hb)⟩, rfl⟩
    have HC1 : Hid (∀ p : InC S, Calls Tryz.prog 17 #[.pointer (some ⟨b1, 0, none⟩)] p.w fun e w' => e = .returned (.string ⟨l1.toArray⟩) ∧ ∃ q : InC S, w' = q.w) := fun p => (HI1.out p.w (ext_step hb1 ((hS2 _).1 p.h))).mono fun e w' ⟨he, hb⟩ => ⟨he, ⟨w', (hS2 _).2 (ext_step ((hS2 _).1 p.h) hb)⟩, rfl⟩
    clear hS2
    go_wp2_with fail
    clear d0 d2 d4 d5 d6 c0 c1 c2 c3 c4 c5 c6 e0 e1 hp0 hp1
    refine wp_region_class S (by kernel_rfl) (by kernel_rfl) hS0 ?_
    repeat (go_big_quiet_step (first | (with_reducible exact HC0.out _) | (with_reducible exact HC1.out _)))
    refine wpQuiet_nil ?_
    intro p
    have hb := ext_step hb1 ((HS.out p.w).1 p.h)
    go_wp2
    go_ret
    exact ⟨congrArg (fun s => Ending.returned (.string s)) (ByteArray.ext (by rw [HE.out]; simp)), hb⟩
  · obtain ⟨k, rfl⟩ := hms (by omega)
    have HE : Hid (out = [105, 110, 118, 40] ++ k.str ++ [41]) := by
      show _ = _
      rw [HOUT.out]; simp [TA.star, TA.inn, TA.strs, Lib.join, List.intercalate, TA.word, wordT, opWords]
    have hxy : k.wt ≤ 1099511627776 := by simp only [TA.wts] at hwk; omega
    obtain ⟨kb, ko, rfl, hc⟩ := HROW.out.at (by simp)
    have hp0 : w.cell? ⟨kb, ko, none⟩ = some (.pointer (some ⟨k.b, 0, none⟩)) := by have := hc 0 (by simp); simpa using this
    have hlx : (k.str).length ≤ k.wt := by have := k.str_len; omega
    clear hmz hmp hms HROW hc hwk
    generalize RE.ofO re0 = ofr at *
    go_enter Tryz.func17, Tryz.ntmps17
    go_wp2_with fail
    refine HOF.out.mono ?_
    rintro e w1 ⟨rfl, hb1⟩
    have hp : ∀ j v, w.cell? ⟨b, j, none⟩ = some v → w1.cell? ⟨b, j, none⟩ = some v := fun j v h => (hb1.cell (p := ⟨b, j, none⟩) (World.block_lt_of_cell? w _ h)).trans h
    have d0 := hp 0 _ c0; have d2 := hp 2 _ c2; have d4 := hp 4 _ c4; have d5 := hp 5 _ c5; have d6 := hp 6 _ c6
    clear hp
    have e0 : w1.cell? ⟨kb, ko, none⟩ = some (.pointer (some ⟨k.b, 0, none⟩)) := (hb1.cell (p := ⟨kb, ko, none⟩) (World.block_lt_of_cell? w _ hp0)).trans hp0
    have HI := Lib.hid (HSS.out k (by simp) w1 hb1)
    clear HSS HKT HKO c0 c1 c2 c3 c4 c5 c6 hp0
    generalize k.str = l0 at *
    generalize k.b = b0 at *
    generalize k.wt = wk at *
    go_wp2_with fail
    refine HI.out.mono ?_
    rintro e w2 ⟨rfl, hb2⟩
    have hB2 := ext_step hb1 hb2
    clear hb2
    go_wp2_with fail
    go_ret
    exact ⟨congrArg (fun s => Ending.returned (.string s)) (ByteArray.ext (by rw [HE.out]; simp)), hB2⟩
  · obtain ⟨k, rfl⟩ := hms (by omega)
    have HE : Hid (out = [100, 105, 99, 116, 40] ++ k.str ++ [41]) := by
      show _ = _
      rw [HOUT.out]; simp [TA.star, TA.inn, TA.strs, Lib.join, List.intercalate, TA.word, wordT, opWords]
    have hxy : k.wt ≤ 1099511627776 := by simp only [TA.wts] at hwk; omega
    obtain ⟨kb, ko, rfl, hc⟩ := HROW.out.at (by simp)
    have hp0 : w.cell? ⟨kb, ko, none⟩ = some (.pointer (some ⟨k.b, 0, none⟩)) := by have := hc 0 (by simp); simpa using this
    have hlx : (k.str).length ≤ k.wt := by have := k.str_len; omega
    clear hmz hmp hms HROW hc hwk
    generalize RE.ofO re0 = ofr at *
    go_enter Tryz.func17, Tryz.ntmps17
    go_wp2_with fail
    refine HOF.out.mono ?_
    rintro e w1 ⟨rfl, hb1⟩
    have hp : ∀ j v, w.cell? ⟨b, j, none⟩ = some v → w1.cell? ⟨b, j, none⟩ = some v := fun j v h => (hb1.cell (p := ⟨b, j, none⟩) (World.block_lt_of_cell? w _ h)).trans h
    have d0 := hp 0 _ c0; have d2 := hp 2 _ c2; have d4 := hp 4 _ c4; have d5 := hp 5 _ c5; have d6 := hp 6 _ c6
    clear hp
    have e0 : w1.cell? ⟨kb, ko, none⟩ = some (.pointer (some ⟨k.b, 0, none⟩)) := (hb1.cell (p := ⟨kb, ko, none⟩) (World.block_lt_of_cell? w _ hp0)).trans hp0
    have HI := Lib.hid (HSS.out k (by simp) w1 hb1)
    clear HSS HKT HKO c0 c1 c2 c3 c4 c5 c6 hp0
    generalize k.str = l0 at *
    generalize k.b = b0 at *
    generalize k.wt = wk at *
    go_wp2_with fail
    refine HI.out.mono ?_
    rintro e w2 ⟨rfl, hb2⟩
    have hB2 := ext_step hb1 hb2
    clear hb2
    go_wp2_with fail
    go_ret
    exact ⟨congrArg (fun s => Ending.returned (.string s)) (ByteArray.ext (by rw [HE.out]; simp)), hB2⟩
  · obtain ⟨x, y, rfl⟩ := hmp (by omega)
    have HE : Hid (out = [108, 101, 102, 116, 40] ++ x.str ++ [44, 32] ++ y.str ++ [41]) := by
      show _ = _
      rw [HOUT.out]; simp [TA.pair, TA.inn, TA.strs, Lib.join, List.intercalate, TA.word, wordT, opWords]
    have hxy : x.wt + y.wt ≤ 1099511627776 := by simp only [TA.wts] at hwk; omega
    obtain ⟨kb, ko, rfl, hc⟩ := HROW.out.at (by simp)
    have hp0 : w.cell? ⟨kb, ko, none⟩ = some (.pointer (some ⟨x.b, 0, none⟩)) := by have := hc 0 (by simp); simpa using this
    have hp1 : w.cell? ⟨kb, ko + 1, none⟩ = some (.pointer (some ⟨y.b, 0, none⟩)) := hc 1 (by simp)
    have HI0 : Hid (∀ W, Below w.heap.size w W → Calls Tryz.prog 17 #[.pointer (some ⟨x.b, 0, none⟩)] W (StrPost (x.str) W)) := fun W hb => HSS.out x (by simp) W hb
    have HI1 : Hid (∀ W, Below w.heap.size w W → Calls Tryz.prog 17 #[.pointer (some ⟨y.b, 0, none⟩)] W (StrPost (y.str) W)) := fun W hb => HSS.out y (by simp) W hb
    have hlx : (x.str).length ≤ x.wt := by have := x.str_len; omega
    have hly : (y.str).length ≤ y.wt := by have := y.str_len; omega
    generalize x.str = l0 at *
    generalize y.str = l1 at *
    generalize x.b = b0 at *
    generalize y.b = b1 at *
    generalize x.wt = wx at *
    generalize y.wt = wy at *
    clear hmz hmp hms HROW HSS HKT HKO hc hwk
    generalize RE.ofO re0 = ofr at *
    go_enter Tryz.func17, Tryz.ntmps17
    go_wp2_with fail
    refine HOF.out.mono ?_
    rintro e w1 ⟨rfl, hb1⟩
    have hp : ∀ j v, w.cell? ⟨b, j, none⟩ = some v → w1.cell? ⟨b, j, none⟩ = some v := fun j v h => (hb1.cell (p := ⟨b, j, none⟩) (World.block_lt_of_cell? w _ h)).trans h
    have d0 := hp 0 _ c0; have d2 := hp 2 _ c2; have d4 := hp 4 _ c4; have d5 := hp 5 _ c5; have d6 := hp 6 _ c6
    clear hp
    have e0 : w1.cell? ⟨kb, ko, none⟩ = some (.pointer (some ⟨b0, 0, none⟩)) := (hb1.cell (p := ⟨kb, ko, none⟩) (World.block_lt_of_cell? w _ hp0)).trans hp0
    have e1 : w1.cell? ⟨kb, ko + 1, none⟩ = some (.pointer (some ⟨b1, 0, none⟩)) := (hb1.cell (p := ⟨kb, ko + 1, none⟩) (World.block_lt_of_cell? w _ hp1)).trans hp1
    obtain ⟨S, hS2⟩ : ∃ S : World → Prop, ∀ W', S W' ↔ Below w1.heap.size w1 W' := ⟨_, fun _ => Iff.rfl⟩
    have HS := Lib.hid hS2
    have cs : ∀ p : InC S, p.w.cell? ⟨b, 6, none⟩ = some (.slice (some ⟨kb, ko, none⟩) 2 cap) ∧ p.w.cell? ⟨kb, ko, none⟩ = some (.pointer (some ⟨b0, 0, none⟩)) ∧ p.w.cell? ⟨kb, ko + 1, none⟩ = some (.pointer (some ⟨b1, 0, none⟩)) := fun p => by
      have hb := (hS2 p.w).1 p.h
      exact ⟨(hb.cell (p := ⟨b, 6, none⟩) (World.block_lt_of_cell? w1 _ d6)).trans d6, (hb.cell (p := ⟨kb, ko, none⟩) (World.block_lt_of_cell? w1 _ e0)).trans e0, (hb.cell (p := ⟨kb, ko + 1, none⟩) (World.block_lt_of_cell? w1 _ e1)).trans e1⟩
    have hS0 : S w1.drew := (hS2 _).2 (Below.refl _ _).drew
    have hne : Nonempty (InC S) := ⟨⟨_, hS0⟩⟩
    have HC0 : Hid (∀ p : InC S, Calls Tryz.prog 17 #[.pointer (some ⟨b0, 0, none⟩)] p.w fun e w' => e = .returned (.string ⟨l0.toArray⟩) ∧ ∃ q : InC S, w' = q.w) := fun p => (HI0.out p.w (ext_step hb1 ((hS2 _).1 p.h))).mono fun e w' ⟨he, hb⟩ => ⟨he, ⟨w', (hS2 _).2 (ext_step ((hS2 _).1 p.h) hb)⟩, rfl⟩
    have HC1 : Hid (∀ p : InC S, Calls Tryz.prog 17 #[.pointer (some ⟨b1, 0, none⟩)] p.w fun e w' => e = .returned (.string ⟨l1.toArray⟩) ∧ ∃ q : InC S, w' = q.w) := fun p => (HI1.out p.w (ext_step hb1 ((hS2 _).1 p.h))).mono fun e w' ⟨he, hb⟩ => ⟨he, ⟨w', (hS2 _).2 (ext_step ((hS2 _).1 p.h) hb)⟩, rfl⟩
    clear hS2
    go_wp2_with fail
    clear d0 d2 d4 d5 d6 c0 c1 c2 c3 c4 c5 c6 e0 e1 hp0 hp1
    refine wp_region_class S (by kernel_rfl) (by kernel_rfl) hS0 ?_
    repeat (go_big_quiet_step (first | (with_reducible exact HC0.out _) | (with_reducible exact HC1.out _)))
    refine wpQuiet_nil ?_
    intro p
    have hb := ext_step hb1 ((HS.out p.w).1 p.h)
    go_wp2
    go_ret
    exact ⟨congrArg (fun s => Ending.returned (.string s)) (ByteArray.ext (by rw [HE.out]; simp)), hb⟩
  · obtain ⟨x, y, rfl⟩ := hmp (by omega)
    have HE : Hid (out = [114, 105, 103, 104, 116, 40] ++ x.str ++ [44, 32] ++ y.str ++ [41]) := by
      show _ = _
      rw [HOUT.out]; simp [TA.pair, TA.inn, TA.strs, Lib.join, List.intercalate, TA.word, wordT, opWords]
    have hxy : x.wt + y.wt ≤ 1099511627776 := by simp only [TA.wts] at hwk; omega
    obtain ⟨kb, ko, rfl, hc⟩ := HROW.out.at (by simp)
    have hp0 : w.cell? ⟨kb, ko, none⟩ = some (.pointer (some ⟨x.b, 0, none⟩)) := by have := hc 0 (by simp); simpa using this
    have hp1 : w.cell? ⟨kb, ko + 1, none⟩ = some (.pointer (some ⟨y.b, 0, none⟩)) := hc 1 (by simp)
    have HI0 : Hid (∀ W, Below w.heap.size w W → Calls Tryz.prog 17 #[.pointer (some ⟨x.b, 0, none⟩)] W (StrPost (x.str) W)) := fun W hb => HSS.out x (by simp) W hb
    have HI1 : Hid (∀ W, Below w.heap.size w W → Calls Tryz.prog 17 #[.pointer (some ⟨y.b, 0, none⟩)] W (StrPost (y.str) W)) := fun W hb => HSS.out y (by simp) W hb
    have hlx : (x.str).length ≤ x.wt := by have := x.str_len; omega
    have hly : (y.str).length ≤ y.wt := by have := y.str_len; omega
    generalize x.str = l0 at *
    generalize y.str = l1 at *
    generalize x.b = b0 at *
    generalize y.b = b1 at *
    generalize x.wt = wx at *
    generalize y.wt = wy at *
    clear hmz hmp hms HROW HSS HKT HKO hc hwk
    generalize RE.ofO re0 = ofr at *
    go_enter Tryz.func17, Tryz.ntmps17
    go_wp2_with fail
    refine HOF.out.mono ?_
    rintro e w1 ⟨rfl, hb1⟩
    have hp : ∀ j v, w.cell? ⟨b, j, none⟩ = some v → w1.cell? ⟨b, j, none⟩ = some v := fun j v h => (hb1.cell (p := ⟨b, j, none⟩) (World.block_lt_of_cell? w _ h)).trans h
    have d0 := hp 0 _ c0; have d2 := hp 2 _ c2; have d4 := hp 4 _ c4; have d5 := hp 5 _ c5; have d6 := hp 6 _ c6
    clear hp
    have e0 : w1.cell? ⟨kb, ko, none⟩ = some (.pointer (some ⟨b0, 0, none⟩)) := (hb1.cell (p := ⟨kb, ko, none⟩) (World.block_lt_of_cell? w _ hp0)).trans hp0
    have e1 : w1.cell? ⟨kb, ko + 1, none⟩ = some (.pointer (some ⟨b1, 0, none⟩)) := (hb1.cell (p := ⟨kb, ko + 1, none⟩) (World.block_lt_of_cell? w _ hp1)).trans hp1
    obtain ⟨S, hS2⟩ : ∃ S : World → Prop, ∀ W', S W' ↔ Below w1.heap.size w1 W' := ⟨_, fun _ => Iff.rfl⟩
    have HS := Lib.hid hS2
    have cs : ∀ p : InC S, p.w.cell? ⟨b, 6, none⟩ = some (.slice (some ⟨kb, ko, none⟩) 2 cap) ∧ p.w.cell? ⟨kb, ko, none⟩ = some (.pointer (some ⟨b0, 0, none⟩)) ∧ p.w.cell? ⟨kb, ko + 1, none⟩ = some (.pointer (some ⟨b1, 0, none⟩)) := fun p => by
      have hb := (hS2 p.w).1 p.h
      exact ⟨(hb.cell (p := ⟨b, 6, none⟩) (World.block_lt_of_cell? w1 _ d6)).trans d6, (hb.cell (p := ⟨kb, ko, none⟩) (World.block_lt_of_cell? w1 _ e0)).trans e0, (hb.cell (p := ⟨kb, ko + 1, none⟩) (World.block_lt_of_cell? w1 _ e1)).trans e1⟩
    have hS0 : S w1.drew := (hS2 _).2 (Below.refl _ _).drew
    have hne : Nonempty (InC S) := ⟨⟨_, hS0⟩⟩
    have HC0 : Hid (∀ p : InC S, Calls Tryz.prog 17 #[.pointer (some ⟨b0, 0, none⟩)] p.w fun e w' => e = .returned (.string ⟨l0.toArray⟩) ∧ ∃ q : InC S, w' = q.w) := fun p => (HI0.out p.w (ext_step hb1 ((hS2 _).1 p.h))).mono fun e w' ⟨he, hb⟩ => ⟨he, ⟨w', (hS2 _).2 (ext_step ((hS2 _).1 p.h) hb)⟩, rfl⟩
    have HC1 : Hid (∀ p : InC S, Calls Tryz.prog 17 #[.pointer (some ⟨b1, 0, none⟩)] p.w fun e w' => e = .returned (.string ⟨l1.toArray⟩) ∧ ∃ q : InC S, w' = q.w) := fun p => (HI1.out p.w (ext_step hb1 ((hS2 _).1 p.h))).mono fun e w' ⟨he, hb⟩ => ⟨he, ⟨w', (hS2 _).2 (ext_step ((hS2 _).1 p.h) hb)⟩, rfl⟩
    clear hS2
    go_wp2_with fail
    clear d0 d2 d4 d5 d6 c0 c1 c2 c3 c4 c5 c6 e0 e1 hp0 hp1
    refine wp_region_class S (by kernel_rfl) (by kernel_rfl) hS0 ?_
    repeat (go_big_quiet_step (first | (with_reducible exact HC0.out _) | (with_reducible exact HC1.out _)))
    refine wpQuiet_nil ?_
    intro p
    have hb := ext_step hb1 ((HS.out p.w).1 p.h)
    go_wp2
    go_ret
    exact ⟨congrArg (fun s => Ending.returned (.string s)) (ByteArray.ext (by rw [HE.out]; simp)), hb⟩
theorem lwWrite_any : ∀ (n : Nat) (t : TA), t.size ≤ n → t.made → t.ok → t.wt ≤ 1099511627776 → ∀ (w : World), Tab w → IsTa w t → Calls Tryz.prog 17 #[ptr t.b] w (StrPost t.str w)
  | 0, t, hn, _, _, _, _, _, _ => by have := t.size_eq; omega
  | n + 1, t, hn, hm, hok, hwt, w, hT, ht => lwWrite_step t hm hok hwt w hT ht fun k hk W hb =>
    lwWrite_any n k (by have := TA.kid_size hk; omega) (TA.made_kids hm k hk) (TA.ok_kids hok k hk) (by have := TA.kid_wt hk; omega) W (hT.later hb) (IsTa.later hb k (ht.open.2 k hk))
end Go.Proofs.YtpajpjocakhcdaaGreatDoor
