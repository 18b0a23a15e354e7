/-
  Terms that were made of plans, plain: they are as they may be, and small. Then LensTexts walked.
-/
import Derived.Test.YtpajpjocakhcdaaGreatDoorLnN
import Derived.Test.YtpajpjocakhcdaaGreatDoorLnD
import Derived.Test.YtpajpjocakhcdaaGreatDoorLnE
import Derived.Test.YtpajpjocakhcdaaGreatDoorLnH
set_option linter.unusedSimpArgs false
set_option linter.unusedVariables false
set_option maxRecDepth 100000
set_option linter.unnecessarySimpa false
namespace Go.Proofs.YtpajpjocakhcdaaGreatDoor
open Go.RowKit
namespace TA
theorem zeros_map (l : List TA) : zeros l = l.map zero := by induction l with | nil => rfl | cons a l ih => simp [zeros, ih]
theorem zero_op (t : TA) : t.zero.op = t.op := by cases t; rfl
theorem zero_eq (t : TA) : t.zero = node 0 t.op t.at_ t.name t.re t.text t.back (t.kids.map zero) := by cases t; rw [zero, zeros_map]; rfl
mutual
theorem str_zero : (t : TA) → str (zero t) = str t
  | node _ o _ n r t k ks => by
    rw [zero, str, str, arg_zeros, pair_zeros, pair_zeros, pair_zeros, star_zeros, strs_zeros]
theorem arg_zeros (r : Option RE) : (l : List TA) → arg r (zeros l) = arg r l
  | [] => rfl
  | [k] => by simp only [zeros, arg]; exact str_zero k
  | _ :: _ :: _ => rfl
theorem pair_zeros (s : List UInt8) (n : Nat) : (l : List TA) → pair s n (zeros l) = pair s n l
  | [] => rfl
  | [_] => rfl
  | [x, y] => by simp only [zeros, pair, zero_op]; rw [str_zero x, str_zero y]
  | _ :: _ :: _ :: _ => rfl
theorem star_zeros : (l : List TA) → star (zeros l) = star l
  | [] => rfl
  | [k] => by simp only [zeros, star, zero_op]; rw [str_zero k]
  | _ :: _ :: _ => rfl
theorem strs_zeros : (l : List TA) → strs (zeros l) = strs l
  | [] => rfl
  | k :: l => by simp only [zeros, strs]; rw [str_zero k, strs_zeros l]
end
mutual
theorem size_zero : (t : TA) → size (zero t) = size t
  | node _ _ _ _ _ _ _ ks => by simp only [zero, size]; rw [sizes_zeros ks]
theorem sizes_zeros : (l : List TA) → sizes (zeros l) = sizes l
  | [] => rfl
  | k :: l => by simp only [zeros, sizes]; rw [size_zero k, sizes_zeros l]
end
mutual
theorem wt_zero : (t : TA) → wt (zero t) = wt t
  | node _ _ _ _ _ _ _ ks => by simp only [zero, wt]; rw [wts_zeros ks]
theorem wts_zeros : (l : List TA) → wts (zeros l) = wts l
  | [] => rfl
  | k :: l => by simp only [zeros, wts]; rw [wt_zero k, wts_zeros l]
end
theorem zeros_nil {l : List TA} : zeros l ≠ [] ↔ l ≠ [] := by cases l <;> simp [zeros]
mutual
theorem ok_zero : (t : TA) → (ok (zero t) ↔ ok t)
  | node _ _ _ _ _ _ _ ks => by simp only [zero, ok]; rw [zeros_nil, oks_zeros ks]
theorem oks_zeros : (l : List TA) → (oks (zeros l) ↔ oks l)
  | [] => Iff.rfl
  | k :: l => by simp only [zeros, oks]; rw [ok_zero k, oks_zeros l]
end
theorem madeTop_zeros (o : Nat) (l : List TA) : madeTop o (zeros l) ↔ madeTop o l := by
  unfold madeTop
  match l with
  | [] => rfl
  | [x] => simp [zeros]
  | [x, y] => simp [zeros]
  | x :: y :: z :: l => simp [zeros]
mutual
theorem made_zero : (t : TA) → (made (zero t) ↔ made t)
  | node _ _ _ _ _ _ _ ks => by simp only [zero, made]; rw [madeTop_zeros, mades_zeros ks]
theorem mades_zeros : (l : List TA) → (mades (zeros l) ↔ mades l)
  | [] => Iff.rfl
  | k :: l => by simp only [zeros, mades]; rw [made_zero k, mades_zeros l]
end
end TA
namespace PL
theorem getD_or (l : List TA) (i : Nat) : l.getD i cA ∈ l ∨ l.getD i cA = cA := by
  by_cases h : i < l.length
  · left; simp [List.getD, h]
  · right; simp [List.getD, List.getElem?_eq_none (show l.length ≤ i by omega)]
theorem wt_cA : cA.wt ≤ 80000 := by
  have h : RE.exA.size ≤ 30 := RE.size_exprN 0
  show 100 + 0 + 2404 * (1 + RE.exA.size) + 4 * 0 + 4 * 0 + 0 ≤ 80000
  omega
theorem size_cA : cA.size = 1 := rfl
theorem sum_two (f : TA → Nat) (F : List TA → Nat) (h0 : F [] = 0) (h1 : ∀ k l, F (k :: l) = f k + F l) (l : List TA) : f (l.getD 0 cA) + f (l.getD 1 cA) ≤ 2 * f cA + F l := by
  match l with
  | [] => simp [h0]; omega
  | [x] => simp [h0, h1]; omega
  | x :: y :: l => simp [h1]; omega
theorem sum_one (f : TA → Nat) (F : List TA → Nat) (h0 : F [] = 0) (h1 : ∀ k l, F (k :: l) = f k + F l) (l : List TA) : f (l.getD 0 cA) ≤ 2 * f cA + F l := by
  match l with
  | [] => simp [h0]; omega
  | x :: l => simp [h1]; omega
theorem nameN_len (n : Int) : (nameN n).length ≤ 5 := by unfold nameN; split <;> simp
theorem textN_len (n : Int) : (textN n).length ≤ 3 := by
  have h : ∀ i, i < 7 → (textL.getD i []).length ≤ 3 := by decide
  exact h _ (uMod_lt n 7 (by omega))
theorem size_mkTop (o : Nat) (w n : Int) (l : List TA) : (mkTop o w n l).size ≤ 3 + TA.sizes l := by
  have h2 := sum_two TA.size TA.sizes rfl (fun _ _ => rfl) l
  have h1 := sum_one TA.size TA.sizes rfl (fun _ _ => rfl) l
  rw [size_cA] at h1 h2
  unfold mkTop
  simp only [TA.size]
  split
  · simp only [TA.sizes]; omega
  · split
    · simp only [TA.sizes]; omega
    · simp only [TA.sizes]; omega
theorem wt_mkTop (o : Nat) (w n : Int) (l : List TA) : (mkTop o w n l).wt ≤ 240000 + TA.wts l := by
  have h2 := sum_two TA.wt TA.wts rfl (fun _ _ => rfl) l
  have h1 := sum_one TA.wt TA.wts rfl (fun _ _ => rfl) l
  have hc := wt_cA
  have ha : ∀ x : Option RE, RE.sizeO x ≤ 30 → ∀ a b c : List UInt8, a.length ≤ 5 → b.length ≤ 3 → c.length ≤ 3 → 100 + a.length + 2404 * (1 + RE.sizeO x) + 4 * b.length + 4 * c.length ≤ 80000 := fun x hx a b c h1 h2 h3 => by omega
  have hA := ha (if o = 2 ∨ o = 16 ∨ o = 3 ∨ o = 4 ∨ o = 5 ∨ o = 17 then some (RE.exprN (uMod w 9)) else Option.none) (by split; exact RE.size_exprN _; simp [RE.sizeO])
    (if o = 3 then nameN n else []) (if o = 4 ∨ o = 6 ∨ o = 17 then textN n else []) (if o = 4 then textN (wrap64 (n.tdiv 7)) else if o = 5 then textN n else [])
    (by split; exact nameN_len n; simp) (by split; exact textN_len n; simp) (by split; exact textN_len _; split; exact textN_len n; simp)
  unfold mkTop
  simp only [TA.wt]
  generalize 100 + (if o = 3 then nameN n else []).length + 2404 * (1 + RE.sizeO (if o = 2 ∨ o = 16 ∨ o = 3 ∨ o = 4 ∨ o = 5 ∨ o = 17 then some (RE.exprN (uMod w 9)) else Option.none)) + 4 * (if o = 4 ∨ o = 6 ∨ o = 17 then textN n else []).length + 4 * (if o = 4 then textN (wrap64 (n.tdiv 7)) else if o = 5 then textN n else []).length = X at *
  split
  · simp only [TA.wts]; omega
  · split
    · simp only [TA.wts]; omega
    · simp only [TA.wts]; omega
mutual
theorem size_mk : (p : PL) → (mk p).size ≤ 3 * sz p
  | node o w n ks => by
    have := size_mks ks
    have h := size_mkTop (2 + uMod o 16) w n (mks ks)
    rw [mk, sz]; omega
theorem size_mks : (l : List PL) → TA.sizes (mks l) ≤ 3 * szs l
  | [] => by simp [mks, TA.sizes]
  | k :: l => by
    have := size_mk k
    have := size_mks l
    simp only [mks, TA.sizes, szs]; omega
end
mutual
theorem wt_mk : (p : PL) → (mk p).wt ≤ 240000 * sz p
  | node o w n ks => by
    have := wt_mks ks
    have h := wt_mkTop (2 + uMod o 16) w n (mks ks)
    rw [mk, sz]; omega
theorem wt_mks : (l : List PL) → TA.wts (mks l) ≤ 240000 * szs l
  | [] => by simp [mks, TA.wts]
  | k :: l => by
    have := wt_mk k
    have := wt_mks l
    simp only [mks, TA.wts, szs]; omega
end
theorem all_mkTop {P : TA → Prop} (hA : P cA) {l : List TA} (hl : ∀ t ∈ l, P t) (o : Nat) (w n : Int) : ∀ k ∈ (mkTop o w n l).kids, P k := by
  have h : ∀ i, P (l.getD i cA) := fun i => by
    rcases getD_or l i with h | h
    · exact hl _ h
    · rw [h]; exact hA
  intro k hk
  unfold mkTop TA.kids at hk
  simp only at hk
  split at hk
  · simp only [List.mem_cons, List.not_mem_nil, or_false] at hk
    rcases hk with rfl | rfl <;> exact h _
  · split at hk
    · simp only [List.mem_cons, List.not_mem_nil, or_false] at hk
      rw [hk]; exact h _
    · simp at hk
theorem madeTop_mkTop (o : Nat) (h2 : 2 ≤ o) (h18 : o < 18) (w n : Int) (l : List TA) : TA.madeTop o (mkTop o w n l).kids := by
  unfold mkTop TA.kids TA.madeTop
  simp only
  refine ⟨h2, h18, fun h => ?_, fun h => ?_, fun h => ?_⟩
  · rw [if_neg (by omega), if_neg (by omega)]
  · rw [if_pos h]; exact ⟨_, _, rfl⟩
  · rw [if_neg (by omega), if_pos h]; exact ⟨_, rfl⟩
theorem ok_of_made {t : TA} (h : TA.madeTop t.op t.kids) (hr : ∀ x, t.re = some x → RE.nf x) (hk : TA.oks t.kids) : t.ok := by
  cases t with
  | node b o a n r t k ks =>
    refine ⟨⟨h.2.1, hr, fun h' => ?_⟩, hk⟩
    obtain ⟨_, _, _, h4, h5⟩ := h
    show ks ≠ []
    have h4 : o = 7 ∨ o = 8 ∨ o = 11 ∨ o = 10 ∨ o = 14 ∨ o = 15 → ∃ x y, ks = [x, y] := h4
    have h5 : o = 9 ∨ o = 12 ∨ o = 13 → ∃ x, ks = [x] := h5
    rcases h' with h' | h' | h' | h' | h'
    · obtain ⟨x, y, e⟩ := h4 (by omega); rw [e]; simp
    · obtain ⟨x, e⟩ := h5 (by omega); rw [e]; simp
    · obtain ⟨x, e⟩ := h5 (by omega); rw [e]; simp
    · obtain ⟨x, y, e⟩ := h4 (by omega); rw [e]; simp
    · obtain ⟨x, y, e⟩ := h4 (by omega); rw [e]; simp
theorem mkTop_op (o : Nat) (w n : Int) (l : List TA) : (mkTop o w n l).op = o := rfl
theorem re_mkTop (o : Nat) (w n : Int) (l : List TA) : ∀ x, (mkTop o w n l).re = some x → RE.nf x := by
  intro x hx
  unfold mkTop TA.re at hx
  simp only at hx
  split at hx
  · cases hx; exact RE.nf_exprN _
  · cases hx
theorem cA_eq : cA = mkTop 2 0 0 [] := by
  have h : uMod 0 9 = 0 := by decide
  unfold mkTop cA
  rw [h]; rfl
theorem made_of {t : TA} (h : TA.madeTop t.op t.kids) (hk : ∀ k ∈ t.kids, t.made ∨ k.made) : t.made := by
  cases t with
  | node b o a n r t k ks =>
    by_cases h' : (TA.node b o a n r t k ks).made
    · exact h'
    · exact ⟨h, (TA.mades_iff _).2 fun k hk' => (hk k hk').resolve_left h'⟩
theorem made_top2 (o : Nat) (h2 : 2 ≤ o) (h18 : o < 18) (w n : Int) (l : List TA) (hl : ∀ t ∈ l, t.made ∧ t.ok) (hA : cA.made ∧ cA.ok) : (mkTop o w n l).made ∧ (mkTop o w n l).ok := by
  have hk := all_mkTop hA hl o w n
  exact ⟨made_of (madeTop_mkTop o h2 h18 w n l) fun k h => .inr (hk k h).1, ok_of_made (madeTop_mkTop o h2 h18 w n l) (re_mkTop o w n l) ((TA.oks_iff _).2 fun k h => (hk k h).2)⟩
theorem made_cA : cA.made ∧ cA.ok := by
  rw [cA_eq]
  exact ⟨made_of (madeTop_mkTop 2 (by omega) (by omega) 0 0 []) fun k h => absurd h (by simp [mkTop, TA.kids]), ok_of_made (madeTop_mkTop 2 (by omega) (by omega) 0 0 []) (re_mkTop 2 0 0 []) (by simp [mkTop, TA.kids, TA.oks])⟩
mutual
theorem made_mk : (p : PL) → (mk p).made ∧ (mk p).ok
  | node o w n ks => by
    rw [mk]
    have := uMod_lt o 16 (by omega)
    exact made_top2 _ (by omega) (by omega) w n _ (made_mks ks) made_cA
theorem made_mks : (l : List PL) → ∀ t ∈ mks l, t.made ∧ t.ok
  | [] => fun t h => absurd h (by simp [mks])
  | k :: l => fun t h => by
    rcases List.mem_cons.1 (by rw [mks] at h; exact h) with rfl | h
    · exact made_mk k
    · exact made_mks l t h
end
theorem cntL_ge (deep : Nat) (l : List PL) (n : Nat) : n ≤ cntL deep l n := by
  induction l generalizing n with
  | nil => exact Nat.le_refl _
  | cons a l ih =>
    rw [cntL]
    split
    · omega
    · exact Nat.le_trans (by omega) (ih _)
mutual
theorem sz_cnt : (p : PL) → (deep : Nat) → cnt deep p < 1000 → sz p ≤ cnt deep p
  | node o w n ks, deep, h => by
    rw [cnt] at h ⊢
    by_cases hd : 10 < deep
    · rw [if_pos hd] at h; omega
    · rw [if_neg hd] at h ⊢
      exact szs_cnt ks deep 1 h
theorem szs_cnt : (l : List PL) → (deep n : Nat) → cntL deep l n < 1000 → n + szs l ≤ cntL deep l n
  | [], deep, n, h => by simp [cntL, szs]
  | k :: l, deep, n, h => by
    rw [cntL] at h ⊢
    by_cases hc : 1000 < n + cnt (deep + 1) k
    · rw [if_pos hc] at h; omega
    · rw [if_neg hc] at h ⊢
      have h1 := cntL_ge deep l (n + cnt (deep + 1) k)
      have h2 := sz_cnt k (deep + 1) (by omega)
      have h3 := szs_cnt l deep _ h
      rw [szs]; omega
end
end PL
/-- a term that was made of few -/
structure Fine (t : TA) : Prop where
  made : t.made
  ok : t.ok
  wt : t.wt ≤ 7200000
  size : t.size ≤ 90
theorem fine_of {p : PL} {t : TA} (hc : PL.cnt 0 p ≤ 30) (hz : t.zero = p.mk) : Fine t := by
  have h1 := PL.sz_cnt p 0 (by omega)
  have h2 := PL.made_mk p
  have h3 := PL.wt_mk p
  have h4 := PL.size_mk p
  rw [← hz] at h2 h3 h4
  rw [TA.made_zero, TA.ok_zero] at h2
  rw [TA.wt_zero] at h3
  rw [TA.size_zero] at h4
  exact ⟨h2.1, h2.2, by omega, by omega⟩
set_option maxRecDepth 100000 in
set_option maxHeartbeats 4000000 in
theorem LensTexts_any (p : PL) (sv : Value) (w : World) (hT : Tab w) (hWo : WordsAt w) (hp : IsPl w sv p.kids) :
    Calls Tryz.prog 3 #[plV p sv] w fun e w' => e = .returned (.bool true) ∧ Below w.heap.size w w' := by
  have hx := re_alloc w (planCells p sv)
  have HX := Lib.hid hx
  have HT := Lib.hid (hT.later hx)
  have HW := Lib.hid (hWo.later hx)
  have HP := Lib.hid (hp.later hx)
  have HM := Lib.hid (fun W (h : IsPl W sv p.kids) => Make_any p sv W h)
  have HF := Lib.hid (fun W (h : IsPl W sv p.kids) => Few_any p sv W h)
  obtain ⟨a, cap, B, off, kv, rfl, ha, hml, hks⟩ := hp.open
  have hcl : ∀ i, i < 4 → (w.alloc (planCells p (.slice a p.kids.length cap))).cell? ⟨w.heap.size, i, none⟩ = #[Value.int .i64 p.op, .int .i64 p.w, .int .i64 p.n, .slice a p.kids.length cap][i]? := fun i _ => by
    rw [cell_of_row _ _ _ _ _ _ (heap_alloc_last w _)]
  have HCL := Lib.hid hcl
  clear hT hWo hx hp ha hks hml hcl
  generalize p.kids.length = len at *
  go_enter Tryz.func3, Tryz.ntmps3
  go_wp2_with fail
  refine (head_any _ HT.out HW.out).mono ?_
  rintro e w1 ⟨rfl, hb⟩
  have HB1 := Lib.hid (HX.out.trans (hb.mono (by simp)))
  have HT1 := Lib.hid (HT.out.later hb)
  have HW1 := Lib.hid (HW.out.later hb)
  have HP1 := Lib.hid (HP.out.later hb)
  have hbk : ∀ i, w1.cell? ⟨w.heap.size, i, none⟩ = (w.alloc (planCells p (.slice a len cap))).cell? ⟨w.heap.size, i, none⟩ := fun i => hb.cell (p := ⟨w.heap.size, i, none⟩) (by simp)
  have HBK := Lib.hid hbk
  clear hbk
  have m0 := (HBK.out 0).trans (HCL.out 0 (by omega))
  have m1 := (HBK.out 1).trans (HCL.out 1 (by omega))
  have m2 := (HBK.out 2).trans (HCL.out 2 (by omega))
  have m3 := (HBK.out 3).trans (HCL.out 3 (by omega))
  have hlt1 : w.heap.size < w1.heap.size := by have := hb.size; simp at this; omega
  clear hb HT HW HP HBK HCL
  go_wp2_with fail
  refine (HF.out _ HP1.out).mono ?_
  rintro e w2 ⟨rfl, hb⟩
  have HB2 := Lib.hid (ext_step HB1.out hb)
  have HT2 := Lib.hid (HT1.out.later hb)
  have HW2 := Lib.hid (HW1.out.later hb)
  have HP2 := Lib.hid (HP1.out.later hb)
  rw [← hb.cell (p := ⟨w.heap.size, 0, none⟩) hlt1] at m0
  rw [← hb.cell (p := ⟨w.heap.size, 1, none⟩) hlt1] at m1
  rw [← hb.cell (p := ⟨w.heap.size, 2, none⟩) hlt1] at m2
  rw [← hb.cell (p := ⟨w.heap.size, 3, none⟩) hlt1] at m3
  have hlt2 : w.heap.size < w2.heap.size := by have := hb.size; omega
  clear hb HT1 HW1 HP1 HB1
  have HFN := Lib.hid (fun (t : TA) (hc : PL.cnt 0 p ≤ 30) (h : t.zero = p.mk) => fine_of hc h)
  generalize PL.cnt 0 p = c at *
  generalize p.mk = m at *
  by_cases hc : c ≤ 30
  · have HC := Lib.hid hc
    have hcd : decide (c ≤ 30) = true := by simp [hc]
    clear hc
    go_wp2_with fail
    refine (HM.out _ HP2.out).mono ?_
    rintro e w3 ⟨t, rfl, ht, hz, hb, _, _⟩
    have hf := HFN.out t HC.out hz
    have HB3 := Lib.hid (ext_step HB2.out hb)
    have HT3 := Lib.hid (HT2.out.later hb)
    have HW3 := Lib.hid (HW2.out.later hb)
    have HI3 := Lib.hid ht
    have HQ := Lib.hid hf
    have hsz : 1 ≤ t.size := by rw [t.size_eq]; omega
    have hsz2 := hf.size
    clear hb HT2 HW2 HP2 HB2 ht hz hf m0 m1 m2 m3
    go_wp2_with fail
    refine (tmString_any _ t (Nat.le_refl _) HQ.out.ok (by have := HQ.out.wt; omega) _ HT3.out HW3.out HI3.out).mono ?_
    rintro e w4 ⟨rfl, hb⟩
    have HB4 := Lib.hid (ext_step HB3.out hb)
    have HT4 := Lib.hid (HT3.out.later hb)
    have HI4 := Lib.hid (IsTa.later hb _ HI3.out)
    clear hb HT3 HW3 HB3 HI3
    go_wp2_with fail
    refine (lwWrite_any _ t (Nat.le_refl _) HQ.out.made HQ.out.ok (by have := HQ.out.wt; omega) _ HT4.out HI4.out).mono ?_
    rintro e w5 ⟨rfl, hb⟩
    have HB5 := Lib.hid (ext_step HB4.out hb)
    have HI5 := Lib.hid (IsTa.later hb _ HI4.out)
    clear hb HT4 HB4 HI4
    go_wp2_with fail
    refine (tmSize_any _ t (Nat.le_refl _) (by have := HQ.out.size; omega) _ HI5.out).mono ?_
    rintro e w6 ⟨rfl, rfl⟩
    have HSZ := Lib.hid hsz
    go_wp2_with fail
    refine (tmString_nil _).mono ?_
    rintro e w7 ⟨rfl, hb⟩
    have HB7 := Lib.hid (ext_step HB5.out hb)
    clear hb HB5 HI5
    go_wp2_with fail
    refine (tmSize_nil _).mono ?_
    rintro e w8 ⟨rfl, rfl⟩
    go_wp2_with fail
    go_ret
    exact ⟨rfl, HB7.out⟩
  · have hcd : decide (c ≤ 30) = false := by simp [hc]
    go_wp2_with fail
    go_ret
    exact ⟨rfl, HB2.out⟩
end Go.Proofs.YtpajpjocakhcdaaGreatDoor
