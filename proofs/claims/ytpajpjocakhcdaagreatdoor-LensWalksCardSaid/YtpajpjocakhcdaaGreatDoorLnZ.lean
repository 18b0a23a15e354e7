/-
  LensWalks, walked through the program: the function that it calls on each part, and the whole.
-/
import Derived.Test.YtpajpjocakhcdaaGreatDoorLnY
import Derived.LaidEqlPtr
set_option linter.unusedSimpArgs false
set_option linter.unusedVariables false
set_option maxRecDepth 100000
set_option linter.unnecessarySimpa false
namespace Go.Proofs.YtpajpjocakhcdaaGreatDoor
open Go.RowKit
/-- what the statement's function leaves when it was called on so many -/
structure WInv (wB : World) (done : List Nat) (W : World) : Prop where
  n : W.heap[wB.heap.size]? = some (.cells #[.int .i64 (done.length : Nat)] 3 (0, 0))
  r : W.heap[wB.heap.size + 1]? = some (.cells #[.bool true] 4 (0, 0))
  bel : Below wB.heap.size wB W
theorem walkB_len (stop : Nat) (l : List Nat) : ∀ done : List Nat, l ≠ [] → (walkB (fun d => decide (d.length < stop)) done l).2 = decide (done.length + l.length < stop) ∧
    (walkB (fun d => decide (d.length < stop)) done l).1.length = min (max stop (done.length + 1)) (done.length + l.length) := by
  induction l with
  | nil => intro _ h; exact absurd rfl h
  | cons b r ih =>
    intro done _
    rw [walkB]
    by_cases hg : done.length + 1 < stop
    · rw [if_pos (by simp; exact hg)]
      by_cases hr : r = []
      · subst hr
        simp only [walkB, List.length_append, List.length_cons, List.length_nil]
        refine ⟨?_, by omega⟩
        simp [hg]
      · obtain ⟨h1, h2⟩ := ih (done ++ [b]) hr
        rw [h1, h2]
        simp only [List.length_append, List.length_cons, List.length_nil]
        refine ⟨?_, by omega⟩
        congr 1
        exact propext (by omega)
    · rw [if_neg (by simpa using hg)]
      simp only [List.length_append, List.length_cons, List.length_nil]
      refine ⟨?_, by omega⟩
      symm; simp; omega
set_option maxRecDepth 100000 in
set_option maxHeartbeats 4000000 in
theorem walks1_any (wB : World) (all : List Nat) (stop aB sB A cap : Nat) (hall : all.length ≤ 1099511627776) (ha : wB.cell? ⟨aB, 0, none⟩ = some (.slice (some ⟨A, 0, none⟩) all.length cap)) (hs : wB.cell? ⟨sB, 0, none⟩ = some (.int .i64 (stop : Nat)))
    (hrow : ∀ j u, (all.map ptr)[j]? = some u → wB.cell? ⟨A, j, none⟩ = some u) (d : List Nat) (b : Nat) (W : World) (hp : (d ++ [b]) <+: all) (hI : WInv wB d W) :
    Calls Tryz.prog 21 (#[ptr b] ++ #[.pointer (some ⟨wB.heap.size + 1, 0, none⟩), .pointer (some ⟨wB.heap.size, 0, none⟩), .pointer (some ⟨aB, 0, none⟩), .pointer (some ⟨sB, 0, none⟩)]) W
      fun e W' => e = .returned (.bool (decide ((d ++ [b]).length < stop))) ∧ WInv wB (d ++ [b]) W' := by
  obtain ⟨r, hr⟩ := hp
  have hlt : d.length < all.length := by rw [← hr]; simp
  have hat : all[d.length]? = some b := by rw [← hr]; simp
  have hc := hrow d.length (ptr b) (by simp [hat])
  have c1 := hI.bel.cell (p := ⟨A, d.length, none⟩) (World.block_lt_of_cell? wB _ hc)
  have c2 := hI.bel.cell (p := ⟨aB, 0, none⟩) (World.block_lt_of_cell? wB _ ha)
  have c3 := hI.bel.cell (p := ⟨sB, 0, none⟩) (World.block_lt_of_cell? wB _ hs)
  have hsB : sB < wB.heap.size := World.block_lt_of_cell? wB _ hs
  rw [hc] at c1; rw [ha] at c2; rw [hs] at c3
  have cn : W.cell? ⟨wB.heap.size, 0, none⟩ = some (.int .i64 (d.length : Nat)) := by rw [cell_of_row _ _ _ _ _ _ hI.n]; rfl
  have cr : W.cell? ⟨wB.heap.size + 1, 0, none⟩ = some (.bool true) := by rw [cell_of_row _ _ _ _ _ _ hI.r]; rfl
  have fn := frozen_of_row W wB.heap.size 0 _ _ hI.n
  have fr := frozen_of_row W (wB.heap.size + 1) 0 _ _ hI.r
  have hlt' : (d.length : Int) < (all.length : Int) := by omega
  have h63 : IntKind.i64.wrap ((d.length : Int) + 1) = (d.length : Int) + 1 := by rw [IntKind.wrap_i64]; omega
  have HN : Hid (WInv wB (d ++ [b]) ((W.setCell ⟨wB.heap.size + 1, 0, none⟩ (.bool true)).setCell ⟨wB.heap.size, 0, none⟩ (.int .i64 ((d.length : Int) + 1)))) := by
    have h1 := Below.heap_setCell W ⟨wB.heap.size + 1, 0, none⟩ (.bool true) wB.heap.size (by show wB.heap.size ≠ wB.heap.size + 1; omega)
    have h2 := heap_setCell_same _ _ 0 _ _ (.bool true) hI.r
    refine ⟨?_, ?_, ?_⟩
    · rw [heap_setCell_same _ _ _ _ _ _ (h1.trans hI.n)]; simp
    · rw [Below.heap_setCell _ _ _ _ (by show wB.heap.size + 1 ≠ wB.heap.size; omega), h2]; congr
    · exact (hI.bel.setCell (by show wB.heap.size ≤ wB.heap.size + 1; omega) _).setCell (Nat.le_refl _) _
  obtain ⟨ti, hti⟩ : ∃ j, Tryz.prog.info? 41 = some j := Option.isSome_iff_exists.1 (by kernel_rfl)
  have heq : ∀ w, (binOp .eql 26 (ptr b) (ptr b)).run Tryz.prog w = .ok (.bool true) w := fun w => run_eql_ptr_same w ⟨b, 0, none⟩ Tryz.underlying26 hti
  have HD : Hid ((d ++ [b]).length = d.length + 1) := by show _ = _; simp
  rw [show (d ++ [b]).length = d.length + 1 from HD.out]
  clear hrow hti hI hr hat hc ha hs HD hlt
  generalize d.length = k at *
  generalize all.length = N at *
  go_enter Tryz.func21, Tryz.ntmps21
  go_wp2_with fail
  go_ret
  exact ⟨by congr 2; simp; omega, HN.out⟩
theorem walks2_any (b : Value) (W : World) : Calls Tryz.prog 22 #[b] W fun e W' => e = .returned (.bool false) ∧ W' = W := by
  go_enter Tryz.func22, Tryz.ntmps22
  go_wp2_with fail
  go_ret
  exact ⟨rfl, rfl⟩
/-- what is left of a number, of thirty-two -/
def stopN (n : Int) : Nat := (bits .and .i64 n 31).toNat
theorem stopN_eq (n : Int) : bits .and .i64 n 31 = (stopN n : Nat) ∧ stopN n ≤ 31 := by
  have h : (BitVec.ofInt 64 n &&& BitVec.ofInt 64 31).toNat ≤ 31 := by
    rw [BitVec.toNat_and]
    exact Nat.le_trans Nat.and_le_right (by decide)
  have h2 : ∃ m : Nat, bits .and .i64 n 31 = (m : Int) ∧ m ≤ 31 := by
    refine ⟨_, ?_, h⟩
    show IntKind.i64.wrap ((BitVec.ofInt 64 n &&& BitVec.ofInt 64 31).toNat : Int) = _
    generalize (BitVec.ofInt 64 n &&& BitVec.ofInt 64 31).toNat = m at h
    rw [IntKind.wrap_i64]; omega
  obtain ⟨m, h3, h4⟩ := h2
  unfold stopN
  rw [h3]
  omega
set_option maxRecDepth 100000 in
set_option maxHeartbeats 4000000 in
theorem LensWalks_any (p : PL) (sv : Value) (n : Int) (w : World) (hT : Tab w) (hWo : WordsAt w) (hp : IsPl w sv p.kids) :
    Calls Tryz.prog 4 #[plV p sv, .int .i64 n] w fun e w' => e = .returned (.bool true) ∧ Below w.heap.size w w' := by
  obtain ⟨hst, hst2⟩ := stopN_eq n
  generalize stopN n = stop at *
  have hx := (re_alloc w (planCells p sv)).trans ((re_alloc (w.alloc (planCells p sv)) (.cells #[.int .i64 n] 3)).mono (by simp))
  have HX := Lib.hid hx
  have HT := Lib.hid (hT.later hx)
  have HW := Lib.hid (hWo.later hx)
  have HP := Lib.hid (hp.later hx)
  have HM := Lib.hid (fun W (h : IsPl W sv p.kids) => Make_any p sv W h)
  have HF := Lib.hid (fun W (h : IsPl W sv p.kids) => Few_any p sv W h)
  obtain ⟨a, cap, B, off, kv, rfl, ha, hml, hks⟩ := hp.open
  have hcl : ∀ i, ((w.alloc (planCells p (.slice a p.kids.length cap))).alloc (.cells #[.int .i64 n] 3)).cell? ⟨w.heap.size, i, none⟩ = #[Value.int .i64 p.op, .int .i64 p.w, .int .i64 p.n, .slice a p.kids.length cap][i]? := fun i => by
    rw [World.cell?_alloc_lt _ _ _ (by simp)]
    rw [cell_of_row _ _ _ _ _ _ (heap_alloc_last w _)]
  have hc3 : ((w.alloc (planCells p (.slice a p.kids.length cap))).alloc (.cells #[.int .i64 n] 3)).heap[w.heap.size + 1]? = some (.cells #[.int .i64 n] 3 (0, 0)) := by
    have := heap_alloc_last (w.alloc (planCells p (.slice a p.kids.length cap))) (.cells #[.int .i64 n] 3)
    simpa using this
  have HCL := Lib.hid hcl
  have HC3 := Lib.hid hc3
  clear hT hWo hx hp ha hks hml hcl hc3
  generalize p.kids.length = len at *
  go_enter Tryz.func4, Tryz.ntmps4
  go_wp2_with fail
  refine (head_any _ HT.out HW.out).mono ?_
  rintro e w1 ⟨rfl, hb⟩
  have HB1 := Lib.hid (HX.out.trans (hb.mono (by simp; omega)))
  have HP1 := Lib.hid (HP.out.later hb)
  have hbk : ∀ i, w1.cell? ⟨w.heap.size, i, none⟩ = ((w.alloc (planCells p (.slice a len cap))).alloc (.cells #[.int .i64 n] 3)).cell? ⟨w.heap.size, i, none⟩ := fun i => hb.cell (p := ⟨w.heap.size, i, none⟩) (by simp; omega)
  have HBK := Lib.hid hbk
  have h31 := (hb.block (w.heap.size + 1) (by simp)).trans HC3.out
  clear hbk
  have m0 := (HBK.out 0).trans (HCL.out 0)
  have m1 := (HBK.out 1).trans (HCL.out 1)
  have m2 := (HBK.out 2).trans (HCL.out 2)
  have m3 := (HBK.out 3).trans (HCL.out 3)
  have hlt1 : w.heap.size + 1 < w1.heap.size := by have := hb.size; simp at this; omega
  clear hb HT HW HP HBK HCL HC3
  go_wp2_with fail
  refine (HF.out _ HP1.out).mono ?_
  rintro e w2 ⟨rfl, hb⟩
  have HB2 := Lib.hid (ext_step HB1.out hb)
  have HP2 := Lib.hid (HP1.out.later hb)
  rw [← hb.cell (p := ⟨w.heap.size, 0, none⟩) (show w.heap.size < _ by omega)] at m0
  rw [← hb.cell (p := ⟨w.heap.size, 1, none⟩) (show w.heap.size < _ by omega)] at m1
  rw [← hb.cell (p := ⟨w.heap.size, 2, none⟩) (show w.heap.size < _ by omega)] at m2
  rw [← hb.cell (p := ⟨w.heap.size, 3, none⟩) (show w.heap.size < _ by omega)] at m3
  have h32 := (hb.block (w.heap.size + 1) hlt1).trans h31
  have hlt2 : w.heap.size + 1 < w2.heap.size := by have := hb.size; omega
  clear hb HP1 HB1 h31 hlt1
  have HFN := Lib.hid (fun (t : TA) (hc : PL.cnt 0 p ≤ 30) (h : t.zero = p.mk) => fine_of hc h)
  generalize PL.cnt 0 p = c at *
  generalize p.mk = m at *
  by_cases hc : c ≤ 30
  · have HC := Lib.hid hc
    have hcd : decide (c ≤ 30) = true := by simp [hc]
    clear hc
    go_wp2_with fail
    refine (HM.out _ HP2.out).mono ?_
    rintro e w3 ⟨t, rfl, ht, hz, hb, _, _⟩
    have hf := HFN.out t HC.out hz
    have HB3 := Lib.hid (ext_step HB2.out hb)
    have HI3 := Lib.hid ht
    have hsz : 1 ≤ t.size := by rw [t.size_eq]; omega
    have hsz2 := hf.size
    have h33 := (hb.block (w.heap.size + 1) hlt2).trans h32
    have hlt3 : w.heap.size + 1 < w3.heap.size := by have := hb.size; omega
    clear hb HP2 HB2 ht hz hf m0 m1 m2 m3 h32 hlt2
    go_wp2_with fail
    refine (parts_any _ t (Nat.le_refl _) (by omega) _ HI3.out).mono ?_
    rintro e w4 ⟨v, rfl, ho⟩
    have hb := ho.bel
    have HB4 := Lib.hid (ext_step HB3.out hb)
    have HI4 := Lib.hid (IsTa.later hb _ HI3.out)
    obtain ⟨A, cp, rfl, _, _, hrow⟩ := ho.form t.blocks_ne
    have hbl := t.blocks_len
    have hbn := t.blocks_ne
    have HROW := Lib.hid hrow
    have h34 := (hb.block (w.heap.size + 1) hlt3).trans h33
    have hlt4 : w.heap.size + 1 < w4.heap.size := by have := hb.size; omega
    clear hb hrow ho h33 hlt3 HI3 HB3
    have c34 : w4.cell? ⟨w.heap.size + 1, 0, none⟩ = some (.int .i64 n) := by rw [cell_of_row _ _ _ _ _ _ h34]; rfl
    have f34 := frozen_of_row _ _ 0 _ _ h34
    obtain ⟨wB, HWB⟩ : ∃ wB : World, Hid (wB = (w4.setCell ⟨w.heap.size + 1, 0, none⟩ (.int .i64 (stop : Nat))).alloc (.cells #[.slice (some ⟨A, 0, none⟩) t.size cp] 32)) := ⟨_, rfl⟩
    have hbB : Below w.heap.size w wB := by
      rw [HWB.out]
      exact ((HB4.out).setCell (by show w.heap.size ≤ w.heap.size + 1; omega) _).alloc (by simp; omega) _
    have hsB : wB.heap.size = w4.heap.size + 1 := by rw [HWB.out]; simp
    have hoB : ∀ k, k < w4.heap.size → k ≠ w.heap.size + 1 → wB.heap[k]? = w4.heap[k]? := fun k hk hne => by
      rw [HWB.out]
      exact ((re_alloc _ _).block k (by simpa using hk)).trans (Below.heap_setCell _ _ _ _ hne)
    have hIB : IsTa wB t := IsTa.put h34 (by decide) (by decide) (by decide) (by decide) hoB t HI4.out
    have hcB : wB.cell? ⟨w4.heap.size, 0, none⟩ = some (.slice (some ⟨A, 0, none⟩) t.blocks.length cp) := by
      have := heap_alloc_last (w4.setCell ⟨w.heap.size + 1, 0, none⟩ (.int .i64 (stop : Nat))) (.cells #[.slice (some ⟨A, 0, none⟩) t.size cp] 32)
      rw [← HWB.out] at this
      rw [cell_of_row _ _ _ _ _ _ (by simpa using this), hbl]; rfl
    have hsBc : wB.cell? ⟨w.heap.size + 1, 0, none⟩ = some (.int .i64 (stop : Nat)) := by
      have h := heap_setCell_same _ _ 0 _ _ (.int .i64 (stop : Nat)) h34
      have h2 := ((re_alloc (w4.setCell ⟨w.heap.size + 1, 0, none⟩ (.int .i64 (stop : Nat))) (.cells #[.slice (some ⟨A, 0, none⟩) t.size cp] 32)).block (w.heap.size + 1) (by simpa using hlt4)).trans h
      rw [← HWB.out] at h2
      rw [cell_of_row _ _ _ _ _ _ h2]; rfl
    have hrB : ∀ j u, (t.blocks.map ptr)[j]? = some u → wB.cell? ⟨A, j, none⟩ = some u := fun j u hj => by
      have h := HROW.out j u hj
      have h' : w4.cell? ⟨A, j, none⟩ = some u := by
          have e : (⟨A, 0, none⟩ : Addr).add j = ⟨A, j, none⟩ := by unfold Addr.add; split <;> simp_all
          rw [← e]; exact h
      have hA := World.block_lt_of_cell? w4 _ h'
      by_cases hAe : A = w.heap.size + 1
      · subst hAe
        rw [cell_of_row _ _ _ _ _ _ h34] at h'
        obtain ⟨bb, _, rfl⟩ := List.mem_map.1 (List.mem_of_getElem? hj)
        match j with
        | 0 => simp at h'
        | j + 1 => simp at h'
      · rw [World.cell?_of_block (w := w4) (w' := wB) (a := ⟨A, j, none⟩) (hoB A hA hAe)]; exact h'
    have hS := fun d b W hp hI => walks1_any wB t.blocks stop w4.heap.size (w.heap.size + 1) A cp (by omega) hcB hsBc hrB d b W hp hI
    have hI0 : WInv wB [] ((wB.alloc (.cells #[.int .i64 0] 3)).alloc (.cells #[.bool true] 4)) := by
      refine ⟨?_, ?_, ?_⟩
      · exact ((re_alloc _ _).block _ (by simp)).trans (heap_alloc_last _ _)
      · have := heap_alloc_last (wB.alloc (.cells #[.int .i64 0] 3)) (.cells #[.bool true] 4)
        simpa using this
      · exact (re_alloc _ _).trans ((re_alloc _ _).mono (by simp))
    have hKp : ∀ d W, WInv wB d W → KeepT wB W t.blocks := fun d W h => ⟨fun b hb => h.bel.cell (p := ⟨b, 6, none⟩) (IsTa.blocks_lt t hIB b hb), fun kb cur fr hk => h.bel.block kb (Array.getElem?_eq_some_iff.1 hk).1⟩
    have hWk := tmWalk_any 21 #[.pointer (some ⟨wB.heap.size + 1, 0, none⟩), .pointer (some ⟨wB.heap.size, 0, none⟩), .pointer (some ⟨w4.heap.size, 0, none⟩), .pointer (some ⟨w.heap.size + 1, 0, none⟩)]
      (fun _ _ => rfl) (fun d => decide (d.length < stop)) (WInv wB) t.blocks wB hS hKp t.size t (Nat.le_refl _) (by omega) hIB [] _ (List.prefix_refl _) hI0
    have hWl := walkB_len stop t.blocks [] hbn
    rw [hWl.1] at hWk
    rw [hsB] at hWk
    have HWK := Lib.hid hWk
    have HWL := Lib.hid hWl.2
    have HIB := Lib.hid hIB
    have HBB := Lib.hid hbB
    have HSB := Lib.hid hsB
    have HCB := Lib.hid hcB
    have HSC := Lib.hid hsBc
    clear hWk hWl hIB hbB hcB hsBc hrB hS hI0 hKp hoB hbn hsB
    simp only [List.length_nil, Nat.zero_add] at HWL HWK
    generalize (walkB (fun d => decide (d.length < stop)) [] t.blocks).1 = dn at *
    go_wp2_with fail
    rw [← HWB.out]
    refine HWK.out.mono ?_
    rintro e W5 ⟨rfl, hI5⟩
    have s5 := (hI5.bel.cell (p := ⟨w.heap.size + 1, 0, none⟩) (World.block_lt_of_cell? wB _ HSC.out)).trans HSC.out
    have a5 := (hI5.bel.cell (p := ⟨w4.heap.size, 0, none⟩) (World.block_lt_of_cell? wB _ HCB.out)).trans HCB.out
    have n5 : W5.cell? ⟨wB.heap.size, 0, none⟩ = some (.int .i64 (dn.length : Nat)) := by rw [cell_of_row _ _ _ _ _ _ hI5.n]; rfl
    have r5 : W5.cell? ⟨wB.heap.size + 1, 0, none⟩ = some (.bool true) := by rw [cell_of_row _ _ _ _ _ _ hI5.r]; rfl
    rw [HSB.out] at n5 r5
    rw [HWL.out] at n5
    have HIT := Lib.hid (IsTa.later hI5.bel t HIB.out)
    have HB5 := Lib.hid (HBB.out.trans (hI5.bel.mono HBB.out.size))
    have HTS := Lib.hid (fun q => tmSize_any t.size t (Nat.le_refl _) (by omega) (W5.drewN q) (IsTa.later (ext_drewN (Below.refl _ _) q) t HIT.out))
    rw [hbl] at n5 a5 ⊢
    clear hI5 HWK HWL HIB HBB HSB HCB HSC HWB HROW hbl c34 f34 h34
    generalize t.size = N at *
    have hwant : min (max (stop : Int) 1) (N : Int) = ((min (max stop 1) N : Nat) : Int) := by omega
    generalize min (max stop 1) N = X at *
    by_cases hN : N < stop
    all_goals
      have hNi : (N : Int) < (stop : Int) ∨ ¬ (N : Int) < (stop : Int) := by omega
      simp only [hN, decide_true, decide_false]
      first
        | (have hNi : (N : Int) < (stop : Int) := by omega)
        | (have hNi : ¬ (N : Int) < (stop : Int) := by omega)
      go_wp2_with fail
      go_quiet (first | (go_at_call 18; exact Calls.quiet_of_same (HTS.out _)) | (go_at_call 20; exact Calls.quiet_of_same (tmWalk_nil _ _)))
      go_wp2_with fail
      go_ret
      exact ⟨rfl, ext_drewN HB5.out _⟩
  · have hcd : decide (c ≤ 30) = false := by simp [hc]
    go_wp2_with fail
    go_ret
    exact ⟨rfl, HB2.out⟩
end Go.Proofs.YtpajpjocakhcdaaGreatDoor
