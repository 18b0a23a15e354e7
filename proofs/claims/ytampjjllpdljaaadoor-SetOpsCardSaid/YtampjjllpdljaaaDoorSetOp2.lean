/-
  'SetOps', walked through the program, where the first set's least byte is 0.
-/
import Derived.Test.YtampjjllpdljaaaDoorSetW
import Derived.Test.YtampjjllpdljaaaDoorSetOp0
set_option linter.unusedSimpArgs false
set_option linter.unusedVariables false
set_option maxRecDepth 100000
namespace Go.Proofs.YtampjjllpdljaaaDoor
open Go.RowKit

set_option maxRecDepth 100000 in
set_option maxHeartbeats 16000000 in
theorem SetOps_case2 (w : World) (a0 a1 a2 a3 b0 b1 b2 b3 : BitVec 64) (hT : Tab w) (hcase : (⟨a0, a1, a2, a3⟩ : BS) ≠ BS.none) (hl0 : (⟨a0, a1, a2, a3⟩ : BS).least = 0) :
    Calls Tryd.prog 3 #[.agg #[.int .u64 (wN a0), .int .u64 (wN a1), .int .u64 (wN a2), .int .u64 (wN a3)], .agg #[.int .u64 (wN b0), .int .u64 (wN b1), .int .u64 (wN b2), .int .u64 (wN b3)]] w fun e w' => e = .returned (.bool true) ∧ Below w.heap.size w w' := by
  have hem : decide ((⟨a0, a1, a2, a3⟩ : BS) = BS.none) = false := decide_eq_false hcase
  clear hcase
  have HEM := Lib.hid hem
  clear hem
  have HL0 := Lib.hid hl0
  clear hl0
  go_enter Tryd.func3, Tryd.ntmps3
  go_wp2_with fail
  have hE : Below w.heap.size w ((w.alloc (.cells #[.int .u64 (wN a0), .int .u64 (wN a1), .int .u64 (wN a2), .int .u64 (wN a3)] 24)).alloc (.cells #[.int .u64 (wN b0), .int .u64 (wN b1), .int .u64 (wN b2), .int .u64 (wN b3)] 24)) := by repeat (first | exact Below.refl _ _ | assumption | refine Below.drew ?_ | refine ext_drewN ?_ _ | refine ext_alloc ?_ _ | refine Below.setCell ?_ (by (try simp only [World.size_alloc, World.size_setCell, World.size_drew]); omega) _ | refine ext_step ?_ (by assumption))
  have hS : BoxS ((w.alloc (.cells #[.int .u64 (wN a0), .int .u64 (wN a1), .int .u64 (wN a2), .int .u64 (wN a3)] 24)).alloc (.cells #[.int .u64 (wN b0), .int .u64 (wN b1), .int .u64 (wN b2), .int .u64 (wN b3)] 24)) w.heap.size ⟨a0, a1, a2, a3⟩ := by
    refine ⟨?_, ?_, ?_, ?_⟩ <;> simp [go_sem]
  have hU : BoxS ((w.alloc (.cells #[.int .u64 (wN a0), .int .u64 (wN a1), .int .u64 (wN a2), .int .u64 (wN a3)] 24)).alloc (.cells #[.int .u64 (wN b0), .int .u64 (wN b1), .int .u64 (wN b2), .int .u64 (wN b3)] 24)) (w.heap.size + 1) ⟨b0, b1, b2, b3⟩ := by
    refine ⟨?_, ?_, ?_, ?_⟩ <;> simp [go_sem]
  have hz : ((w.alloc (.cells #[.int .u64 (wN a0), .int .u64 (wN a1), .int .u64 (wN a2), .int .u64 (wN a3)] 24)).alloc (.cells #[.int .u64 (wN b0), .int .u64 (wN b1), .int .u64 (wN b2), .int .u64 (wN b3)] 24)).heap.size = w.heap.size + 2 := by simp
  refine (head_any _).mono ?_
  rintro e W ⟨rfl, hb⟩
  replace hE := ext_step hE hb
  replace hS := hS.later hb (by omega)
  replace hU := hU.later hb (by omega)
  have hz' : w.heap.size + 2 ≤ W.heap.size := by have := hb.size; omega
  clear hb hz
  obtain ⟨c0, c1, c2, c3⟩ := hS
  obtain ⟨c4, c5, c6, c7⟩ := hU
  dsimp only at c0 c1 c2 c3 c4 c5 c6 c7
  go_wp2_with fail
  refine (bools_any a0 a1 a2 a3 _).mono ?_
  rintro e W1 ⟨v, rfl, hH, hb1⟩
  obtain ⟨g, rfl, hrow⟩ := hH
  have HROW := Lib.hid hrow
  clear hrow
  have hg : g < W1.heap.size := World.block_lt_of_cell? W1 _ (HROW.out 0 (by omega))
  replace hE := ext_step hE hb1
  have HA : BoxS W1 w.heap.size ⟨a0, a1, a2, a3⟩ := BoxS.later ⟨c0, c1, c2, c3⟩ hb1 (by omega)
  have HB : BoxS W1 (w.heap.size + 1) ⟨b0, b1, b2, b3⟩ := BoxS.later ⟨c4, c5, c6, c7⟩ hb1 (by omega)
  have hz1 : w.heap.size + 2 ≤ W1.heap.size := by have := hb1.size; omega
  clear c0 c1 c2 c3 c4 c5 c6 c7 hb1 hz'
  obtain ⟨c0, c1, c2, c3⟩ := HA
  obtain ⟨c4, c5, c6, c7⟩ := HB
  dsimp only at c0 c1 c2 c3 c4 c5 c6 c7
  go_wp2_with fail
  refine (bools_any b0 b1 b2 b3 _).mono ?_
  rintro e W2 ⟨v, rfl, hH, hb2⟩
  obtain ⟨g', rfl, hrow'⟩ := hH
  have HROW' := Lib.hid hrow'
  have hg' : g' < W2.heap.size := World.block_lt_of_cell? W2 _ (hrow' 0 (by omega))
  clear hrow'
  replace hE := ext_step hE hb2
  have HA : BoxS W2 w.heap.size ⟨a0, a1, a2, a3⟩ := BoxS.later ⟨c0, c1, c2, c3⟩ hb2 (by omega)
  have HB : BoxS W2 (w.heap.size + 1) ⟨b0, b1, b2, b3⟩ := BoxS.later ⟨c4, c5, c6, c7⟩ hb2 (by omega)
  have hz2 : w.heap.size + 2 ≤ W2.heap.size := by have := hb2.size; omega
  have HRW : Hid (∀ i, i < 256 → W2.cell? ⟨g, i, none⟩ = some (.bool ((⟨a0, a1, a2, a3⟩ : BS).has i))) := Lib.hid fun i hi => (hb2.cell (p := ⟨g, i, none⟩) hg).trans (HROW.out i hi)
  have hg2 : g < W2.heap.size := Nat.lt_of_lt_of_le hg hb2.size
  clear c0 c1 c2 c3 c4 c5 c6 c7 hb2 hz1 HROW hg
  obtain ⟨c0, c1, c2, c3⟩ := HA
  obtain ⟨c4, c5, c6, c7⟩ := HB
  dsimp only at c0 c1 c2 c3 c4 c5 c6 c7
  have hmk := makeRow
  go_wp2_with fail
  clear hmk
  have hl3 : w.heap.size < W2.heap.size ∧ w.heap.size + 1 < W2.heap.size := by omega
  go_loopw [11, 12, 13] (fun n l b wr => OpsAt ⟨a0, a1, a2, a3⟩ ⟨b0, b1, b2, b3⟩ W2 n l b wr) (fun n l b _ => 256 - (intOf b).toNat)
  case atStart =>
    have hb1 := ext_alloc (Below.refl W2.heap.size W2) (.cells (rowB (fun _ => false) 0) 4)
    refine ⟨0, by omega, rfl, rfl, rfl, ext_alloc (ext_alloc (ext_alloc hb1 _) _) _, ?_, ?_, ?_, ?_⟩
    · exact (((Row.new W2 _).later (ext_alloc (Below.refl _ _) _)).later (ext_alloc (Below.refl _ _) _)).later (ext_alloc (Below.refl _ _) _)
    · have := Row.new (W2.alloc (.cells (rowB (fun _ => false) 0) 4)) (fun i => (⟨a0, a1, a2, a3⟩ : BS).has i || (⟨b0, b1, b2, b3⟩ : BS).has i)
      rw [World.size_alloc] at this
      exact (this.later (ext_alloc (Below.refl _ _) _)).later (ext_alloc (Below.refl _ _) _)
    · have := Row.new ((W2.alloc (.cells (rowB (fun _ => false) 0) 4)).alloc (.cells (rowB (fun _ => false) 0) 4)) (fun i => (⟨a0, a1, a2, a3⟩ : BS).has i && !(⟨b0, b1, b2, b3⟩ : BS).has i)
      rw [World.size_alloc, World.size_alloc] at this
      exact this.later (ext_alloc (Below.refl _ _) _)
    · have := Row.new (((W2.alloc (.cells (rowB (fun _ => false) 0) 4)).alloc (.cells (rowB (fun _ => false) 0) 4)).alloc (.cells (rowB (fun _ => false) 0) 4)) (fun i => !(⟨a0, a1, a2, a3⟩ : BS).has i)
      rw [World.size_alloc, World.size_alloc, World.size_alloc] at this
      exact this
  case round =>
    obtain ⟨k, hk, rfl, rfl, rfl, hb, r1, r2, r3, r4⟩ := hrel
    by_cases hlt : k < 256
    · have hk255 : (k : Int) ≤ 255 := by omega
      have hx : wr.cell? ⟨g, k, none⟩ = some (.bool ((⟨a0, a1, a2, a3⟩ : BS).has k)) := (hb.cell (p := ⟨g, k, none⟩) hg2).trans (HRW.out k hlt)
      have hy : wr.cell? ⟨g', k, none⟩ = some (.bool ((⟨b0, b1, b2, b3⟩ : BS).has k)) := (hb.cell (p := ⟨g', k, none⟩) hg').trans (HROW'.out k hlt)
      obtain ⟨e1, f1⟩ := r1 k hlt
      obtain ⟨e2, f2⟩ := r2 k hlt
      obtain ⟨e3, f3⟩ := r3 k hlt
      obtain ⟨e4, f4⟩ := r4 k hlt
      simp only [Nat.lt_irrefl, decide_false, Bool.false_and] at e1 e2 e3 e4
      have R1 := Lib.hid r1
      have R2 := Lib.hid r2
      have R3 := Lib.hid r3
      have R4 := Lib.hid r4
      have HC := Lib.hid (And.intro (cntTo_le ⟨a0, a1, a2, a3⟩ k) (lstTo_lt ⟨a0, a1, a2, a3⟩ k))
      have HC1 : Hid (cntTo ⟨a0, a1, a2, a3⟩ (k + 1) = cntTo ⟨a0, a1, a2, a3⟩ k + (if (⟨a0, a1, a2, a3⟩ : BS).has k then 1 else 0)) := Lib.hid rfl
      have HL1 : Hid (lstTo ⟨a0, a1, a2, a3⟩ (k + 1) = if lstTo ⟨a0, a1, a2, a3⟩ k < 0 ∧ (⟨a0, a1, a2, a3⟩ : BS).has k = true then (k : Int) else lstTo ⟨a0, a1, a2, a3⟩ k) := Lib.hid rfl
      clear r1 r2 r3 r4
      have n1 : g ≠ W2.heap.size := by omega
      have n2 : g ≠ W2.heap.size + 1 := by omega
      have n3 : g ≠ W2.heap.size + 1 + 1 := by omega
      have n4 : g ≠ W2.heap.size + 1 + 1 + 1 := by omega
      have m1 : g' ≠ W2.heap.size := by omega
      have m2 : g' ≠ W2.heap.size + 1 := by omega
      have m3 : g' ≠ W2.heap.size + 1 + 1 := by omega
      have m4 : g' ≠ W2.heap.size + 1 + 1 + 1 := by omega
      generalize cntTo ⟨a0, a1, a2, a3⟩ k = cn at *
      generalize lstTo ⟨a0, a1, a2, a3⟩ k = ls at *
      have hcn : (cn : Int) ≤ 255 := by have := HC.out.1; omega
      cases hs : (⟨a0, a1, a2, a3⟩ : BS).has k with
      | true =>
        rw [hs] at hx
        have HS := Lib.hid hs
        clear hs
        by_cases hl : ls < 0
        · have HLS := Lib.hid hl
          cases ht : (⟨b0, b1, b2, b3⟩ : BS).has k with
          | true =>
            rw [ht] at hy
            have HT2 := Lib.hid ht
            clear ht
            go_wp2
            refine ⟨⟨k + 1, by omega, by push_cast; rfl, ?_, ?_, (((hb.setCell (by simp <;> omega) _).setCell (by simp <;> omega) _).setCell (by simp <;> omega) _).setCell (by simp <;> omega) _, ?_, ?_, ?_, ?_⟩, by simp [intOf]; omega⟩
            · rw [HC1.out, HS.out]; simp
            · rw [HL1.out, HS.out]; simp [HLS.out]
            · exact (((R1.out.put hlt (by simp only [HS.out, HT2.out]; rfl)).other (by omega) _).other (by omega) _).other (by omega) _
            · exact (((R2.out.other (by omega) _).put hlt (by simp only [HS.out, HT2.out]; rfl)).other (by omega) _).other (by omega) _
            · exact (((R3.out.other (by omega) _).other (by omega) _).put hlt (by simp only [HS.out, HT2.out]; rfl)).other (by omega) _
            · exact (((R4.out.other (by omega) _).other (by omega) _).other (by omega) _).put hlt (by simp only [HS.out, HT2.out]; rfl)
          | false =>
            rw [ht] at hy
            have HT2 := Lib.hid ht
            clear ht
            go_wp2
            refine ⟨⟨k + 1, by omega, by push_cast; rfl, ?_, ?_, (((hb.setCell (by simp <;> omega) _).setCell (by simp <;> omega) _).setCell (by simp <;> omega) _).setCell (by simp <;> omega) _, ?_, ?_, ?_, ?_⟩, by simp [intOf]; omega⟩
            · rw [HC1.out, HS.out]; simp
            · rw [HL1.out, HS.out]; simp [HLS.out]
            · exact (((R1.out.put hlt (by simp only [HS.out, HT2.out]; rfl)).other (by omega) _).other (by omega) _).other (by omega) _
            · exact (((R2.out.other (by omega) _).put hlt (by simp only [HS.out, HT2.out]; rfl)).other (by omega) _).other (by omega) _
            · exact (((R3.out.other (by omega) _).other (by omega) _).put hlt (by simp only [HS.out, HT2.out]; rfl)).other (by omega) _
            · exact (((R4.out.other (by omega) _).other (by omega) _).other (by omega) _).put hlt (by simp only [HS.out, HT2.out]; rfl)
        · have HLS := Lib.hid hl
          have hl' : 0 ≤ ls := by omega
          clear hl
          cases ht : (⟨b0, b1, b2, b3⟩ : BS).has k with
          | true =>
            rw [ht] at hy
            have HT2 := Lib.hid ht
            clear ht
            go_wp2
            refine ⟨⟨k + 1, by omega, by push_cast; rfl, ?_, ?_, (((hb.setCell (by simp <;> omega) _).setCell (by simp <;> omega) _).setCell (by simp <;> omega) _).setCell (by simp <;> omega) _, ?_, ?_, ?_, ?_⟩, by simp [intOf]; omega⟩
            · rw [HC1.out, HS.out]; simp
            · rw [HL1.out, HS.out]; simp [HLS.out]
            · exact (((R1.out.put hlt (by simp only [HS.out, HT2.out]; rfl)).other (by omega) _).other (by omega) _).other (by omega) _
            · exact (((R2.out.other (by omega) _).put hlt (by simp only [HS.out, HT2.out]; rfl)).other (by omega) _).other (by omega) _
            · exact (((R3.out.other (by omega) _).other (by omega) _).put hlt (by simp only [HS.out, HT2.out]; rfl)).other (by omega) _
            · exact (((R4.out.other (by omega) _).other (by omega) _).other (by omega) _).put hlt (by simp only [HS.out, HT2.out]; rfl)
          | false =>
            rw [ht] at hy
            have HT2 := Lib.hid ht
            clear ht
            go_wp2
            refine ⟨⟨k + 1, by omega, by push_cast; rfl, ?_, ?_, (((hb.setCell (by simp <;> omega) _).setCell (by simp <;> omega) _).setCell (by simp <;> omega) _).setCell (by simp <;> omega) _, ?_, ?_, ?_, ?_⟩, by simp [intOf]; omega⟩
            · rw [HC1.out, HS.out]; simp
            · rw [HL1.out, HS.out]; simp [HLS.out]
            · exact (((R1.out.put hlt (by simp only [HS.out, HT2.out]; rfl)).other (by omega) _).other (by omega) _).other (by omega) _
            · exact (((R2.out.other (by omega) _).put hlt (by simp only [HS.out, HT2.out]; rfl)).other (by omega) _).other (by omega) _
            · exact (((R3.out.other (by omega) _).other (by omega) _).put hlt (by simp only [HS.out, HT2.out]; rfl)).other (by omega) _
            · exact (((R4.out.other (by omega) _).other (by omega) _).other (by omega) _).put hlt (by simp only [HS.out, HT2.out]; rfl)
      | false =>
        rw [hs] at hx
        have HS := Lib.hid hs
        have HLS : Hid (True) := Lib.hid trivial
        clear hs
        cases ht : (⟨b0, b1, b2, b3⟩ : BS).has k with
        | true =>
          rw [ht] at hy
          have HT2 := Lib.hid ht
          clear ht
          go_wp2
          refine ⟨⟨k + 1, by omega, by push_cast; rfl, ?_, ?_, (((hb.setCell (by simp <;> omega) _).setCell (by simp <;> omega) _).setCell (by simp <;> omega) _).setCell (by simp <;> omega) _, ?_, ?_, ?_, ?_⟩, by simp [intOf]; omega⟩
          · rw [HC1.out, HS.out]; simp
          · rw [HL1.out, HS.out]; simp [HLS.out]
          · exact (((R1.out.put hlt (by simp only [HS.out, HT2.out]; rfl)).other (by omega) _).other (by omega) _).other (by omega) _
          · exact (((R2.out.other (by omega) _).put hlt (by simp only [HS.out, HT2.out]; rfl)).other (by omega) _).other (by omega) _
          · exact (((R3.out.other (by omega) _).other (by omega) _).put hlt (by simp only [HS.out, HT2.out]; rfl)).other (by omega) _
          · exact (((R4.out.other (by omega) _).other (by omega) _).other (by omega) _).put hlt (by simp only [HS.out, HT2.out]; rfl)
        | false =>
          rw [ht] at hy
          have HT2 := Lib.hid ht
          clear ht
          go_wp2
          refine ⟨⟨k + 1, by omega, by push_cast; rfl, ?_, ?_, (((hb.setCell (by simp <;> omega) _).setCell (by simp <;> omega) _).setCell (by simp <;> omega) _).setCell (by simp <;> omega) _, ?_, ?_, ?_, ?_⟩, by simp [intOf]; omega⟩
          · rw [HC1.out, HS.out]; simp
          · rw [HL1.out, HS.out]; simp [HLS.out]
          · exact (((R1.out.put hlt (by simp only [HS.out, HT2.out]; rfl)).other (by omega) _).other (by omega) _).other (by omega) _
          · exact (((R2.out.other (by omega) _).put hlt (by simp only [HS.out, HT2.out]; rfl)).other (by omega) _).other (by omega) _
          · exact (((R3.out.other (by omega) _).other (by omega) _).put hlt (by simp only [HS.out, HT2.out]; rfl)).other (by omega) _
          · exact (((R4.out.other (by omega) _).other (by omega) _).other (by omega) _).put hlt (by simp only [HS.out, HT2.out]; rfl)
    · obtain rfl : k = 256 := by omega
      have HA : BoxS wr w.heap.size ⟨a0, a1, a2, a3⟩ := BoxS.later ⟨c0, c1, c2, c3⟩ hb (by omega)
      have HB : BoxS wr (w.heap.size + 1) ⟨b0, b1, b2, b3⟩ := BoxS.later ⟨c4, c5, c6, c7⟩ hb (by omega)
      have hzr : W2.heap.size + 4 ≤ wr.heap.size := by have := World.block_lt_of_cell? wr _ (r4 0 (by omega)).1; dsimp only at this; omega
      have h1 : HoldsB wr (.slice (some ⟨g, 0, none⟩) 256 256) (⟨a0, a1, a2, a3⟩ : BS).has := ⟨g, rfl, fun i hi => (hb.cell (p := ⟨g, i, none⟩) hg2).trans (HRW.out i hi)⟩
      have h2 : HoldsB wr (.slice (some ⟨g', 0, none⟩) 256 256) (⟨b0, b1, b2, b3⟩ : BS).has := ⟨g', rfl, fun i hi => (hb.cell (p := ⟨g', i, none⟩) hg').trans (HROW'.out i hi)⟩
      have h3 : HoldsB wr (.slice (some ⟨W2.heap.size, 0, none⟩) 256 256) (fun i => (⟨a0, a1, a2, a3⟩ : BS).has i && (⟨b0, b1, b2, b3⟩ : BS).has i) := ⟨_, rfl, fun i hi => by rw [(r1 i hi).1]; simp [hi]⟩
      have h4 : HoldsB wr (.slice (some ⟨W2.heap.size + 1, 0, none⟩) 256 256) (fun i => (⟨a0, a1, a2, a3⟩ : BS).has i || (⟨b0, b1, b2, b3⟩ : BS).has i) := ⟨_, rfl, fun i hi => by rw [(r2 i hi).1]; simp [hi]⟩
      have h5 : HoldsB wr (.slice (some ⟨W2.heap.size + 1 + 1, 0, none⟩) 256 256) (fun i => (⟨a0, a1, a2, a3⟩ : BS).has i && !(⟨b0, b1, b2, b3⟩ : BS).has i) := ⟨_, rfl, fun i hi => by rw [(r3 i hi).1]; simp [hi]⟩
      have h6 : HoldsB wr (.slice (some ⟨W2.heap.size + 1 + 1 + 1, 0, none⟩) 256 256) (fun i => !(⟨a0, a1, a2, a3⟩ : BS).has i) := ⟨_, rfl, fun i hi => by rw [(r4 i hi).1]; simp [hi]⟩
      have hEr := ext_step hE hb
      have hTr : Tab wr := hT.later hEr
      clear r1 r2 r3 r4 c0 c1 c2 c3 c4 c5 c6 c7 hb HRW HROW' hg2 hg' hE hT
      obtain ⟨c0, c1, c2, c3⟩ := HA
      obtain ⟨c4, c5, c6, c7⟩ := HB
      dsimp only at c0 c1 c2 c3 c4 c5 c6 c7
      have HH : Rows6 ⟨a0, a1, a2, a3⟩ ⟨b0, b1, b2, b3⟩ g g' W2.heap.size wr := ⟨h1, h2, h3, h4, h5, h6⟩
      clear h1 h2 h3 h4 h5 h6 hlt
      have HTR := Lib.hid hTr
      clear hTr
      go_wp2_with fail
      refine (Least_any a0 a1 a2 a3 _ HTR.out).mono ?_
      rintro e W3 ⟨rfl, hb3⟩
      have HBX : Box2 w.heap.size ⟨a0, a1, a2, a3⟩ ⟨b0, b1, b2, b3⟩ wr := ⟨⟨c0, c1, c2, c3⟩, ⟨c4, c5, c6, c7⟩, by omega⟩
      replace HBX := HBX.later hb3
      replace HH := HH.later hb3
      have hE3 := ext_step hEr hb3
      clear c0 c1 c2 c3 c4 c5 c6 c7 hEr hb3 HTR
      obtain ⟨c0, c1, c2, c3, c4, c5, c6, c7⟩ := HBX.conj
      dsimp only at c0 c1 c2 c3 c4 c5 c6 c7
      obtain ⟨x0, x1, x2, x3, HAnd, E3⟩ : ∃ x0 x1 x2 x3 : BitVec 64, Hid (∀ w, Calls Tryd.prog 9 #[.agg #[.int .u64 (wN a0), .int .u64 (wN a1), .int .u64 (wN a2), .int .u64 (wN a3)], .agg #[.int .u64 (wN b0), .int .u64 (wN b1), .int .u64 (wN b2), .int .u64 (wN b3)]] w fun e w' => e = .returned (.agg #[.int .u64 (wN x0), .int .u64 (wN x1), .int .u64 (wN x2), .int .u64 (wN x3)]) ∧ Below w.heap.size w w') ∧ Hid (BS.eqv ⟨x0, x1, x2, x3⟩ (fun i => (⟨a0, a1, a2, a3⟩ : BS).has i && (⟨b0, b1, b2, b3⟩ : BS).has i) = true) :=
        ⟨a0 &&& b0, a1 &&& b1, a2 &&& b2, a3 &&& b3, Lib.hid (fun w => And_any a0 a1 a2 a3 b0 b1 b2 b3 w), Lib.hid (eqv_and' a0 a1 a2 a3 b0 b1 b2 b3)⟩
      obtain ⟨y0, y1, y2, y3, HOr, E4⟩ : ∃ y0 y1 y2 y3 : BitVec 64, Hid (∀ w, Calls Tryd.prog 10 #[.agg #[.int .u64 (wN a0), .int .u64 (wN a1), .int .u64 (wN a2), .int .u64 (wN a3)], .agg #[.int .u64 (wN b0), .int .u64 (wN b1), .int .u64 (wN b2), .int .u64 (wN b3)]] w fun e w' => e = .returned (.agg #[.int .u64 (wN y0), .int .u64 (wN y1), .int .u64 (wN y2), .int .u64 (wN y3)]) ∧ Below w.heap.size w w') ∧ Hid (BS.eqv ⟨y0, y1, y2, y3⟩ (fun i => (⟨a0, a1, a2, a3⟩ : BS).has i || (⟨b0, b1, b2, b3⟩ : BS).has i) = true) :=
        ⟨a0 ||| b0, a1 ||| b1, a2 ||| b2, a3 ||| b3, Lib.hid (fun w => Or_any a0 a1 a2 a3 b0 b1 b2 b3 w), Lib.hid (eqv_or' a0 a1 a2 a3 b0 b1 b2 b3)⟩
      obtain ⟨z0, z1, z2, z3, HMinus, E5⟩ : ∃ z0 z1 z2 z3 : BitVec 64, Hid (∀ w, Calls Tryd.prog 11 #[.agg #[.int .u64 (wN a0), .int .u64 (wN a1), .int .u64 (wN a2), .int .u64 (wN a3)], .agg #[.int .u64 (wN b0), .int .u64 (wN b1), .int .u64 (wN b2), .int .u64 (wN b3)]] w fun e w' => e = .returned (.agg #[.int .u64 (wN z0), .int .u64 (wN z1), .int .u64 (wN z2), .int .u64 (wN z3)]) ∧ Below w.heap.size w w') ∧ Hid (BS.eqv ⟨z0, z1, z2, z3⟩ (fun i => (⟨a0, a1, a2, a3⟩ : BS).has i && !(⟨b0, b1, b2, b3⟩ : BS).has i) = true) :=
        ⟨a0 &&& ~~~b0, a1 &&& ~~~b1, a2 &&& ~~~b2, a3 &&& ~~~b3, Lib.hid (fun w => Minus_any a0 a1 a2 a3 b0 b1 b2 b3 w), Lib.hid (eqv_minus' a0 a1 a2 a3 b0 b1 b2 b3)⟩
      obtain ⟨v0, v1, v2, v3, HNot, E6⟩ : ∃ v0 v1 v2 v3 : BitVec 64, Hid (∀ w, Calls Tryd.prog 12 #[.agg #[.int .u64 (wN a0), .int .u64 (wN a1), .int .u64 (wN a2), .int .u64 (wN a3)]] w fun e w' => e = .returned (.agg #[.int .u64 (wN v0), .int .u64 (wN v1), .int .u64 (wN v2), .int .u64 (wN v3)]) ∧ Below w.heap.size w w') ∧ Hid (BS.eqv ⟨v0, v1, v2, v3⟩ (fun i => !(⟨a0, a1, a2, a3⟩ : BS).has i) = true) :=
        ⟨~~~a0, ~~~a1, ~~~a2, ~~~a3, Lib.hid (fun w => Not_any a0 a1 a2 a3 w), Lib.hid (eqv_not' a0 a1 a2 a3)⟩
      have E1 : Hid ((⟨a0, a1, a2, a3⟩ : BS).eqv (⟨a0, a1, a2, a3⟩ : BS).has = true) := Lib.hid (eqv_self _)
      obtain ⟨q, hq, E2⟩ : ∃ q : Bool, (wN a0 == wN b0 && (wN a1 == wN b1 && (wN a2 == wN b2 && wN a3 == wN b3))) = q ∧ Hid ((⟨a0, a1, a2, a3⟩ : BS).eqv (⟨b0, b1, b2, b3⟩ : BS).has = q) := ⟨_, words_eqv a0 a1 a2 a3 b0 b1 b2 b3, Lib.hid rfl⟩
      have HSAME := Lib.hid same_any
      have hfacts := ops_facts ⟨a0, a1, a2, a3⟩
      have HLen : Hid (∀ w, Calls Tryd.prog 13 #[.agg #[.int .u64 (wN a0), .int .u64 (wN a1), .int .u64 (wN a2), .int .u64 (wN a3)]] w fun e w' => e = .returned (.int .i64 (cntTo ⟨a0, a1, a2, a3⟩ 256 : Nat)) ∧ Below w.heap.size w w') := Lib.hid (fun w => by
        rw [hfacts.1]; exact (Len_any a0 a1 a2 a3 w).mono fun _ _ h => ⟨h.1, by rw [h.2]; exact ext_alloc (Below.refl _ _) _⟩)
      have HEmpty : Hid (∀ w, Calls Tryd.prog 14 #[.agg #[.int .u64 (wN a0), .int .u64 (wN a1), .int .u64 (wN a2), .int .u64 (wN a3)]] w fun e w' => e = .returned (.bool (decide ((⟨a0, a1, a2, a3⟩ : BS) = BS.none))) ∧ Below w.heap.size w w') := Lib.hid (fun w =>
        (Empty_any a0 a1 a2 a3 w).mono fun _ _ h => ⟨h.1, by rw [h.2]; exact ext_alloc (Below.refl _ _) _⟩)
      have hcl : (cntTo ⟨a0, a1, a2, a3⟩ 256 : Int) ≤ 256 := by have := cntTo_le ⟨a0, a1, a2, a3⟩ 256; omega
      have hd : decide ((⟨a0, a1, a2, a3⟩ : BS) ≠ BS.none) = !decide ((⟨a0, a1, a2, a3⟩ : BS) = BS.none) := by simp
      rw [hd]
      clear hd
      obtain ⟨-, hf1, hf2, hf3⟩ := hfacts
      have hem := HEM.out
      clear HEM
      have hl0 := HL0.out
      clear HL0
      generalize cntTo ⟨a0, a1, a2, a3⟩ 256 = cn at *
      generalize lstTo ⟨a0, a1, a2, a3⟩ 256 = ls at *
      generalize (⟨a0, a1, a2, a3⟩ : BS).least = kk at *
      generalize decide ((⟨a0, a1, a2, a3⟩ : BS) = BS.none) = em at *
      have hk255 : (kk : Int) ≤ 255 := by omega
      have heq := eq_words
      have HF3 := Lib.hid hf3
      have HF2 := Lib.hid hf2
      clear hf1 hf2 hf3
      subst hem
      obtain ⟨hc0, rfl⟩ := HF3.out rfl
      subst hl0
      have hc1 : (0 : Int) < cn := by omega
      have hc2 : ((cn : Int) == 0) = false := by rw [beq_eq_false_iff_ne]; omega
      have hc3 : 0 < cn := hc0
      clear hc0 HF3 HF2
      go_wp2_with fail
      simp only [List.append]
      clear c0 c1 c2 c3 c4 c5 c6 c7
      replace HBX := HBX.drew
      replace hE3 := hE3.drew
      replace HH := HH.later (Below.refl _ _).drew
      go_region_held3 (fun W' => W'.cell? ⟨w.heap.size, 0, none⟩ = some (.int .u64 (wN a0)) ∧ W'.cell? ⟨w.heap.size, 1, none⟩ = some (.int .u64 (wN a1)) ∧ W'.cell? ⟨w.heap.size, 2, none⟩ = some (.int .u64 (wN a2)) ∧ W'.cell? ⟨w.heap.size, 3, none⟩ = some (.int .u64 (wN a3)) ∧ W'.cell? ⟨w.heap.size + 1, 0, none⟩ = some (.int .u64 (wN b0)) ∧ W'.cell? ⟨w.heap.size + 1, 1, none⟩ = some (.int .u64 (wN b1)) ∧ W'.cell? ⟨w.heap.size + 1, 2, none⟩ = some (.int .u64 (wN b2)) ∧ W'.cell? ⟨w.heap.size + 1, 3, none⟩ = some (.int .u64 (wN b3))) (exact HBX.conj) (((first | (go_at_call 8; refine (HSAME.out _ _ _ _ _ _ _ (by first | exact HH.r1 | exact HH.r2 | exact HH.r3 | exact HH.r4 | exact HH.r5 | exact HH.r6)).mono ?_) | (go_at_call 9; refine (HAnd.out _).mono ?_) | (go_at_call 10; refine (HOr.out _).mono ?_) | (go_at_call 11; refine (HMinus.out _).mono ?_) | (go_at_call 12; refine (HNot.out _).mono ?_) | (go_at_call 14; refine (HEmpty.out _).mono ?_) | (go_at_call 13; refine (HLen.out _).mono ?_)); rintro e W ⟨he, hb⟩; (try (first | rw [E1.out] at he | rw [E2.out] at he | rw [E3.out] at he | rw [E4.out] at he | rw [E5.out] at he | rw [E6.out] at he)); subst he; replace HBX := HBX.later hb; replace hE3 := ext_step hE3 hb; replace HH := HH.later hb; clear hb))
      all_goals (
        go_wp2
        go_ret
        exact ⟨rfl, hE3⟩)
end Go.Proofs.YtampjjllpdljaaaDoor
