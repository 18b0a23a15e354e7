/-
  The statements' head, walked through the program: the document's example holds.
-/
import Derived.Test.YtampjjllpdljaaaDoorSetI
import Derived.Test.YtampjjllpdljaaaDoorSetO
set_option linter.unusedSimpArgs false
set_option linter.unusedVariables false
set_option maxRecDepth 100000
namespace Go.Proofs.YtampjjllpdljaaaDoor
open Go.RowKit Go.Shelf
attribute [local go_sem] Oper.semAt_some wide_fn wide_depth

theorem BS.runsFrom_skip (s : BS) (k : Nat) : ∀ n, k + n ≤ 256 → (∀ j, j < n → s.has (k + j) = false) → s.runsFrom k = s.runsFrom (k + n)
  | 0, _, _ => rfl
  | n + 1, h, hf => by
    rw [s.runsFrom_skip k n (by omega) (fun j hj => hf j (by omega)), s.runsFrom_no (k + n) (by omega) (hf n (by omega))]; rfl
def headS : BS := BS.ofL [97, 98, 99, 120]
theorem headS_runs : headS.runs = [⟨97, 99, by omega, by omega⟩, ⟨120, 120, by omega, by omega⟩] := by
  have e1 : headS.runEnd 97 = 99 := by
    rw [headS.runEnd_go 97 (by omega) (by decide +kernel), headS.runEnd_go 98 (by omega) (by decide +kernel), headS.runEnd_stop 99 (by decide +kernel)]
  have e2 : headS.runEnd 120 = 120 := headS.runEnd_stop 120 (by decide +kernel)
  unfold BS.runs
  rw [headS.runsFrom_skip 0 97 (by omega) (by decide +kernel), headS.runsFrom_yes 97 (by omega) (by decide +kernel)]
  simp only [e1]
  rw [headS.runsFrom_skip 100 20 (by omega) (by decide +kernel), headS.runsFrom_yes 120 (by omega) (by decide +kernel)]
  simp only [e2]
  rw [headS.runsFrom_skip 121 135 (by omega) (by decide +kernel), headS.runsFrom_end _ (by omega)]

/-- what the loop has put together behind some runs -/
def outL (pre : List Rn) : List UInt8 := pre.flatMap fun r => [UInt8.ofNat r.a, UInt8.ofNat r.b]
def outS (pre : List Rn) : ByteArray := ⟨(outL pre).toArray⟩
theorem outL_len (pre : List Rn) : (outL pre).length = 2 * pre.length := by
  induction pre with
  | nil => rfl
  | cons r pre ih => simp only [outL, List.flatMap_cons, List.length_append, List.length_cons, List.length_nil] at *; omega
theorem outS_size (pre : List Rn) : (outS pre).size = 2 * pre.length := outL_len pre
theorem head_out : ((outS [⟨97, 99, by omega, by omega⟩, ⟨120, 120, by omega, by omega⟩]).toList == [97, 99, 120, 120]) = true := by decide +kernel
theorem outS_snoc (pre : List Rn) (x : Rn) : outS pre ++ strOfNums [(x.a : Int), (x.b : Int)] = outS (pre ++ [x]) := by
  apply ByteArray.ext
  apply Array.ext'
  simp [outS, outL, strOfNums]
set_option maxRecDepth 100000 in
set_option maxHeartbeats 2000000 in
theorem head_any (w : World) :
    Calls Tryd.prog 5 #[] w fun e w' => e = .returned (.bool true) ∧ Below w.heap.size w w' := by
  refine (callsIn_wide (n := 5)).1 ?_
  refine callsIn_of_wp_marks Tryd.func5 rfl trivial ?_ rfl
  simp only [Tryd.ntmps5, List.size_toArray, List.length_nil, Nat.reduceSub, Array.replicate_succ, Array.replicate_zero, List.push_toArray, List.append_toArray, List.nil_append, List.cons_append]
  gi_wp2_with fail
  have hof := Of_any w.heap.size 0 4 [97, 98, 99, 120] (by decide) (by decide) (w.alloc (.cells #[.int .u8 97, .int .u8 98, .int .u8 99, .int .u8 120] 5)) (by
    intro i hi
    simp only [List.length_cons, List.length_nil] at hi
    match i, hi with
    | 0, _ => simp
    | 1, _ => simp
    | 2, _ => simp
    | 3, _ => simp)
  have hruns := headS_runs
  have hlen : headS.len = 4 := by decide +kernel
  have hlenA : (⟨fullW, fullW, fullW, fullW⟩ : BS).len = 256 := by decide +kernel
  change Calls _ _ _ _ (fun e w' => e = .returned (.agg #[.int .u64 (wN headS.a), .int .u64 (wN headS.b), .int .u64 (wN headS.c), .int .u64 (wN headS.d)]) ∧ _) at hof
  generalize headS = hs at *
  obtain ⟨a0, a1, a2, a3⟩ := hs
  dsimp only at hof
  refine (callsIn_wide.2 hof).mono ?_
  rintro e w1 ⟨rfl, hb1⟩
  clear hof
  have hz1 : w.heap.size + 1 ≤ w1.heap.size := by have := hb1.size; simp at this; omega
  have hB1 : Below w.heap.size w w1 := (ext_alloc (Below.refl _ w) _).trans (hb1.mono (by simp))
  clear hb1
  gi_wp2_with fail
  refine (callsIn_wide.2 (Len_any a0 a1 a2 a3 _)).mono ?_
  rintro e w' ⟨rfl, rfl⟩
  rw [hlen]
  gi_wp2_with fail
  refine (callsIn_wide.2 (All_any _)).mono ?_
  rintro e w2 ⟨rfl, hb2⟩
  have hz2 : w1.heap.size + 2 ≤ w2.heap.size := by have := hb2.size; simp at this; omega
  have hB2 : Below (w1.heap.size + 1) (w1.alloc (.cells #[.int .u64 (wN a0), .int .u64 (wN a1), .int .u64 (wN a2), .int .u64 (wN a3)] 24)) w2 := (((Below.refl _ _).alloc (by simp) _).trans (hb2.mono (by simp)))
  clear hb2
  have hbox2 : BoxS w2 w1.heap.size ⟨a0, a1, a2, a3⟩ := (BoxS.new w1 a0 a1 a2 a3).later hB2 (by omega)
  have hBw2 : Below w.heap.size w w2 := (ext_alloc hB1 _).trans (hB2.mono (by omega))
  clear hB2
  gi_wp2_with fail
  refine (callsIn_wide.2 (Len_any fullW fullW fullW fullW _)).mono ?_
  rintro e w3 ⟨rfl, hw3⟩
  have hb3 : Below w2.heap.size w2 w3 := by rw [hw3]; exact ext_alloc (Below.refl _ _) _
  clear hw3
  have hz3 : w1.heap.size < w3.heap.size := by have := hb3.size; omega
  have hz3' : w1.heap.size < w3.heap.size + 1 := by omega
  have hBw3 := ext_step hBw2 hb3
  obtain ⟨c0, c1, c2, c3⟩ := hbox2.later hb3 (by omega)
  clear hb3 hbox2
  dsimp only at c0 c1 c2 c3
  rw [hlenA]
  gi_wp2_with fail
  refine (callsIn_wide.2 (Runs_any a0 a1 a2 a3 _)).mono ?_
  rintro e w' ⟨rfl, rfl⟩
  gi_wp2_with fail
  have hB0 : Below w.heap.size w ((w3.alloc (.cells #[.string ⟨#[]⟩] 9)).alloc (.cells #[.int .u64 (wN a0), .int .u64 (wN a1), .int .u64 (wN a2), .int .u64 (wN a3)] 24)) := ext_alloc (ext_alloc hBw3 _) _
  have hBox : BoxS ((w3.alloc (.cells #[.string ⟨#[]⟩] 9)).alloc (.cells #[.int .u64 (wN a0), .int .u64 (wN a1), .int .u64 (wN a2), .int .u64 (wN a3)] 24)) (w3.heap.size + 1) ⟨a0, a1, a2, a3⟩ := by
    have := BoxS.new (w3.alloc (.cells #[.string ⟨#[]⟩] 9)) a0 a1 a2 a3
    rwa [World.size_alloc] at this
  have hw3 : w.heap.size ≤ w3.heap.size := hBw3.size
  refine wpIn_rangeFunc_ownF rfl (by omega) (gf := 31) (lb := #[.pointer (some ⟨w3.heap.size + 1, 0, none⟩)]) rfl trivial (enters_of Tryd.func31 (by kernel_rfl) rfl)
    (Runs_stops _ (w3.heap.size + 1) ⟨a0, a1, a2, a3⟩ _ (by simp) hBox) keepB_t (keepB_b (by simp)) (Below.refl _ _) (fun _ => rfl)
    (fun pre W => (W.cell? ⟨w3.heap.size, 0, none⟩ = some (.string (outS pre)) ∧ W.frozen? ⟨w3.heap.size, 0, none⟩ = false) ∧ (Below w.heap.size w W ∧ Below 0 ((w3.alloc (.cells #[.string ⟨#[]⟩] 9)).alloc (.cells #[.int .u64 (wN a0), .int .u64 (wN a1), .int .u64 (wN a2), .int .u64 (wN a3)] 24)) W))
    (fun _ _ _ => False)
    (OwnFrom.and (Own.from (fun s A B row hs hg hr => ⟨cell_kept hs.1 hg hr, (frozen_kept hs.1 hg hr).trans hs.2⟩) _) (OwnFrom.and (ownFrom_below (Nat.le_refl _) (by simp; omega)) (ownFrom_below (Nat.zero_le _) (Nat.zero_le _))))
    (fun _ _ _ _ _ hs _ _ => hs)
    ⟨⟨by simp [outS, outL], by simp⟩, hB0, Below.refl _ _⟩
    ?a1 ?assign ?body ?done ?stop
  case assign =>
    intro l x W K hK
    gi_wp2
    exact hK
  case body =>
    rintro l pre x W ⟨⟨hc, hf⟩, hB, hZ⟩ hlen
    have hbk : w3.heap.size + 1 < W.heap.size := by have := hZ.size; simp at this; omega
    have hcv := run_convert_bytes_arg (P := Tryd.prog) (W.alloc (.cells #[.int .u8 (x.a : Int), .int .u8 (x.b : Int)] 5)) 45 5 (by kernel_rfl) (by kernel_rfl) W.heap.size 0 2 2 [(x.a : Int), (x.b : Int)] rfl (by
      intro i hi
      match i, hi with
      | 0, _ => simp
      | 1, _ => simp) 9 (by kernel_rfl)
    have hcl : (W.alloc (.cells #[.int .u8 (x.a : Int), .int .u8 (x.b : Int)] 5)).cell? ⟨w3.heap.size, 0, none⟩ = some (.string (outS pre)) := by
      have hlt := World.block_lt_of_cell? W _ hc
      rw [World.cell?_alloc_old _ _ _ (by simp at hlt ⊢; omega)]; exact hc
    have hfl : (W.alloc (.cells #[.int .u8 (x.a : Int), .int .u8 (x.b : Int)] 5)).frozen? ⟨w3.heap.size, 0, none⟩ = false := by
      have hlt := World.block_lt_of_cell? W _ hc
      rw [World.frozen?_alloc_old _ _ _ (by simp at hlt ⊢; omega)]; exact hf
    have hlt := World.block_lt_of_cell? W _ hc
    dsimp only at hlt
    have hsz : ¬ 9223372036854775807 < (outS pre).size + (strOfNums [(x.a : Int), (x.b : Int)]).size := by
      rw [strOfNums_size, outS_size]; simp only [List.length_cons, List.length_nil]; omega
    have hbl : w3.heap.size + 1 < W.heap.size := hbk
    have hout : Hid (outS pre ++ strOfNums [(x.a : Int), (x.b : Int)] = outS (pre ++ [x])) := outS_snoc pre x
    gi_wp2
    refine ⟨?_, ?_, ⟨?_, ?_⟩, ?_, ?_⟩
    · repeat (first | exact KeepsOthers.refl _ | exact KeepsOthers.alloc _ _ | exact KeepsOthers.setCell _ _ _ | refine KeepsOthers.trans ?_ (KeepsOthers.alloc _ _) | refine KeepsOthers.trans ?_ (KeepsOthers.setCell _ _ _))
    · repeat (first | exact KeepB.refl _ _ | refine KeepB.alloc ?_ (by omega) _ | refine KeepB.setCell ?_ (by (try simp only [World.size_alloc]); omega) _ | refine KeepB.drew ?_ | refine KeepB.step ?_ (by omega) (by assumption))
    · rw [← hout.out]
      first
        | exact World.cell?_setCell_same' _ _ _ (by rw [hcl]; rfl)
        | (rw [World.cell?_alloc_old _ _ _ (by simp; omega)]; exact World.cell?_setCell_same' _ _ _ (by rw [hc]; rfl))
    · first
        | (rw [World.frozen?_setCell]; exact hfl)
        | (rw [World.frozen?_alloc_old _ _ _ (by simp; omega), World.frozen?_setCell]; exact hf)
    · have := hB.size
      refine hB.trans ?_
      repeat (first | exact Below.refl _ _ | refine Below.alloc ?_ (by (try simp only [World.size_setCell]); omega) _ | refine Below.setCell ?_ (by (try simp only [World.size_alloc]); omega) _)
    · refine hZ.trans ?_
      repeat (first | exact Below.refl _ _ | refine Below.alloc ?_ (Nat.zero_le _) _ | refine Below.setCell ?_ (Nat.zero_le _) _)
  case done =>
    rintro D xs W hD rfl ⟨⟨hc, hf⟩, hB, hZ⟩ hK
    rw [hruns] at hc
    have hq : ((outS [⟨97, 99, by omega, by omega⟩, ⟨120, 120, by omega, by omega⟩]).toList == [97, 99, 120, 120]) = true := head_out
    gi_wp2
    refine ⟨by simp, .inl ⟨_, _, rfl, run_takeDeferred hK, ?_⟩⟩
    exact ⟨_, results_tmp rfl _ _ _, rfl, hB.trans (belowK_b (w := w) (Nat.le_refl _) W D _ _ (by simp at hD; omega) hK rfl rfl)⟩
  case stop =>
    rintro D c pre W _ _ h _
    exact h.elim
end Go.Proofs.YtampjjllpdljaaaDoor
