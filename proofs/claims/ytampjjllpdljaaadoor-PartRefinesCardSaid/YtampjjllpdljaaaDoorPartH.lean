/-
  The head of the statements on parts, walked through the program: the document's example holds.
-/
import Derived.Test.YtampjjllpdljaaaDoorPartR
set_option linter.unusedSimpArgs false
set_option linter.unusedVariables false
set_option maxRecDepth 100000
namespace Go.Proofs.YtampjjllpdljaaaDoor
open Go.RowKit

theorem refL_head : refL [BS.ofL [97], BS.ofL [97, 98]] = [(BS.ofL [97, 98]).not, BS.ofL [97], BS.ofL [98]] := by decide +kernel
theorem len_head : (BS.ofL [97, 98]).not.len = 254 := by decide +kernel
theorem cells_head (w : World) (x y : BitVec 64) : True := trivial

set_option maxRecDepth 100000 in
set_option maxHeartbeats 8000000 in
theorem head2_any (w : World) : Calls Tryd.prog 15 #[] w fun e w' => e = .returned (.bool true) ∧ Below w.heap.size w w' := by
  have hR := refL_head
  have hL := len_head
  have hof1 : ∀ (W : World), Calls Tryd.prog 20 #[.slice (some ⟨W.heap.size, 0, none⟩) 1 1] (W.alloc (.cells #[.int .u8 97] 5)) fun e w' => e = .returned (.agg #[.int .u64 (wN (BS.ofL [97]).a), .int .u64 (wN (BS.ofL [97]).b), .int .u64 (wN (BS.ofL [97]).c), .int .u64 (wN (BS.ofL [97]).d)]) ∧ Below (W.alloc (.cells #[.int .u8 97] 5)).heap.size (W.alloc (.cells #[.int .u8 97] 5)) w' := fun W =>
    Of_any W.heap.size 0 1 [97] (by decide) (by decide) _ (by
      intro i hi; simp only [List.length_cons, List.length_nil] at hi
      match i, hi with
      | 0, _ => simp)
  have hof3 : ∀ (W : World), Calls Tryd.prog 20 #[.slice (some ⟨W.heap.size, 0, none⟩) 1 1] (W.alloc (.cells #[.int .u8 98] 5)) fun e w' => e = .returned (.agg #[.int .u64 (wN (BS.ofL [98]).a), .int .u64 (wN (BS.ofL [98]).b), .int .u64 (wN (BS.ofL [98]).c), .int .u64 (wN (BS.ofL [98]).d)]) ∧ Below (W.alloc (.cells #[.int .u8 98] 5)).heap.size (W.alloc (.cells #[.int .u8 98] 5)) w' := fun W =>
    Of_any W.heap.size 0 1 [98] (by decide) (by decide) _ (by
      intro i hi; simp only [List.length_cons, List.length_nil] at hi
      match i, hi with
      | 0, _ => simp)
  have hof2 : ∀ (W : World), Calls Tryd.prog 20 #[.slice (some ⟨W.heap.size, 0, none⟩) 2 2] (W.alloc (.cells #[.int .u8 97, .int .u8 98] 5)) fun e w' => e = .returned (.agg #[.int .u64 (wN (BS.ofL [97, 98]).a), .int .u64 (wN (BS.ofL [97, 98]).b), .int .u64 (wN (BS.ofL [97, 98]).c), .int .u64 (wN (BS.ofL [97, 98]).d)]) ∧ Below (W.alloc (.cells #[.int .u8 97, .int .u8 98] 5)).heap.size (W.alloc (.cells #[.int .u8 97, .int .u8 98] 5)) w' := fun W =>
    Of_any W.heap.size 0 2 [97, 98] (by decide) (by decide) _ (by
      intro i hi; simp only [List.length_cons, List.length_nil] at hi
      match i, hi with
      | 0, _ => simp
      | 1, _ => simp)
  generalize (BS.ofL [97, 98]).not = x at *
  generalize BS.ofL [97, 98] = z at *
  generalize BS.ofL [98] = y at *
  generalize BS.ofL [97] = v at *
  obtain ⟨x0, x1, x2, x3⟩ := x
  obtain ⟨y0, y1, y2, y3⟩ := y
  obtain ⟨z0, z1, z2, z3⟩ := z
  obtain ⟨v0, v1, v2, v3⟩ := v
  dsimp only at hof1 hof2 hof3
  have HR := Lib.hid hR; have HL := Lib.hid hL; have H1 := Lib.hid hof1; have H2 := Lib.hid hof2; have H3 := Lib.hid hof3
  clear hR hL hof1 hof2 hof3
  go_enter Tryd.func15, Tryd.ntmps15
  go_wp2_with fail
  refine (H1.out _).mono ?_
  rintro e W1 ⟨rfl, hb1⟩
  have hB1 := ext_step (below_alloc w _) hb1
  go_wp2_with fail
  refine (H2.out _).mono ?_
  rintro e W2 ⟨rfl, hb2⟩
  have hB2 := ext_step hB1 (ext_step (below_alloc W1 _) hb2)
  go_wp2_with fail
  have hrf := Refine_any (some ⟨W2.heap.size, 0, none⟩) W2.heap.size 0 2 [⟨v0, v1, v2, v3⟩, ⟨z0, z1, z2, z3⟩] (fun _ => rfl) (by simp) _ (sets_two W2 ⟨v0, v1, v2, v3⟩ ⟨z0, z1, z2, z3⟩)
  rw [HR.out] at hrf
  refine hrf.mono ?_
  rintro e W3 ⟨u, rfl, hown, hb3⟩
  have hB3 := ext_step hB2 (ext_step (below_alloc W2 _) hb3)
  clear hrf hb1 hb2 hb3 hB1 hB2
  rcases sets_of_owns hown with ⟨_, h0⟩ | ⟨g, cp, rfl, hgB, hgl, hsets⟩
  · exact absurd h0 (by simp)
  have s0 : SetAt W3 g 0 ⟨x0, x1, x2, x3⟩ := hsets 0 (by simp)
  have s1 : SetAt W3 g 4 ⟨v0, v1, v2, v3⟩ := hsets 1 (by simp)
  have s2 : SetAt W3 g 8 ⟨y0, y1, y2, y3⟩ := hsets 2 (by simp)
  clear hsets hown
  have heq := eq_words
  have q1 : ∀ x : BitVec 64, (wN x == wN x) = true := wN_refl
  go_wp2_with fail
  try simp only [List.length_cons, List.length_nil, Nat.zero_add, Nat.reduceAdd]
  obtain ⟨S, hS⟩ : ∃ S : World → Prop, ∀ W', S W' ↔ (SetAt W' g 0 ⟨x0, x1, x2, x3⟩ ∧ SetAt W' g 4 ⟨v0, v1, v2, v3⟩ ∧ SetAt W' g 8 ⟨y0, y1, y2, y3⟩) := ⟨_, fun _ => Iff.rfl⟩
  have HS := Lib.hid hS
  clear hS
  have cs : ∀ p : InC S, p.w.cell? ⟨g, 0, none⟩ = some (.int .u64 (wN x0)) ∧ p.w.cell? ⟨g, 1, none⟩ = some (.int .u64 (wN x1)) ∧ p.w.cell? ⟨g, 2, none⟩ = some (.int .u64 (wN x2)) ∧ p.w.cell? ⟨g, 3, none⟩ = some (.int .u64 (wN x3)) ∧ p.w.cell? ⟨g, 4, none⟩ = some (.int .u64 (wN v0)) ∧ p.w.cell? ⟨g, 5, none⟩ = some (.int .u64 (wN v1)) ∧ p.w.cell? ⟨g, 6, none⟩ = some (.int .u64 (wN v2)) ∧ p.w.cell? ⟨g, 7, none⟩ = some (.int .u64 (wN v3)) ∧ p.w.cell? ⟨g, 8, none⟩ = some (.int .u64 (wN y0)) ∧ p.w.cell? ⟨g, 9, none⟩ = some (.int .u64 (wN y1)) ∧ p.w.cell? ⟨g, 10, none⟩ = some (.int .u64 (wN y2)) ∧ p.w.cell? ⟨g, 11, none⟩ = some (.int .u64 (wN y3)) := fun p => ⟨((HS.out p.w).1 p.h).1.1, ((HS.out p.w).1 p.h).1.2.1, ((HS.out p.w).1 p.h).1.2.2.1, ((HS.out p.w).1 p.h).1.2.2.2, ((HS.out p.w).1 p.h).2.1.1, ((HS.out p.w).1 p.h).2.1.2.1, ((HS.out p.w).1 p.h).2.1.2.2.1, ((HS.out p.w).1 p.h).2.1.2.2.2, ((HS.out p.w).1 p.h).2.2.1, ((HS.out p.w).1 p.h).2.2.2.1, ((HS.out p.w).1 p.h).2.2.2.2.1, ((HS.out p.w).1 p.h).2.2.2.2.2⟩
  have hSl : ∀ W' : World, Below W3.heap.size W3 W' → S W' := fun W' hb => (HS.out _).2 ⟨s0.same (hb.block _ hgl), s1.same (hb.block _ hgl), s2.same (hb.block _ hgl)⟩
  have hD : Below W3.heap.size W3 W3.drew := (Below.refl _ _).drew
  have hne : Nonempty (InC S) := ⟨⟨_, hSl _ hD⟩⟩
  refine wp_region_mix S [0, 1, 2, 3, 4, 5, 6, 8, 9, 10, 11, 12, 13, 16, 17, 18, 19, 20, 21, 24, 25, 26] (List.range 27) (by kernel_rfl) (by kernel_rfl) (hSl _ hD) ?_
  simp only [List.range, List.range.loop]
  (repeat (refine wpMix_read rfl rfl ?_; go_big_quiet_step (fail); refine wpQuiet_nil ?_))
  refine wpMix_eff (k := true) rfl rfl (by kernel_rfl) ?_
  go_wp2_with (go_at_call 13; refine (Len_b x0 x1 x2 x3 _).mono ?_; rintro e W4 ⟨rfl, hb4⟩; rw [HL.out])
  have hD4 := ext_step hD hb4
  refine mixPost_keep (hSl _ hD4) ?_
  clear hD hb4
  (repeat (refine wpMix_read rfl rfl ?_; go_big_quiet_step (fail); refine wpQuiet_nil ?_))
  refine wpMix_eff (k := true) rfl rfl (by kernel_rfl) ?_
  go_wp2_with fail
  refine mixPost_keep (hSl _ (ext_step hD4 (below_alloc _ _))) ?_
  refine wpMix_eff (k := true) rfl rfl (by kernel_rfl) ?_
  go_wp2_with (go_at_call 20; refine (H1.out _).mono ?_; rintro e W5 ⟨rfl, hb5⟩)
  have hD5 := ext_step (ext_step hD4 (below_alloc _ _)) hb5
  refine mixPost_keep (hSl _ hD5) ?_
  clear hD4 hb5
  (repeat (refine wpMix_read rfl rfl ?_; go_big_quiet_step (fail); refine wpQuiet_nil ?_))
  refine wpMix_eff (k := true) rfl rfl (by kernel_rfl) ?_
  go_wp2_with fail
  refine mixPost_keep (hSl _ (ext_step hD5 (below_alloc _ _))) ?_
  refine wpMix_eff (k := true) rfl rfl (by kernel_rfl) ?_
  go_wp2_with (go_at_call 20; refine (H3.out _).mono ?_; rintro e W6 ⟨rfl, hb6⟩)
  have hD6 := ext_step (ext_step hD5 (below_alloc _ _)) hb6
  refine mixPost_keep (hSl _ hD6) ?_
  clear hD5 hb6
  (repeat (refine wpMix_read rfl rfl ?_; go_big_quiet_step (fail); refine wpQuiet_nil ?_))
  refine wpMix_nil ?_
  clear cs hne hSl
  go_wp2
  go_ret
  exact ⟨rfl, ext_step hB3 hD6⟩
end Go.Proofs.YtampjjllpdljaaaDoor
