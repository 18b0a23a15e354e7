/-
  One term behind another one as they are written, walked through the program.
-/
import Derived.Test.YtpajpjocakhcdaaGreatDoorLnS
set_option linter.unusedSimpArgs false
set_option linter.unusedVariables false
set_option maxRecDepth 100000
set_option linter.unnecessarySimpa false
namespace Go.Proofs.YtpajpjocakhcdaaGreatDoor
open Go.RowKit
set_option maxRecDepth 100000 in
set_option maxHeartbeats 2000000 in
theorem in_of (b at_ : Nat) (hat : at_ ≤ 4) (out : List UInt8) (w : World) (hl : Calls Tryz.prog 94 #[.pointer (some ⟨b, 0, none⟩)] w fun e w' => e = .returned (.int .i64 4) ∧ w' = w)
   (hs : Calls Tryz.prog 16 #[.pointer (some ⟨b, 0, none⟩)] w fun e w' => e = .returned (.string ⟨out.toArray⟩) ∧ Below w.heap.size w w') :
    Calls Tryz.prog 57 #[.pointer (some ⟨b, 0, none⟩), .int .i64 at_] w fun e w' => e = .returned (.string ⟨out.toArray⟩) ∧ Below w.heap.size w w' := by
  have HL := Lib.hid hl
  have HS := Lib.hid hs
  clear hl hs
  go_enter Tryz.func57, Tryz.ntmps57
  go_wp2_with fail
  refine HL.out.mono ?_
  rintro e w' ⟨rfl, rfl⟩
  go_wp2_with fail
  refine HS.out.mono ?_
  rintro e w1 ⟨rfl, hb⟩
  go_wp2_with fail
  go_ret
  exact ⟨rfl, hb⟩
set_option maxRecDepth 100000 in
set_option maxHeartbeats 4000000 in
theorem pair_of (b k cap b0 b1 : Nat) (re : Value) (o0 o1 : List UInt8) (h0l : o0.length ≤ 1000) (h1l : o1.length ≤ 1000) (w : World) (h : TermAt w b 8 re [] (.slice (some ⟨k, 0, none⟩) 2 cap)) (h0 : w.cell? ⟨k, 0, none⟩ = some (.pointer (some ⟨b0, 0, none⟩))) (h1 : w.cell? ⟨k, 1, none⟩ = some (.pointer (some ⟨b1, 0, none⟩)))
   (hi0 : ∀ W, Below w.heap.size w W → Calls Tryz.prog 57 #[.pointer (some ⟨b0, 0, none⟩), .int .i64 1] W fun e w' => e = .returned (.string ⟨o0.toArray⟩) ∧ Below W.heap.size W w')
   (hi1 : ∀ W, Below w.heap.size w W → Calls Tryz.prog 57 #[.pointer (some ⟨b1, 0, none⟩), .int .i64 2] W fun e w' => e = .returned (.string ⟨o1.toArray⟩) ∧ Below W.heap.size W w') :
    Calls Tryz.prog 56 #[.pointer (some ⟨b, 0, none⟩), .string ⟨#[32, 46, 32]⟩, .int .i64 1] w fun e w' => e = .returned (.string ⟨(o0 ++ [32, 46, 32] ++ o1).toArray⟩) ∧ Below w.heap.size w w' := by
  have hk : w.cell? ⟨b, 6, none⟩ = some (.slice (some ⟨k, 0, none⟩) 2 cap) := by rw [cell_of_row _ _ _ _ _ _ h]; rfl
  have HI0 := Lib.hid hi0
  have HI1 := Lib.hid hi1
  clear hi0 hi1 h
  obtain ⟨S, hS⟩ : ∃ S : World → Prop, ∀ W', S W' ↔ Below w.heap.size w W' := ⟨_, fun _ => Iff.rfl⟩
  have HS := Lib.hid hS
  have cs : ∀ p : InC S, p.w.cell? ⟨b, 6, none⟩ = some (.slice (some ⟨k, 0, none⟩) 2 cap) ∧ p.w.cell? ⟨k, 0, none⟩ = some (.pointer (some ⟨b0, 0, none⟩)) ∧ p.w.cell? ⟨k, 1, none⟩ = some (.pointer (some ⟨b1, 0, none⟩)) := fun p => by
    have hb := (hS p.w).1 p.h
    exact ⟨by rw [hb.cell (p := ⟨b, 6, none⟩) (World.block_lt_of_cell? w _ hk)]; exact hk, by rw [hb.cell (p := ⟨k, 0, none⟩) (World.block_lt_of_cell? w _ h0)]; exact h0, by rw [hb.cell (p := ⟨k, 1, none⟩) (World.block_lt_of_cell? w _ h1)]; exact h1⟩
  have hS0 : S w.drew := (hS _).2 (Below.refl _ _).drew
  have hne : Nonempty (InC S) := ⟨⟨_, hS0⟩⟩
  have HC0 : Hid (∀ p : InC S, Calls Tryz.prog 57 #[.pointer (some ⟨b0, 0, none⟩), .int .i64 1] p.w fun e w' => e = .returned (.string ⟨o0.toArray⟩) ∧ ∃ q : InC S, w' = q.w) := fun p => (HI0.out p.w ((hS _).1 p.h)).mono fun e w' ⟨he, hb⟩ => ⟨he, ⟨w', (hS _).2 (ext_step ((hS _).1 p.h) hb)⟩, rfl⟩
  have HC1 : Hid (∀ p : InC S, Calls Tryz.prog 57 #[.pointer (some ⟨b1, 0, none⟩), .int .i64 2] p.w fun e w' => e = .returned (.string ⟨o1.toArray⟩) ∧ ∃ q : InC S, w' = q.w) := fun p => (HI1.out p.w ((hS _).1 p.h)).mono fun e w' ⟨he, hb⟩ => ⟨he, ⟨w', (hS _).2 (ext_step ((hS _).1 p.h) hb)⟩, rfl⟩
  clear hS
  go_enter Tryz.func56, Tryz.ntmps56
  go_wp2_with fail
  clear hk h0 h1
  refine wp_region_class S (by kernel_rfl) (by kernel_rfl) hS0 ?_
  repeat (go_big_quiet_step (first | (with_reducible exact HC0.out _) | (with_reducible exact HC1.out _) | (refine (HC0.out _).mono ?_; rintro e W' ⟨rfl, q, rfl⟩; exact ⟨rfl, q, rfl⟩)))
  refine wpQuiet_nil ?_
  intro p
  have hb := (HS.out p.w).1 p.h
  go_wp2
  go_ret
  exact ⟨congrArg (fun s => Ending.returned (.string s)) (ByteArray.ext (by simp)), hb⟩
set_option maxRecDepth 100000 in
set_option maxHeartbeats 2000000 in
theorem String_cat (b : Nat) (re : Value) (kids : Value) (o : List UInt8) (w : World) (h : TermAt w b 8 re [] kids)
   (hp : Calls Tryz.prog 56 #[.pointer (some ⟨b, 0, none⟩), .string ⟨#[32, 46, 32]⟩, .int .i64 1] w fun e w' => e = .returned (.string ⟨o.toArray⟩) ∧ Below w.heap.size w w') :
    Calls Tryz.prog 16 #[.pointer (some ⟨b, 0, none⟩)] w fun e w' => e = .returned (.string ⟨o.toArray⟩) ∧ Below w.heap.size w w' := by
  have hc : w.cell? ⟨b, 0, none⟩ = some (.int .i64 8) := by rw [cell_of_row _ _ _ _ _ _ h]; rfl
  have HP := Lib.hid hp
  clear h hp
  go_enter Tryz.func16, Tryz.ntmps16
  go_wp2_with fail
  refine HP.out.mono ?_
  rintro e w1 ⟨rfl, hb⟩
  go_wp2_with fail
  go_ret
  exact ⟨rfl, hb⟩
end Go.Proofs.YtpajpjocakhcdaaGreatDoor
