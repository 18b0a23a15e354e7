/-
  The law 'ParseReads': whatever comes in, the statement's function returns true, the listed tables being as their initialisers lay them.
-/
import Derived.Test.YtgamknphlmcgnaaGreatDoorCards
import Derived.SevenTiedAt
import Derived.ChangeMaps5
import Derived.Test.YtgamknphlmcgnaaGreatDoorZrA
import Derived.Test.YtgamknphlmcgnaaGreatDoorZrB
import Derived.Test.YtgamknphlmcgnaaGreatDoorZrC
import Derived.Test.YtgamknphlmcgnaaGreatDoorZrD
import Derived.Test.YtgamknphlmcgnaaGreatDoorZrE
import Derived.Test.YtgamknphlmcgnaaGreatDoorZrF
import Derived.Test.YtgamknphlmcgnaaGreatDoorZrG
import Derived.Test.YtgamknphlmcgnaaGreatDoorZrH
import Derived.Test.YtgamknphlmcgnaaGreatDoorZrI
import Derived.Test.YtgamknphlmcgnaaGreatDoorZrJ
import Derived.Test.YtgamknphlmcgnaaGreatDoorZrK
import Derived.Test.YtgamknphlmcgnaaGreatDoorZrL
import Derived.Test.YtgamknphlmcgnaaGreatDoorZrM
import Derived.Test.YtgamknphlmcgnaaGreatDoorZrN
import Derived.Test.YtgamknphlmcgnaaGreatDoorZrO
import Derived.Test.YtgamknphlmcgnaaGreatDoorZrP
import Derived.Test.YtgamknphlmcgnaaGreatDoorZrQ
set_option linter.unusedSimpArgs false
set_option linter.unusedVariables false
set_option maxRecDepth 100000
set_option linter.unnecessarySimpa false
namespace Go.Proofs.YtgamknphlmcgnaaGreatDoor.parseReads
open Go.ChangeShapes Go.WideShapes Go.ChangeAt Go.RowKit Go.ChangeMaps
theorem size_list (s : ByteArray) : s.data.toList.length = s.size := Array.length_toList
theorem back_list (s : ByteArray) : (⟨s.data.toList.toArray⟩ : ByteArray) = s := rfl
set_option maxRecDepth 100000 in
theorem lifted (os : Os) (started : os.Started) (H : Type) (enc : TypeId × Value → H) :
    ReturnsInHanded {} Tryz.checked os 9 .any (fun w args => (Rows.parseReadsSpec.pre enc Tryz.prog Tryz.f9 [] false w args ∧ laidMetH Tryz.prog allLaid w) ∧ sizedMet enc Tryz.prog Tryz.f9 (OpenSpec.ofChange Rows.parseReadsSpec) false w args)
      (Rows.parseReadsSpec.post enc Tryz.prog Tryz.f9 false true false false) := by
  refine returnsInHanded_of_change_and (C := Tryz.checked) (X := fun w _ => laidMetH Tryz.prog allLaid w) (fun _ _ _ hh h => h.of_heap hh) own started (by kernel_rfl) Tryz.func9
    (ChangeSpec.witness_shaped (enc := enc) (C := Tryz.checked) (os := os) (X := fun w _ => laidMetH Tryz.prog allLaid w) false (World.doorLaid Tryz.prog 400 os) #[.string ⟨#[]⟩] 8 rfl (World.shaped_of_RefB (by kernel_rfl) (by kernel_rfl)) (by kernel_rfl) (by kernel_rfl) (by kernel_rfl) (door_met os _)) ?_
  intro W base args ds gs before hval0 hW _ _ hL _
  have hval : ∀ (j : Nat) t v, Tryz.f9.params[j]? = some t → args[j]? = some v → Value.okWide Tryz.prog W .any base t v := hval0
  have hW' := hW
  obtain ⟨p, q, hA0, hV, rfl, hfz, hnd⟩ := hW
  have hA : DataW.TrodAll enc Tryz.prog W 0 (fun _ => true) true Tryz.f9.params.toList args.toList ds p := hA0
  rw [Tryz.params9] at hA hval
  obtain ⟨v0, vs0, d0, ds0, p0, q0, hargs, rfl, rfl, h0, r0⟩ := trodAll_cons hA
  obtain ⟨rfl, rfl, rfl⟩ := trodAll_nil r0
  obtain rfl : args = #[v0] := by cases args; simp_all
  obtain ⟨rfl, rfl⟩ := trodVars_none hV
  have k0 := h0
  have lt0 : ∀ x ∈ p0, x.block < W.heap.size := by obtain ⟨m, hm⟩ := k0; exact DataW.trod_lt m _ _ _ hm
  obtain ⟨s0, rfl, _, _, hs0⟩ := open_string Tryz.underlying9 (hval 0 9 v0 rfl rfl) h0
  clear hA0 hval0
  obtain ⟨hT, hWo⟩ := of_laid hL
  have hrun := ParseReads_any s0.data.toList W hT hWo  (by have h2 := size_list s0; unfold maxLen at hs0; omega)
  rw [back_list s0] at hrun
  refine hrun.mono fun e W' ⟨he, bel⟩ => ?_
  subst he
  exact ⟨_, rfl, _, _, _, [], _, [], hW', trodAll_mk1 (shut_bool Tryz.underlying4 _), (trodAll_cons_mk (Below.trod laidOut (by kernel_rfl) (of_decide_eq_true (by kernel_rfl)) k0 bel lt0) trodAll_mk0), rfl, bel.frame _, fun h => by cases h⟩
theorem kP : (Rows.parseReadsRow.inPlace == Tryz.pinned.checked.prog.inPlace 9) = true := by kernel_rfl
theorem kU : (Rows.parseReadsRow.unfollowed == Tryz.pinned.checked.prog.unfollowed 9) = true := by kernel_rfl
theorem kR : (Rows.parseReadsRow.recurses == Tryz.pinned.checked.prog.recurses 9) = true := by kernel_rfl
theorem kN : (Rows.parseReadsRow.named == Tryz.pinned.checked.prog.varsNamed 9) = true := by kernel_rfl
theorem closed : joinedFacts Tryz.pinned.checked.prog 9 Tryz.f9 Rows.parseReadsSpec Rows.parseReadsRow = true := by
  unfold joinedFacts
  simp only [Bool.and_eq_true]
  repeat' apply And.intro
  all_goals first
    | with_reducible exact kP
    | with_reducible exact kU
    | with_reducible exact kR
    | with_reducible exact kN
    | kernel_rfl
theorem over : Rows.parseReadsRow.holds Tryz.pinned (OpenSpec.ofChange Rows.parseReadsSpec) :=
  OpenClaim.holds_of_wide 9 Tryz.f9 rfl rfl rfl rfl rfl rfl rfl ⟨rfl, rfl, rfl, rfl, rfl⟩ rfl rfl rfl rfl rfl (by kernel_rfl) Tryz.func9 closed
    (of_decide_eq_true (by kernel_rfl)) (by unfold Func.isWrapper; first | (rw [if_pos (by decide +kernel)]; kernel_rfl) | (rw [if_neg (by decide +kernel)]; exact ⟨rfl, rfl⟩))
    (fun os started H enc _ => lifted os started H enc)
theorem proved : Rows.ParseReadsCardSaid :=
  Claim7.holds_tied_plain_at .later [] [.data, .data, .data, .data] true Rows.parseReadsCard.stood.harness true
    over (fun _ h => by cases h) (by kernel_rfl) (fun _ h => by cases h) parseReads_row_tie rfl ⟨rfl, rfl⟩ (by kernel_rfl) rfl
    (fun f fn hf hfn => by
      obtain rfl : f = 9 := Option.some.inj ((show Tryz.prog.funcNamed "periscope/periscopelaw15.ParseReads" = some 9 by kernel_rfl).symm.trans hf) |>.symm
      obtain rfl : fn = Tryz.f9 := (Option.some.inj (Tryz.func9.symm.trans hfn)).symm
      exact ⟨by kernel_rfl, fun j t ht => by
        rw [Tryz.params9] at ht
        have hm : t ∈ [9] := by simpa using Array.mem_of_getElem? ht
        have hall : ([9].all fun u => !Tryz.prog.wantsStandIn u) = true := by kernel_rfl
        exact (show Tryz.prog.wantsStandIn t = false by simpa using List.all_eq_true.1 hall t hm)⟩)
    (by kernel_rfl)
end Go.Proofs.YtgamknphlmcgnaaGreatDoor.parseReads
