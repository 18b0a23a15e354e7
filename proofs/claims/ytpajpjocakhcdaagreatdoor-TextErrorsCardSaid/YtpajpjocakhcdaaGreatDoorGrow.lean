/-
  A region that draws its order, each of whose operations yields one value in every world of a class that the region's calls do not leave: one walk of the text's order serves every order.
-/
import Derived.Test.YtpajpjocakhcdaaGreatDoorRows
import Derived.WalkKit
import Derived.BigQuiet
set_option linter.unusedSimpArgs false
set_option linter.unusedVariables false
set_option maxRecDepth 100000
set_option linter.unnecessarySimpa false
namespace Go.Proofs.YtpajpjocakhcdaaGreatDoor
/-- the worlds of a class, as values of a type: so that what holds of each of them is a rule without a premise -/
structure InC (S : World → Prop) where
  w : World
  h : S w
theorem wp_region_class {P : Program} {id : Nat} {Q : Exit → Act → World → Prop} {a : Act} {w : World} {l : List Oper} (S : World → Prop) (hm : P.follows .mixedOrders = true)
   (hB : Region.lexB .any l.toArray = true) (hS : S w.drew)
   (h : wpQuiet P l.toArray (fun w' => ∃ p : InC S, w' = p.w) (fun a' => ∀ p : InC S, Q .normal a' p.w) l a) : (Code.region id l.toArray true).wp P Q a w := by
  refine wp_region_quiet (C := fun w' => ∃ p : InC S, w' = p.w) hm hB ⟨⟨_, hS⟩, rfl⟩ ?_
  have hmono : ∀ (l' : List Oper) (a : Act), wpQuiet P l.toArray (fun w' => ∃ p : InC S, w' = p.w) (fun a' => ∀ p : InC S, Q .normal a' p.w) l' a →
      wpQuiet P l.toArray (fun w' => ∃ p : InC S, w' = p.w) (fun a' => ∀ w', (∃ p : InC S, w' = p.w) → Q .normal a' w') l' a := by
    intro l'
    induction l' with
    | nil => intro a h w' ⟨p, hp⟩; rw [hp]; exact h p
    | cons o rest ih =>
      intro a h
      unfold wpQuiet at h ⊢
      split
      · rename_i hw; rw [if_pos hw] at h; exact Oper.quiet_mono ih h
      · rename_i hw; rw [if_neg hw] at h; exact ih _ h
  exact hmono _ _ h
end Go.Proofs.YtpajpjocakhcdaaGreatDoor
