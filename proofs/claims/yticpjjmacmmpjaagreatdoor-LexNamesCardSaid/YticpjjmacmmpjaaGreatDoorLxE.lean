/-
  LexErrors, plain: texts that can't go on, and where that is; the document's example.
-/
import Derived.Test.YticpjjmacmmpjaaGreatDoorLxM
set_option linter.unusedSimpArgs false
set_option linter.unusedVariables false
set_option maxRecDepth 100000
set_option linter.unnecessarySimpa false
namespace Go.Proofs.YticpjjmacmmpjaaGreatDoor
namespace LX
/-- the texts, the errors, and where they can't go on -/
def errT : List (List UInt8 × Nat × Nat) := [([34, 97, 98, 99], 2, 4), ([47, 97], 2, 2), ([47, 97, 40, 47], 2, 3), ([65], 2, 0), ([34, 97, 92, 113, 34], 2, 2), ([34, 10, 34], 2, 1), (List.replicate 31 122, 3, 0), ([57], 2, 0), ([47, 91, 98, 45, 97, 93, 47], 2, 5), ([97, 33], 2, 1), ([34, 97, 92, 34], 2, 4)]
/-- what stands ahead -/
def errA : Nat → List UInt8
  | 0 => []
  | k + 1 => errA k ++ [120, 32, 47, 97, 47, 32]
theorem errs_all : ∀ i, i < 11 → ∀ k, k < 8 → (lexW (errA k ++ (errT.getD i ([], 0, 0)).1)).1.isEmpty = true ∧ (lexW (errA k ++ (errT.getD i ([], 0, 0)).1)).2.1 = (errT.getD i ([], 0, 0)).2.1 ∧ (lexW (errA k ++ (errT.getD i ([], 0, 0)).1)).2.2 = (errA k).length + (errT.getD i ([], 0, 0)).2.2 := by decide +kernel
def headT : List UInt8 := [99, 111, 112, 121, 32, 47, 97, 47]
theorem head_lex : lexW headT = ([⟨1, [99, 111, 112, 121], none, 0⟩, ⟨4, [], some (RE.node 2 (BS.none.add 97) []), 5⟩, ⟨0, [], none, 8⟩], 0, 0) := by kernel_rfl
end LX
end Go.Proofs.YticpjjmacmmpjaaGreatDoor
