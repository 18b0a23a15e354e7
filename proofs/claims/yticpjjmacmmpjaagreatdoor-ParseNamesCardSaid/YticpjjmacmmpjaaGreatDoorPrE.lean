/-
  ParseErrors, plain: texts that can't go on, and where that is; the document's example.
-/
import Derived.Test.YticpjjmacmmpjaaGreatDoorPrM
set_option linter.unusedSimpArgs false
set_option linter.unusedVariables false
set_option maxRecDepth 100000
set_option linter.unnecessarySimpa false
namespace Go.Proofs.YticpjjmacmmpjaaGreatDoor
namespace PR
/-- the texts, and where they can't go on -/
def errT : List (List UInt8 × Nat) := [([], 0), ([99, 111, 112, 121], 4), ([99, 111, 112, 121, 32, 99, 111, 112, 121, 32, 47, 97, 47], 5), ([120, 32, 121], 2), ([40, 120], 2), ([120, 41], 1), ([108, 101, 116, 32, 120, 32, 47, 97, 47, 32, 105, 110, 32, 120], 6), ([108, 101, 116, 32, 99, 111, 112, 121, 32, 61, 32, 120, 32, 105, 110, 32, 120], 4), ([108, 101, 116, 32, 120, 32, 61, 32, 120], 9), ([120, 32, 124], 3), ([124, 32, 120], 0), ([115, 119, 97, 112, 40, 120, 41], 6), ([115, 119, 97, 112, 32, 120], 5), ([105, 110, 118, 40, 120, 44, 32, 121, 41], 5), ([107, 101, 121, 32, 47, 97, 47], 4), ([99, 111, 110, 115, 116, 32, 47, 97, 47, 32, 34, 120, 34], 13), ([105, 110, 115, 32, 120], 4), ([34, 97, 34], 0), ([120, 32, 46, 32, 46, 32, 121], 4), ([42, 120], 0), ([105, 110], 0), ([110, 111, 114, 109, 32, 34, 97, 34], 5), ([100, 105, 99, 116, 40, 41], 5), ([120, 32, 108, 101, 116], 2), ([120, 32, 121, 32, 65], 4), ([107, 101, 121, 32, 107], 5), ([100, 101, 108, 32, 47, 97, 47, 32, 47, 98, 47], 8), ([120, 32, 105, 110], 2), ([108, 101, 116, 32, 120, 32, 61, 32, 105, 110, 32, 120], 8), ([108, 101, 102, 116, 40, 120, 44, 32, 121, 44, 32, 122, 41], 9)]
/-- what stands ahead -/
def errA : Nat → List UInt8
  | 0 => []
  | k + 1 => errA k ++ [108, 101, 116, 32, 120, 32, 61, 32, 47, 97, 47, 32, 105, 110, 32]
def nonB {α : Type} : Option α → Bool | none => true | some _ => false
theorem nonB_eq {α : Type} {o : Option α} (h : nonB o = true) : o = none := by cases o <;> simp_all [nonB]
theorem errA_len : ∀ k, (errA k).length = 15 * k := by
  intro k
  induction k with
  | zero => rfl
  | succ k ih => rw [errA, List.length_append, ih]; simp; omega
theorem errs_kernel : ∀ i, i < 30 → ∀ k, k < 8 → nonB (parseW (errA k ++ (errT.getD i ([], 0)).1)).1 = true ∧ (parseW (errA k ++ (errT.getD i ([], 0)).1)).2 = (2, 15 * k + (errT.getD i ([], 0)).2) := by decide +kernel
def headT : List UInt8 := [108, 101, 116, 32, 97, 32, 61, 32, 47, 120, 47, 32, 105, 110, 32, 99, 111, 112, 121, 32, 97, 32, 46, 32, 105, 110, 115, 32, 34, 98, 34]
def headL : LetT := ⟨[97], 4, TA.node 0 1 8 [] (some (RE.node 2 (BS.none.add 120) [])) [] [] []⟩
def headB : TA := TA.node 0 8 22 [] none [] [] [TA.node 0 2 15 [] none [] [] [TA.node 0 0 20 [97] none [] [] []], TA.node 0 6 24 [] none [98] [] []]
theorem head_parse : parseW headT = (some ([headL], headB), 0, 0) := by kernel_rfl
end PR
end Go.Proofs.YticpjjmacmmpjaaGreatDoor
