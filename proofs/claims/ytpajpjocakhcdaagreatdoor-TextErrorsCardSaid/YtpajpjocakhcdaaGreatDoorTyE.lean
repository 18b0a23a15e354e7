/-
  Texts that can't go on, plain: each is tried.
-/
import Derived.Test.YtpajpjocakhcdaaGreatDoorPsI
set_option linter.unusedSimpArgs false
set_option linter.unusedVariables false
set_option maxRecDepth 100000
set_option linter.unnecessarySimpa false
namespace Go.Proofs.YtpajpjocakhcdaaGreatDoor
/-- the texts, and where they can't go on -/
def errT : List (List UInt8 × Nat) := [([40], 1), ([40, 97], 2), ([97, 41], 1), ([91, 97], 2), ([91, 98, 45, 97, 93], 4), ([92, 113], 0), ([92, 120, 49, 103], 0), ([124], 0), ([97, 124], 2), ([97, 38, 42], 2), ([40, 45, 97, 41], 1), ([1], 0), ([97, 93], 1), ([92], 0), ([91, 97, 45, 93], 3), ([91, 40, 93], 1)]
/-- what stands ahead -/
def errA : Nat → List UInt8
  | 0 => []
  | k + 1 => errA k ++ [97, 98, 42]
def errP (k : Nat) : List UInt8 := if k = 0 then [] else errA k ++ [124]
theorem errs_all : ∀ i, i < 16 → ∀ k, k < 16 → (readE (errP k ++ (errT.getD i ([], 0)).1)).e = 2 ∧ (readE (errP k ++ (errT.getD i ([], 0)).1)).wh = (errP k).length + (errT.getD i ([], 0)).2 := by decide +kernel
def headT : List UInt8 := [40, 97, 124, 98, 41, 42, 99, 45, 97, 98, 99]
def oneC (b : Nat) : RE := RE.node 2 (BS.none.add b) []
def headR : RE := RE.node 7 BS.none [RE.node 3 BS.none [RE.node 5 BS.none [RE.node 2 (RE.orS (BS.none.add 97) (BS.none.add 98)) []], oneC 99], RE.node 3 BS.none [oneC 97, oneC 98, oneC 99]]
theorem head_read : readW headT = (some headR, 0, 0) := by kernel_rfl
end Go.Proofs.YtpajpjocakhcdaaGreatDoor
