/-
  ParseDeep, plain: the texts, and what the parser says of them.
-/
import Derived.Test.YticpjjmacmmpjaaGreatDoorPrI
set_option linter.unusedSimpArgs false
set_option linter.unusedVariables false
set_option maxRecDepth 100000
set_option linter.unnecessarySimpa false
namespace Go.Proofs.YticpjjmacmmpjaaGreatDoor
namespace PR
def dotsL : Nat → List UInt8
  | 0 => []
  | j + 1 => 46 :: 120 :: dotsL j
theorem dotsL_snoc : ∀ j, dotsL (j + 1) = dotsL j ++ [46, 120]
  | 0 => rfl
  | j + 1 => congrArg (fun l => 46 :: 120 :: l) (dotsL_snoc j)
theorem dotsL_len : ∀ j, (dotsL j).length = 2 * j
  | 0 => rfl
  | j + 1 => by simp [dotsL, dotsL_len j]; omega
theorem dots_lexes : ∀ j p, LX.Lexes p (dotsL j) (dotT p j)
  | 0, p => LX.Lexes.fin p
  | j + 1, p => LX.Lexes.sign p 46 (120 :: dotsL j) _ (by decide) (LX.Lexes.name (p + 1) 120 [] (dotsL j) _ (by decide) (by simp) (by decide) (fun c hc => by
      cases j with
      | zero => simp [dotsL] at hc
      | succ j => simp [dotsL] at hc; subst hc; decide) (dots_lexes j (p + 2)))
theorem deep_t (j : Nat) (hj : j ≤ 1000) : (1 + 2 * j ≤ 999 → ∃ r, parseW (120 :: dotsL j) = (some r, 0, 0)) ∧ (999 < 1 + 2 * j → parseW (120 :: dotsL j) = (none, 3, 1000)) := by
  have hl : lexW (120 :: dotsL j) = (xT 0 :: dotT 1 j, 0, 0) := by
    refine lexW_of (LX.Lexes.name 0 120 [] (dotsL j) _ (by decide) (by simp) (by decide) (fun c hc => ?_) (dots_lexes j 1)) (by simp [dotsL_len]; omega)
    cases j with
    | zero => simp [dotsL] at hc
    | succ j => simp [dotsL] at hc; subst hc; decide
  have hp := prog_dots j
  unfold parseW
  rw [hl]
  simp only [ne_eq, not_true_eq_false, if_false]
  constructor
  · intro h
    obtain ⟨r, ts, c, e⟩ := hp.1 h
    rw [e]; exact ⟨r, rfl⟩
  · intro h
    rw [hp.2 h]
def letsL : Nat → List UInt8
  | 0 => []
  | j + 1 => [108, 101, 116, 32, 120, 61, 120, 32, 105, 110, 32] ++ letsL j
theorem letsL_snoc : ∀ j, letsL (j + 1) = letsL j ++ [108, 101, 116, 32, 120, 61, 120, 32, 105, 110, 32]
  | 0 => rfl
  | j + 1 => congrArg (fun l => [108, 101, 116, 32, 120, 61, 120, 32, 105, 110, 32] ++ l) (letsL_snoc j)
theorem letsL_len : ∀ j, (letsL j).length = 11 * j
  | 0 => rfl
  | j + 1 => by simp [letsL, letsL_len j]; omega
theorem lets_lexes : ∀ j p, LX.Lexes p (letsL j ++ [120]) (letsT p j)
  | 0, p => LX.Lexes.name p 120 [] [] _ (by decide) (by simp) (by decide) (by simp) (LX.Lexes.fin (p + 1))
  | j + 1, p => by
    have h := lets_lexes j (p + 11)
    have h1 := LX.Lexes.gap (p + 10) 32 _ _ (by decide) h
    have h2 := LX.Lexes.name (p + 8) 105 [110] _ _ (by decide) (by decide) (by decide) (fun c hc => by simp at hc; subst hc; decide) h1
    have h3 := LX.Lexes.gap (p + 7) 32 _ _ (by decide) h2
    have h4 := LX.Lexes.name (p + 6) 120 [] _ _ (by decide) (by decide) (by decide) (fun c hc => by simp at hc; subst hc; decide) h3
    have h5 := LX.Lexes.sign (p + 5) 61 _ _ (by decide) h4
    have h6 := LX.Lexes.name (p + 4) 120 [] _ _ (by decide) (by decide) (by decide) (fun c hc => by simp at hc; subst hc; decide) h5
    have h7 := LX.Lexes.gap (p + 3) 32 _ _ (by decide) h6
    exact LX.Lexes.name p 108 [101, 116] _ _ (by decide) (by decide) (by decide) (fun c hc => by simp at hc; subst hc; decide) h7
theorem deep_u (j : Nat) (hj : j ≤ 1000) : (j ≤ 200 → ∃ r, parseW (letsL j ++ [120]) = (some r, 0, 0)) ∧ (200 < j → parseW (letsL j ++ [120]) = (none, 3, 2200)) := by
  have hl : lexW (letsL j ++ [120]) = (letsT 0 j, 0, 0) := lexW_of (lets_lexes j 0) (by simp [letsL_len]; omega)
  have hp := lets_go j (letsT 0 j).length [] 0 (Nat.le_refl _) (by simp)
  unfold parseW
  rw [hl]
  simp only [ne_eq, not_true_eq_false, if_false]
  have he : prog (letsT 0 j) = progGo (letsT 0 j).length [] (letsT 0 j) ([] : List LetT).length := rfl
  rw [he]
  constructor
  · intro h
    obtain ⟨r, ts, c, e⟩ := hp.1 (by simp; omega)
    rw [e]; exact ⟨r, rfl⟩
  · intro h
    rw [hp.2 (by simp; omega)]; rfl
def deepL : Nat → List UInt8
  | 0 => [120]
  | i + 1 => if i % 2 = 0 then [40] ++ deepL i ++ [41] else [105, 110, 118, 40] ++ deepL i ++ [41]
/-- where the parenthesis is that is the k-th open one -/
def openAt : List UInt8 → Nat → Nat → Option Nat
  | [], _, _ => none
  | c :: r, k, i => if c = 40 then (if k = 1 then some i else openAt r (k - 1) (i + 1)) else openAt r k (i + 1)
def deepOk (n : Nat) : Bool := if n ≤ 60 then (parseW (deepL n)).2.1 == 0 && (parseW (deepL n)).1.isSome else (parseW (deepL n)).2.1 == 4 && openAt (deepL n) 61 0 == some (parseW (deepL n)).2.2
theorem deep_s : ∀ i, i < 16 → deepOk (55 + i) = true := by decide +kernel
end PR
end Go.Proofs.YticpjjmacmmpjaaGreatDoor
