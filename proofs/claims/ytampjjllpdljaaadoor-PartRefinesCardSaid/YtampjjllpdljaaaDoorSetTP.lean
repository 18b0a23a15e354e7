/-
  What SetOps counts: how many bytes are in a set, which is the least; that two sets hold the same bytes just where their words are the same. Plain Lean.
-/
import Derived.Test.YtampjjllpdljaaaDoorSetT
import Derived.Test.YtampjjllpdljaaaDoorSetS
set_option linter.unusedSimpArgs false
set_option linter.unusedVariables false
set_option maxRecDepth 100000
namespace Go.Proofs.YtampjjllpdljaaaDoor

def cntTo (s : BS) : Nat → Nat
  | 0 => 0
  | k + 1 => cntTo s k + (if s.has k then 1 else 0)
def lstTo (s : BS) : Nat → Int
  | 0 => -1
  | k + 1 => if lstTo s k < 0 ∧ s.has k = true then (k : Int) else lstTo s k
theorem cntTo_le (s : BS) : ∀ k, cntTo s k ≤ k
  | 0 => Nat.le_refl _
  | k + 1 => by have := cntTo_le s k; unfold cntTo; split <;> omega
theorem lstTo_lt (s : BS) : ∀ k, lstTo s k < k ∧ -1 ≤ lstTo s k
  | 0 => by simp [lstTo]
  | k + 1 => by have := lstTo_lt s k; unfold lstTo; split <;> omega
theorem cntTo_count (s : BS) : ∀ k, cntTo s k = (List.range k).countP s.has
  | 0 => rfl
  | k + 1 => by
    unfold cntTo
    rw [cntTo_count s k, List.range_succ, List.countP_append]
    cases h : s.has k <;> simp [h]
theorem none_to (s : BS) : ∀ k, (∀ j, j < k → s.has j = false) → cntTo s k = 0 ∧ lstTo s k = -1
  | 0, _ => ⟨rfl, rfl⟩
  | k + 1, h => by
    obtain ⟨h1, h2⟩ := none_to s k fun j hj => h j (by omega)
    have hk := h k (by omega)
    unfold cntTo lstTo
    rw [h1, h2, hk]
    simp
theorem some_to (s : BS) (m : Nat) (hm : s.has m = true) (hg : ∀ j, j < m → s.has j = false) : ∀ k, m < k → 0 < cntTo s k ∧ lstTo s k = m
  | 0, h => by omega
  | k + 1, h => by
    by_cases e : m = k
    · subst e
      obtain ⟨h1, h2⟩ := none_to s m hg
      unfold cntTo lstTo
      rw [h1, h2, hm]
      simp
    · obtain ⟨h1, h2⟩ := some_to s m hm hg k (by omega)
      unfold cntTo lstTo
      rw [h2]
      refine ⟨by omega, ?_⟩
      rw [if_neg (by omega)]
theorem ctz_bits (x : BitVec 64) (h : x ≠ 0) : Lib.ctz 64 x.toNat < 64 ∧ x.getLsbD (Lib.ctz 64 x.toNat) = true ∧ ∀ j, j < Lib.ctz 64 x.toNat → x.getLsbD j = false := by
  have h0 : x.toNat ≠ 0 := fun e => h (BitVec.eq_of_toNat_eq (by simpa using e))
  obtain ⟨m, hm, hk⟩ := Lib.ctzFrom_spec 64 x.toNat (by omega) x.isLt
  have e : Lib.ctz 64 x.toNat = Lib.ctzFrom 64 x.toNat := by simp [Lib.ctz, h0]
  rw [e]
  generalize Lib.ctzFrom 64 x.toNat = c at *
  refine ⟨hk, ?_, fun j hj => ?_⟩
  · show x.toNat.testBit c = true
    rw [hm, Nat.testBit_two_pow_mul]
    simp
  · show x.toNat.testBit j = false
    rw [hm, Nat.testBit_two_pow_mul]
    have : ¬ c ≤ j := by omega
    simp [this]
theorem least_at (s : BS) (q : Nat) (hq : q < 4) (x : BitVec 64) (hx : s.wd q = x) (h : x ≠ 0) (hp : ∀ p, p < q → s.wd p = 0) :
    s.has (64 * q + Lib.ctz 64 x.toNat) = true ∧ (∀ j, j < 64 * q + Lib.ctz 64 x.toNat → s.has j = false) ∧ 64 * q + Lib.ctz 64 x.toNat ≤ 255 := by
  obtain ⟨h1, h2, h3⟩ := ctz_bits x h
  generalize Lib.ctz 64 x.toNat = c at *
  refine ⟨?_, fun j hj => ?_, by omega⟩
  · unfold BS.has
    rw [show (64 * q + c) / 64 = q by omega, show (64 * q + c) % 64 = c by omega, hx]; exact h2
  · unfold BS.has
    by_cases hjq : j / 64 < q
    · rw [hp _ hjq]; simp
    · rw [show j / 64 = q by omega, hx]; exact h3 _ (by omega)
theorem least_spec (s : BS) (h : s ≠ BS.none) : s.has s.least = true ∧ (∀ j, j < s.least → s.has j = false) ∧ s.least ≤ 255 := by
  unfold BS.least
  by_cases h0 : s.a = 0
  · rw [if_neg (fun e => e h0)]
    by_cases h1 : s.b = 0
    · rw [if_neg (fun e => e h1)]
      by_cases h2 : s.c = 0
      · rw [if_neg (fun e => e h2)]
        by_cases h3 : s.d = 0
        · exact absurd (by cases s; simp_all [BS.none]) h
        · rw [if_pos h3]
          exact least_at s 3 (by omega) s.d rfl h3 (fun p hp => by match p, hp with | 0, _ => exact h0 | 1, _ => exact h1 | 2, _ => exact h2)
      · rw [if_pos h2]
        exact least_at s 2 (by omega) s.c rfl h2 (fun p hp => by match p, hp with | 0, _ => exact h0 | 1, _ => exact h1)
    · rw [if_pos h1]
      exact least_at s 1 (by omega) s.b rfl h1 (fun p hp => by match p, hp with | 0, _ => exact h0)
  · rw [if_pos h0]
    have := least_at s 0 (by omega) s.a rfl h0 (fun p hp => by omega)
    simpa using this
theorem ops_facts (s : BS) : cntTo s 256 = s.len ∧ s.least ≤ 255 ∧ (decide (s = BS.none) = true → cntTo s 256 = 0 ∧ lstTo s 256 = -1 ∧ s.least = 0) ∧ (decide (s = BS.none) = false → 0 < cntTo s 256 ∧ lstTo s 256 = (s.least : Nat)) := by
  refine ⟨by rw [cntTo_count, s.len_count], ?_, fun h => ?_, fun h => ?_⟩
  · by_cases h : s = BS.none
    · subst h; decide
    · exact (least_spec s h).2.2
  · obtain rfl := of_decide_eq_true h
    obtain ⟨h1, h2⟩ := none_to BS.none 256 (fun j _ => by
      unfold BS.has
      have : BS.none.wd (j / 64) = 0 := by unfold BS.wd BS.none; split <;> rfl
      rw [this]; simp)
    exact ⟨h1, h2, by decide⟩
  · obtain ⟨h1, h2, h3⟩ := least_spec s (of_decide_eq_false h)
    exact some_to s _ h1 h2 256 (by omega)
theorem words_eqv (a0 a1 a2 a3 b0 b1 b2 b3 : BitVec 64) : (wN a0 == wN b0 && (wN a1 == wN b1 && (wN a2 == wN b2 && wN a3 == wN b3))) = (⟨a0, a1, a2, a3⟩ : BS).eqv (⟨b0, b1, b2, b3⟩ : BS).has := by
  rw [Bool.eq_iff_iff, BS.eqv_iff]
  constructor
  · intro h
    simp [wN_beq] at h
    obtain ⟨rfl, rfl, rfl, rfl⟩ := h
    intro i _; rfl
  · intro h
    have := BS.ext_has h
    simp at this
    obtain ⟨rfl, rfl, rfl, rfl⟩ := this
    simp
end Go.Proofs.YtampjjllpdljaaaDoor
