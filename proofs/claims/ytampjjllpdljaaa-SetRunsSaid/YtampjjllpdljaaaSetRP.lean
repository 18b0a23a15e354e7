/-
  A set's bytes and its runs, as lists: which byte, or which run, comes next; how many there are in all. Plain Lean.
-/
import Derived.Test.YtampjjllpdljaaaSetP
set_option linter.unusedSimpArgs false
set_option linter.unusedVariables false
namespace Go.Proofs.Ytampjjllpdljaaa

theorem BS.len_256 (s : BS) : s.len ≤ 256 := by
  have h0 := pop_le 64 s.a.toNat; have h1 := pop_le 64 s.b.toNat; have h2 := pop_le 64 s.c.toNat; have h3 := pop_le 64 s.d.toNat
  unfold BS.len; omega
def nextB (pre : List Byt) : Nat := match pre.getLast? with | none => 0 | some x => x.n + 1
theorem nextB_nil : nextB [] = 0 := rfl
theorem nextB_snoc (pre : List Byt) (x : Byt) : nextB (pre ++ [x]) = x.n + 1 := by simp [nextB]
theorem BS.bytesTo_gap (s : BS) : ∀ k, k ≤ 256 → nextB (s.bytesTo k) ≤ k ∧ ∀ j, nextB (s.bytesTo k) ≤ j → j < k → s.has j = false
  | 0, _ => ⟨by simp [BS.bytesTo, nextB], fun j _ h => by omega⟩
  | k + 1, h => by
    obtain ⟨h1, h2⟩ := s.bytesTo_gap k (by omega)
    cases hs : s.has k with
    | true =>
      rw [s.bytesTo_yes k (by omega) hs, nextB_snoc]
      exact ⟨Nat.le_refl _, fun j a b => by dsimp only at a; omega⟩
    | false =>
      rw [s.bytesTo_no k hs]
      refine ⟨by omega, fun j a b => ?_⟩
      by_cases e : j = k
      · rw [e]; exact hs
      · exact h2 j a (by omega)
theorem BS.bytes_step (s : BS) (pre : List Byt) (x : Byt) : ∀ k, k ≤ 256 → pre ++ [x] <+: s.bytesTo k →
    s.has x.n = true ∧ nextB pre ≤ x.n ∧ ∀ j, nextB pre ≤ j → j < x.n → s.has j = false
  | 0, _, h => by simp [BS.bytesTo] at h
  | k + 1, hk, h => by
    cases hs : s.has k with
    | false => rw [s.bytesTo_no k hs] at h; exact s.bytes_step pre x k (by omega) h
    | true =>
      rw [s.bytesTo_yes k (by omega) hs] at h
      rcases List.prefix_concat_iff.1 h with h | h
      · obtain ⟨h1, h2⟩ := List.append_inj' h rfl
        obtain ⟨g1, g2⟩ := s.bytesTo_gap k (by omega)
        simp only [List.cons.injEq, and_true] at h2
        subst h1 h2
        exact ⟨hs, g1, g2⟩
      · exact s.bytes_step pre x k (by omega) h
theorem BS.bytesTo_count (s : BS) : ∀ k, k ≤ 256 → (s.bytesTo k).length = (List.range k).countP s.has
  | 0, _ => rfl
  | k + 1, h => by
    have ih := s.bytesTo_count k (by omega)
    rw [List.range_succ, List.countP_append]
    cases hs : s.has k with
    | true => rw [s.bytesTo_yes k (by omega) hs]; simp [hs]; omega
    | false => rw [s.bytesTo_no k hs]; simp [hs]; omega
theorem BS.bytes_len (s : BS) : s.bytes.length = s.len := by rw [s.len_count]; exact s.bytesTo_count 256 (Nat.le_refl _)

def nextR (k : Nat) (pre : List Rn) : Nat := match pre.getLast? with | none => k | some r => r.b + 1
theorem nextR_nil (k : Nat) : nextR k [] = k := rfl
theorem nextR_snoc (k : Nat) (pre : List Rn) (x : Rn) : nextR k (pre ++ [x]) = x.b + 1 := by simp [nextR]
theorem nextR_cons (k : Nat) (r : Rn) (pre : List Rn) : nextR k (r :: pre) = nextR (r.b + 1) pre := by
  unfold nextR
  cases pre with
  | nil => rfl
  | cons q pre => rw [List.getLast?_cons_cons]; cases h : (q :: pre).getLast? with
    | none => simp at h
    | some y => rfl
/-- a run as it must be -/
structure Good (s : BS) (x : Rn) : Prop where
  le : x.a ≤ x.b
  all : ∀ j, x.a ≤ j → j ≤ x.b → s.has j = true
  low : 0 < x.a → s.has (x.a - 1) = false
  high : x.b < 255 → s.has (x.b + 1) = false
theorem BS.runs_step (s : BS) (k : Nat) : ∀ (pre : List Rn) (x : Rn), (k = 0 ∨ s.has (k - 1) = false ∨ s.has k = false) → pre ++ [x] <+: s.runsFrom k → Good s x ∧ nextR k pre ≤ x.a := by
  intro pre x hC h
  by_cases hk : k < 256
  · cases hs : s.has k with
    | false =>
      rw [s.runsFrom_no k hk hs] at h
      obtain ⟨g1, g2⟩ := s.runs_step (k + 1) pre x (.inr (.inl (by simpa using hs))) h
      refine ⟨g1, ?_⟩
      cases pre with
      | nil => simp only [nextR_nil] at g2 ⊢; omega
      | cons r pre => rw [nextR_cons] at g2 ⊢; exact g2
    | true =>
      rw [s.runsFrom_yes k hk hs] at h
      have hge := s.runEnd_ge k
      cases pre with
      | nil =>
        simp only [List.nil_append, List.singleton_prefix_cons_iff] at h
        subst h
        refine ⟨⟨hge, fun j a b => s.runEnd_all k hs j a b, fun h0 => ?_, fun hb => s.runEnd_behind k hb⟩, ?_⟩
        · rcases hC with hC | hC | hC
          · exact absurd hC (by simp at h0; omega)
          · exact hC
          · rw [hs] at hC; cases hC
        · simp [nextR_nil]
      | cons r pre =>
        rw [List.cons_append, List.cons_prefix_cons] at h
        obtain ⟨hr, h⟩ := h
        rw [nextR_cons, hr]
        by_cases he : s.runEnd k < 255
        · exact s.runs_step (s.runEnd k + 1) pre x (.inr (.inr (s.runEnd_behind k he))) h
        · rw [s.runsFrom_end _ (by omega)] at h
          simp at h
  · rw [s.runsFrom_end k (by omega)] at h
    simp at h
termination_by 256 - k
/-- how many bytes some runs hold -/
def tot (pre : List Rn) : Int := (pre.map fun r => (r.b : Int) - r.a + 1).sum
theorem tot_snoc (pre : List Rn) (x : Rn) : tot (pre ++ [x]) = tot pre + ((x.b : Int) - x.a + 1) := by simp [tot]
def BS.cnt (s : BS) (k : Nat) : Nat := (List.range' k (256 - k)).countP s.has
theorem BS.cnt_step (s : BS) (k : Nat) (h : k < 256) : s.cnt k = (if s.has k then 1 else 0) + s.cnt (k + 1) := by
  unfold BS.cnt
  rw [show 256 - k = (256 - (k + 1)) + 1 by omega, List.range'_succ, List.countP_cons]
  omega
theorem BS.cnt_run (s : BS) (k : Nat) (h : k < 256) (hs : s.has k = true) : s.cnt k = s.runEnd k - k + 1 + s.cnt (s.runEnd k + 1) := by
  rw [s.cnt_step k h, if_pos hs]
  by_cases hc : k < 255 ∧ s.has (k + 1) = true
  · rw [s.runEnd_go k hc.1 hc.2, s.cnt_run (k + 1) (by omega) hc.2]
    have := s.runEnd_ge (k + 1); omega
  · rw [s.runEnd_stop k hc]; omega
termination_by 256 - k
theorem BS.tot_runsFrom (s : BS) (k : Nat) (hk : k ≤ 256) : tot (s.runsFrom k) = s.cnt k := by
  by_cases h : k < 256
  · cases hs : s.has k with
    | false => rw [s.runsFrom_no k h hs, s.tot_runsFrom (k + 1) (by omega), s.cnt_step k h, hs]; simp
    | true =>
      have hge := s.runEnd_ge k; have hlt := s.runEnd_lt k h
      rw [s.runsFrom_yes k h hs, s.cnt_run k h hs]
      show ((s.runEnd k : Nat) : Int) - (k : Nat) + 1 + tot (s.runsFrom (s.runEnd k + 1)) = _
      rw [s.tot_runsFrom (s.runEnd k + 1) (by omega)]
      omega
  · rw [s.runsFrom_end k (by omega)]
    have : k = 256 := by omega
    subst this
    simp [tot, BS.cnt]
termination_by 256 - k
theorem BS.tot_runs (s : BS) : tot s.runs = s.len := by
  rw [s.len_count]
  unfold BS.runs
  rw [s.tot_runsFrom 0 (by omega)]
  unfold BS.cnt
  rw [List.range_eq_range']
theorem and15 (n : Int) : ∃ m : Nat, bits .and .i64 n 15 = (m : Int) ∧ m ≤ 15 := by
  have h : (BitVec.ofInt 64 n &&& BitVec.ofInt 64 15).toNat ≤ 15 := by
    rw [BitVec.toNat_and]
    exact Nat.le_trans Nat.and_le_right (by decide)
  refine ⟨_, ?_, h⟩
  show IntKind.i64.wrap ((BitVec.ofInt 64 n &&& BitVec.ofInt 64 15).toNat : Int) = _
  generalize (BitVec.ofInt 64 n &&& BitVec.ofInt 64 15).toNat = m at h
  rw [IntKind.wrap_i64]; omega
end Go.Proofs.Ytampjjllpdljaaa
