/-
  What the lexer reads, plain: tokens that lie one behind the other within the text, or an error within it.
-/
import Derived.Test.YticpjjmacmmpjaaGreatDoorLxM
import Derived.Test.YticpjjmacmmpjaaGreatDoorTyG
set_option linter.unusedSimpArgs false
set_option linter.unusedVariables false
set_option maxRecDepth 100000
set_option linter.unnecessarySimpa false
namespace Go.Proofs.YticpjjmacmmpjaaGreatDoor
theorem readE_out (s : List UInt8) : (readE s).e = 0 ∨ (((readE s).e = 2 ∨ (readE s).e = 3 ∨ (readE s).e = 4) ∧ (readE s).wh ≤ s.length) := by
  have hres := (readS_res s).run
  unfold readE
  generalize readS s = R at *
  have htot := hres.tot
  have herr := hres.err
  simp only at htot herr ⊢
  by_cases h0 : R.1.e = 0
  · have hsk := PS.skip_run h0
    have hst := hsk.tot
    have hske : R.1.skip.e = 0 := h0
    rw [if_pos h0]
    generalize R.1.skip = S at *
    by_cases hr : S.rest = []
    · rw [if_pos hr]
      by_cases hz : S.e = 0 ∧ 1000 < R.2.size
      · rw [if_pos hz]
        simp [PS.fail, hske]
      · rw [if_neg hz]
        exact .inl hske
    · have h2 : (S.fail 2).e = 2 := by simp [PS.fail, hske]
      have h3 : (S.fail 2).wh = S.at_ := by simp [PS.fail, hske]
      rw [if_neg hr]
      generalize S.fail 2 = T at *
      rw [if_neg (fun hh => by have := hh.1; omega)]
      right
      omega
  · rcases herr with h | ⟨h1, h2, h3, h4⟩
    · exact absurd h h0
    · rw [if_neg h0]
      rw [if_neg (fun hh => h0 hh.1)]
      right
      omega
/-- what readW hands back -/
theorem readW_out (s : List UInt8) : (∃ r, readW s = (some r, 0, 0)) ∨ ∃ e a, readW s = (none, e, a) ∧ (e = 2 ∨ e = 3 ∨ e = 4) ∧ a ≤ s.length := by
  have h := readE_out s
  unfold readW
  generalize readE s = E at *
  generalize (readS s).2 = x at *
  by_cases hl : 65536 < s.length
  · rw [if_pos hl]; exact .inr ⟨3, 0, rfl, by omega, by omega⟩
  rw [if_neg hl]
  by_cases he : E.e = 0
  · rw [if_pos he]; exact .inl ⟨_, rfl⟩
  · rw [if_neg he]
    rcases h with h | h
    · exact absurd h he
    · exact .inr ⟨_, _, rfl, h.1, h.2⟩
namespace LX
/-- a token of a text -/
structure TokOk (s : List UInt8) (t : LT) : Prop where
  le : t.at_ ≤ s.length
  kind : t.kind ≤ 4
  word : t.kind = 1 ∨ t.kind = 2 → (s.drop t.at_).take t.text.length = t.text
  text : t.kind = 3 → t.at_ < s.length ∧ s.getD t.at_ 0 = 34
  re : t.kind = 4 → t.at_ < s.length ∧ s.getD t.at_ 0 = 47 ∧ ∃ r, t.re = some r
theorem qGo_at (n : Nat) : ∀ (f : Nat) (l : List UInt8) (i : Nat) (out : List UInt8) (o : List UInt8) (j : Nat), qGo f l i out = (o, some j) → j ≤ i + l.length
  | 0, l, i, out, o, j, h => by rw [qGo] at h; cases h
  | f + 1, [], i, out, o, j, h => by rw [qGo] at h; cases h
  | f + 1, c :: r, i, out, o, j, h => by
    rw [qGo] at h
    split at h
    · have := qGo_at n f _ _ _ _ _ h; simp; omega
    · split at h
      · cases h; omega
      · have := qGo_at n f _ _ _ _ _ h
        rw [List.length_drop] at this
        by_cases hq : qStep c r ≤ (c :: r).length
        · omega
        · rw [show (c :: r).drop (qStep c r) = [] from List.drop_eq_nil_of_le (by omega)] at h
          cases f with
          | zero => rw [qGo] at h; cases h
          | succ f => rw [qGo] at h; cases h
/-- what a token's reading leaves -/
def TokRes (s : List UInt8) (a : Nat) (r : LT × Nat × Nat) : Prop :=
  (r.2.1 = 0 ∧ r.1.at_ = a ∧ TokOk s r.1 ∧ r.2.2 ≤ s.length ∧ (r.1.kind ≠ 0 → a < r.2.2) ∧ (r.1.kind = 0 → a = s.length)) ∨ ((r.2.1 = 2 ∨ r.2.1 = 3 ∨ r.2.1 = 4) ∧ r.2.2 ≤ s.length)
theorem token_res (s : List UInt8) (a : Nat) (ha : a ≤ s.length) : TokRes s a (token s a) := by
  unfold token
  match hd : s.drop a with
  | [] =>
    have hl : s.length - a = 0 := by rw [← List.length_drop, hd]; rfl
    exact .inl ⟨rfl, rfl, ⟨ha, by simp, fun h => by simp at h, fun h => by simp at h, fun h => by simp at h⟩, ha, fun h => absurd rfl h, fun _ => by omega⟩
  | b :: r =>
    have hlen : r.length + 1 = s.length - a := by rw [← List.length_drop, hd]; rfl
    have hb : s.getD a 0 = b := by
      have h := congrArg (fun l => l.headD 0) hd
      simp only [List.headD_cons] at h
      rw [← h, List.headD_eq_head?_getD, List.head?_drop]; simp [List.getD]
    have hr : r = s.drop (a + 1) := by
      have h := congrArg List.tail hd
      rw [List.tail_drop] at h
      exact h.symm
    simp only
    split
    · rename_i hlt
      have hn' := nameN_le (b :: r)
      have hn : nameN (b :: r) ≤ r.length + 1 := hn'
      have hn1 : 1 ≤ nameN (b :: r) := by
        rw [nameN]
        have : letter b false = true := by
          unfold letter at hlt ⊢
          rw [Bool.or_eq_true] at hlt ⊢
          rcases hlt with h | h
          · exact .inl h
          · simp at h
        rw [if_pos this]; omega
      split
      · exact .inr ⟨by simp, ha⟩
      · refine .inl ⟨rfl, rfl, ⟨ha, by simp, fun _ => ?_, fun h => by simp at h, fun h => by simp at h⟩, by show a + nameN (b :: r) ≤ s.length; omega, fun _ => by show a < a + nameN (b :: r); omega, fun h => by simp at h⟩
        simp only
        rw [hd, List.length_take, Nat.min_eq_left hn']
    split
    · refine .inl ⟨rfl, rfl, ⟨ha, by simp, fun _ => ?_, fun h => by simp at h, fun h => by simp at h⟩, by simp only; omega, fun _ => by simp only; omega, fun h => by simp at h⟩
      simp only
      rw [hd]; rfl
    split
    · rename_i h34
      unfold quoted
      split
      · exact .inr ⟨by simp, Nat.le_refl _⟩
      · rename_i k hk
        obtain ⟨hk1, _⟩ := untilN_lt r.length r k (Nat.le_refl _) hk
        split
        · refine .inl ⟨rfl, rfl, ⟨ha, by simp, fun h => by simp at h, fun _ => ⟨by simp only; omega, by simp only; rw [hb, h34]⟩, fun h => by simp at h⟩, by simp only; omega, fun _ => by simp only; omega, fun h => by simp at h⟩
        · rename_i o i hq
          have := qGo_at 0 _ _ _ _ _ _ hq
          rw [List.length_take] at this
          exact .inr ⟨by simp, by simp only; omega⟩
    split
    · rename_i h47
      unfold expr
      split
      · exact .inr ⟨by simp, Nat.le_refl _⟩
      · rename_i k hk
        obtain ⟨hk1, _⟩ := untilN_lt r.length r k (Nat.le_refl _) hk
        rcases readW_out (r.take k) with ⟨x, hx⟩ | ⟨e, p, hx, he, hp⟩
        · rw [hx]
          simp only [if_true]
          refine .inl ⟨rfl, rfl, ⟨ha, by simp, fun h => by simp at h, fun h => by simp at h, fun _ => ⟨by simp only; omega, by simp only; rw [hb, h47], x, rfl⟩⟩, by simp only; omega, fun _ => by simp only; omega, fun h => by simp at h⟩
        · rw [hx]
          simp only
          rw [if_neg (by omega)]
          rw [List.length_take] at hp
          exact .inr ⟨he, by simp only; omega⟩
    · exact .inr ⟨by simp, ha⟩
theorem next_res (s : List UInt8) (p : Nat) (hp : p ≤ s.length) : p + skipS false (s.drop p) ≤ s.length ∧ TokRes s (p + skipS false (s.drop p)) (next s p) := by
  have h := skipS_le (s.drop p) false
  rw [List.length_drop] at h
  exact ⟨by omega, token_res s _ (by omega)⟩
/-- tokens, one behind the other -/
structure Toks (s : List UInt8) (l : List LT) : Prop where
  ok : ∀ t ∈ l, TokOk s t
  ord : l.Pairwise fun a b => a.at_ < b.at_
structure Fine (s : List UInt8) (l : List LT) : Prop where
  toks : Toks s l
  last : ∃ m t, l = m ++ [t] ∧ t.kind = 0 ∧ ∀ x ∈ m, x.kind ≠ 0
theorem allGo_res (s : List UInt8) : ∀ (f p : Nat) (out : List LT), p ≤ s.length → s.length - p < f → Toks s out → (∀ x ∈ out, x.kind ≠ 0 ∧ x.at_ < p) →
    ((allGo s f p out).2.1 = 0 ∧ (allGo s f p out).2.2 = 0 ∧ Fine s (allGo s f p out).1) ∨ ((allGo s f p out).1 = [] ∧ ((allGo s f p out).2.1 = 2 ∨ (allGo s f p out).2.1 = 3 ∨ (allGo s f p out).2.1 = 4) ∧ (allGo s f p out).2.2 ≤ s.length) := by
  intro f
  induction f with
  | zero => intro p out _ h; omega
  | succ f ih =>
    intro p out hp hf hout hk
    obtain ⟨h1, h2⟩ := next_res s p hp
    rw [allGo]
    rcases h2 with ⟨e0, ea, hok, hle, hgo, hend⟩ | ⟨he, hle⟩
    · rw [if_neg (by omega)]
      have hs : Toks s (out ++ [(next s p).1]) := ⟨fun t ht => by
        rcases List.mem_append.1 ht with h | h
        · exact hout.ok t h
        · rw [List.mem_singleton.1 h]; exact hok, List.pairwise_append.2 ⟨hout.ord, by simp, fun x hx y hy => by
        rw [List.mem_singleton.1 hy, ea]
        have := (hk x hx).2
        omega⟩⟩
      split
      · rename_i h0
        exact .inl ⟨rfl, rfl, hs, out, (next s p).1, rfl, h0, fun x hx => (hk x hx).1⟩
      · rename_i h0
        have := hgo h0
        refine ih _ _ hle (by omega) hs fun x hx => ?_
        rcases List.mem_append.1 hx with h | h
        · have := hk x h; exact ⟨this.1, by omega⟩
        · rw [List.mem_singleton.1 h, ea]; exact ⟨h0, this⟩
    · rw [if_pos (by omega)]
      exact .inr ⟨rfl, he, hle⟩
end LX
/-- what All hands back, at whatever text -/
theorem lexW_res (s : List UInt8) : ((lexW s).2.1 = 0 ∧ (lexW s).2.2 = 0 ∧ LX.Fine s (lexW s).1) ∨ ((lexW s).1 = [] ∧ ((lexW s).2.1 = 2 ∨ (lexW s).2.1 = 3 ∨ (lexW s).2.1 = 4) ∧ (lexW s).2.2 ≤ s.length) := by
  unfold lexW
  split
  · exact .inr ⟨rfl, by simp, by simp⟩
  · exact LX.allGo_res s _ 0 [] (Nat.zero_le _) (by omega) ⟨by simp, by simp⟩ (by simp)
end Go.Proofs.YticpjjmacmmpjaaGreatDoor
