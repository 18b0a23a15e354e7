/-
  How long an expression's text is, plain: by its sets' bytes.
-/
import Derived.Test.YtpajpjocakhcdaaGreatDoorRtE
set_option linter.unusedSimpArgs false
set_option linter.unusedVariables false
set_option maxRecDepth 100000
set_option linter.unnecessarySimpa false
namespace Go.Proofs.YtpajpjocakhcdaaGreatDoor
theorem cnt_two {α : Type} (p q r : α → Bool) : ∀ (l : List α), (∀ x ∈ l, p x = true → r x = true) → (∀ x ∈ l, q x = true → r x = true) → (∀ x ∈ l, ¬ (p x = true ∧ q x = true)) → l.countP p + l.countP q ≤ l.countP r := by
  intro l
  induction l with
  | nil => simp
  | cons a l ih =>
    intro h1 h2 h3
    have := ih (fun x hx => h1 x (by simp [hx])) (fun x hx => h2 x (by simp [hx])) (fun x hx => h3 x (by simp [hx]))
    have a1 := h1 a (by simp)
    have a2 := h2 a (by simp)
    have a3 := h3 a (by simp)
    rw [List.countP_cons, List.countP_cons, List.countP_cons]
    cases hp : p a <;> cases hq : q a <;> cases hr : r a <;> simp_all <;> omega
theorem cnt_sum {α : Type} (p q r s : α → Bool) : ∀ (l : List α), (∀ x ∈ l, r x = (p x || q x)) → (∀ x ∈ l, s x = (p x && q x)) → l.countP r + l.countP s = l.countP p + l.countP q := by
  intro l
  induction l with
  | nil => simp
  | cons a l ih =>
    intro h1 h2
    have := ih (fun x hx => h1 x (by simp [hx])) (fun x hx => h2 x (by simp [hx]))
    have a1 := h1 a (by simp)
    have a2 := h2 a (by simp)
    rw [List.countP_cons, List.countP_cons, List.countP_cons, List.countP_cons]
    cases hp : p a <;> cases hq : q a <;> cases hr : r a <;> cases hs : s a <;> simp_all <;> omega
theorem cnt_le {α : Type} (p r : α → Bool) (l : List α) (h : ∀ x ∈ l, p x = true → r x = true) : l.countP p ≤ l.countP r := by
  have := cnt_two p (fun _ => false) r l h (fun _ _ hc => by cases hc) (fun _ _ hc => by cases hc.2)
  omega
namespace BS
theorem len_le (s : BS) : s.len ≤ 256 := by
  rw [s.len_count]
  have := List.countP_le_length (p := s.has) (l := List.range 256)
  simpa using this
theorem has_notS (s : BS) (j : Nat) (hj : j < 256) : (notS s).has j = !s.has j := BS.has_not s j
theorem len_notS (s : BS) : (notS s).len + s.len = 256 := by
  have h := cnt_sum s.has (notS s).has (fun _ => true) (fun _ => false) (List.range 256) (fun j hj => by rw [has_notS s j (List.mem_range.1 hj)]; simp) (fun j hj => by rw [has_notS s j (List.mem_range.1 hj)]; simp)
  rw [← s.len_count, ← (notS s).len_count] at h
  simp at h
  omega
theorem len_or_and (s t : BS) : (RE.orS s t).len + (RE.andS s t).len = s.len + t.len := by
  rw [s.len_count, t.len_count, (RE.orS s t).len_count, (RE.andS s t).len_count]
  exact cnt_sum _ _ _ _ _ (fun j hj => BS.has_or s t j) (fun j hj => BS.has_and s t j)
theorem len_or_ge (s t : BS) : s.len ≤ (RE.orS s t).len ∧ t.len ≤ (RE.orS s t).len := by
  rw [s.len_count, t.len_count, (RE.orS s t).len_count]
  exact ⟨cnt_le _ _ _ fun j _ h => (BS.has_or s t j).trans (by rw [h]; simp), cnt_le _ _ _ fun j _ h => (BS.has_or s t j).trans (by rw [h]; simp)⟩
/-- how much there is to write of a set -/
def wS (s : BS) : Nat := min s.len (256 - s.len)
theorem wS_or (s t : BS) : wS (RE.orS s t) ≤ wS s + wS t := by
  have h1 := len_or_and s t
  have h2 := len_or_ge s t
  have h3 := (RE.orS s t).len_le
  have h4 := s.len_le
  have h5 := t.len_le
  unfold wS; omega
theorem wS_and (s t : BS) : wS (RE.andS s t) ≤ wS s + wS t := by
  have h1 := len_or_and s t
  have h2 := len_or_ge s t
  have h3 := (RE.orS s t).len_le
  have h4 := s.len_le
  have h5 := t.len_le
  unfold wS; omega
theorem wS_minus (s t : BS) : wS (RE.minusS s t) ≤ wS s + wS t := by
  have h := wS_and s (notS t)
  have e : wS (notS t) = wS t := by
    have := len_notS t
    unfold wS; omega
  rw [e] at h
  exact h
theorem runsFrom_cnt (s : BS) : ∀ (n k : Nat), 256 - k ≤ n → (s.runsFrom k).length ≤ (List.range 256).countP fun j => decide (k ≤ j) && s.has j := by
  intro n
  induction n with
  | zero => intro k h; rw [s.runsFrom_end k (by omega)]; simp
  | succ n ih =>
    intro k h
    by_cases hk : k < 256
    · cases hs : s.has k with
      | false =>
        rw [s.runsFrom_no k hk hs]
        exact Nat.le_trans (ih (k + 1) (by omega)) (cnt_le _ _ _ fun j _ hj => by simp at hj ⊢; exact ⟨by omega, hj.2⟩)
      | true =>
        have hge := s.runEnd_ge k
        rw [s.runsFrom_yes k hk hs, List.length_cons]
        have h1 := ih (s.runEnd k + 1) (by omega)
        have h2 := cnt_two (fun j => decide (s.runEnd k + 1 ≤ j) && s.has j) (fun j => decide (j = k)) (fun j => decide (k ≤ j) && s.has j) (List.range 256) (fun j _ hj => by simp at hj ⊢; exact ⟨by omega, hj.2⟩) (fun j _ hj => by simp at hj ⊢; subst hj; exact ⟨Nat.le_refl _, hs⟩) (fun j _ hj => by simp at hj; omega)
        have h3 : 0 < (List.range 256).countP fun j => decide (j = k) := List.countP_pos_iff.2 ⟨k, List.mem_range.2 hk, by simp⟩
        omega
    · rw [s.runsFrom_end k (by omega)]; simp
theorem runs_cnt (s : BS) : s.runs.length ≤ s.len := by
  have := runsFrom_cnt s 256 0 (by omega)
  rw [s.len_count]
  simpa [runs] using this
end BS
theorem classW_wS (s : BS) : (classW s).length ≤ 9 * s.wS + 4 := by
  have h1 := runsW_len s.runs
  have h2 := runsW_len (notS s).runs
  have h3 := s.runs_cnt
  have h4 := (notS s).runs_cnt
  have h5 := s.len_notS
  unfold classW
  split
  · have := byteW_len s.least; omega
  · split
    · simp
    · unfold setW BS.wS
      split
      · simp; omega
      · simp; omega
namespace RE
mutual
/-- how much there is to write of an expression's sets -/
def wt : RE → Nat | node o s ks => (if o = 2 then s.wS else 0) + wts ks
def wts : List RE → Nat | [] => 0 | k :: ks => wt k + wts ks
end
def wtO : Option RE → Nat | none => 0 | some r => wt r
def wtOs (l : List (Option RE)) : Nat := (l.map wtO).sum
mutual
theorem ofW_wt : (r : RE) → (ofW r).length + 3 ≤ 9 * wt r + 9 * size r
  | node o s ks => by
    have h4 := insW_wt 4 ks
    have h1 := insW_wt 1 ks
    have h3 := insW_wt 3 ks
    have hb := butW_wt ks
    have hs := starW_wt ks
    have hc := classW_wS s
    have j4 := join_len_le (insW 4 ks) []
    have j1 := join_len_le (insW 1 ks) [124]
    have j3 := join_len_le (insW 3 ks) [38]
    have e : ∀ (l : List (List UInt8)) (sep : List UInt8), sep.length ≤ 1 → (l.map fun x => x.length + sep.length).sum ≤ (l.map fun x => x.length + 1).sum := by
      intro l sep h
      induction l with
      | nil => simp
      | cons x l ih => simp; omega
    have e4 := e (insW 4 ks) [] (by simp)
    have e1 := e (insW 1 ks) [124] (by simp)
    have e3 := e (insW 3 ks) [38] (by simp)
    rw [ofW, size, wt]
    repeat' split
    all_goals (try simp only [List.length_cons, List.length_nil])
    all_goals omega
theorem insW_wt (at_ : Nat) : (l : List RE) → ((insW at_ l).map fun x => x.length + 1).sum ≤ 9 * wts l + 9 * sizes l
  | [] => by simp [insW, sizes]
  | k :: l => by
    have h1 := ofW_wt k
    have h2 := insW_wt at_ l
    simp only [insW, List.map_cons, List.sum_cons, sizes, wts]
    split <;> (try simp only [List.length_append, List.length_cons, List.length_nil]) <;> omega
theorem butW_wt : (l : List RE) → (butW l).length ≤ 9 * wts l + 9 * sizes l
  | [] => by simp [butW]
  | [_] => by simp [butW]
  | a :: b :: _ => by
    have h1 := ofW_wt a
    have h2 := ofW_wt b
    simp only [butW, List.length_append, List.length_cons, List.length_nil, sizes, wts]
    split <;> split <;> (try simp only [List.length_append, List.length_cons, List.length_nil]) <;> omega
theorem starW_wt : (l : List RE) → (starW l).length ≤ 9 * wts l + 9 * sizes l
  | [] => by simp [starW]
  | a :: _ => by
    have h1 := ofW_wt a
    simp only [starW, List.length_append, List.length_cons, List.length_nil, sizes, wts]
    split <;> (try simp only [List.length_append, List.length_cons, List.length_nil]) <;> omega
end
theorem wts_append (l m : List RE) : wts (l ++ m) = wts l + wts m := by
  induction l with
  | nil => simp [wts]
  | cons a l ih => simp only [List.cons_append, wts, ih]; omega
theorem wts_filter (l : List RE) (p : RE → Bool) : wts (l.filter p) ≤ wts l := by
  induction l with
  | nil => simp
  | cons a l ih => rw [List.filter_cons]; split <;> simp only [wts] <;> omega
theorem wts_uniq (l : List RE) : wts (uniq l) ≤ wts l := by
  have hi : ∀ (r : RE) (l : List RE), wts (ins r l) ≤ wt r + wts l := by
    intro r l
    induction l with
    | nil => simp [ins, wts]
    | cons x xs ih => simp only [ins]; split; · simp [wts]
                      · split <;> simp only [wts] <;> omega
  induction l with
  | nil => simp [uniq, wts]
  | cons x xs ih => have := hi x (uniq xs); simp only [uniq, List.foldr_cons, wts] at *; omega
theorem one_op2 (s : BS) : (one s).op = 0 ∨ (one s).op = 2 := by unfold one; split <;> simp [nothing, op]
theorem wt_one (s : BS) : wt (one s) ≤ s.wS := by unfold one; split <;> simp [nothing, wt, wts]
theorem wt_class {r : RE} (h : r.op = 2) : r.set.wS ≤ wt r := by
  cases r with
  | node o s ks =>
    have h : o = 2 := h
    rw [wt, if_pos h]
    show s.wS ≤ _
    omega
theorem joinGo_wt (f : BS → BS → BS) (hf : ∀ s t, (f s t).wS ≤ s.wS + t.wS) : ∀ (l out : List RE) (x : Option RE), (∀ y, x = some y → y.op = 2) → wts (joinGo f l out x) ≤ wts l + wts out + wtO x
  | [], out, none, _ => by simp only [joinGo, wts, wtO]; have := wts_uniq out; omega
  | [], out, some y, _ => by simp only [joinGo, wts, wtO]; have := wts_uniq (out ++ [y]); rw [wts_append] at this; simp only [wts] at this; omega
  | r :: rs, out, x, hx => by
    by_cases h2 : r.op = 2
    · cases x with
      | none =>
        have := joinGo_wt f hf rs out (some r) (fun y hy => by cases hy; exact h2)
        simp only [joinGo, h2, wts, wtO] at this ⊢
        simp only [ne_eq, not_true_eq_false, if_false]; omega
      | some y =>
        have hy := hx y rfl
        have g1 := wt_one (f y.set r.set)
        have g2 := hf y.set r.set
        have g3 := wt_class h2
        have g4 := wt_class hy
        by_cases h0 : (one (f y.set r.set)).op = 0
        · simp only [joinGo, h2, h0, ne_eq, not_true_eq_false, if_false, if_true, wts_append, wts, wtO]; omega
        · have := joinGo_wt f hf rs out (some (one (f y.set r.set))) (fun z hz => by cases hz; exact (one_op2 _).resolve_left h0)
          simp only [joinGo, h2, h0, ne_eq, not_true_eq_false, if_false, wts, wtO] at *; omega
    · have := joinGo_wt f hf rs (out ++ [r]) x hx
      simp only [joinGo, ne_eq, h2, not_false_eq_true, if_true, wts_append, wts] at this ⊢; omega
theorem joinL_wt (o : Nat) (f : BS → BS → BS) (hf : ∀ s t, (f s t).wS ≤ s.wS + t.wS) (l : List (Option RE)) : wts (joinL o f l) ≤ wts (flat o l) := by
  have := joinGo_wt f hf (flat o l) [] none (fun _ h => by cases h)
  simpa [joinL, wts, wtO] using this
theorem wts_flat (o : Nat) (l : List (Option RE)) : wts (flat o l) ≤ wtOs l := by
  induction l with
  | nil => simp [flat, wts, wtOs]
  | cons x l ih =>
    have h1 : wts (flat1 o x) ≤ wtO x := by
      cases x with
      | none => simp [flat1, wts, nothing, wt, wtO]
      | some r =>
        rw [flat1_some]
        split
        · cases r; simp [kids, wtO, wt]
        · simp [wts, wtO]
    simp only [flat, List.flatMap_cons, wts_append, wtOs, List.map_cons, List.sum_cons] at ih ⊢
    omega
theorem wt_thenL (l : List (Option RE)) : (thenL l).wt ≤ wtOs l := by
  have h1 := wts_flat 3 l
  have h2 := wts_filter (flat 3 l) fun r => r.op != 1
  unfold thenL
  split
  · simp [nothing, wt, wts]
  · generalize (flat 3 l).filter (fun r => r.op != 1) = F at *
    unfold seqL
    split
    · simp [empty, wt, wts]
    · simp [wts] at h2; omega
    · simp only [wt, BS.wS]; simp; omega
theorem wt_anyL (l : List (Option RE)) : (anyL l).wt ≤ wtOs l := by
  have h1 := wts_flat 4 l
  have h2 := wts_filter (joinL 4 orS l) fun r => r.op != 0
  have h3 := joinL_wt 4 orS BS.wS_or l
  unfold anyL
  generalize (joinL 4 orS l).filter (fun r => r.op != 0) = F at *
  unfold anyOf
  split
  · simp [nothing, wt, wts]
  · simp [wts] at h2; omega
  · simp only [wt]; simp; omega
theorem wt_many (x : Option RE) : (many x).wt ≤ wtO x := by
  cases x with
  | none => simp [many, empty, wt, wts]
  | some r =>
    unfold many
    dsimp only
    split
    · simp [empty, wt, wts]
    · split <;> simp [wtO, wt, wts]
theorem wS_all : BS.all.wS = 0 := by decide +kernel
theorem wt_bothL (l : List (Option RE)) : (bothL l).wt ≤ wtOs l := by
  have h1 := wts_flat 6 l
  have h3 := joinL_wt 6 andS BS.wS_and l
  unfold bothL
  split
  · simp [nothing, wt, wts]
  · generalize joinL 6 andS l = F at *
    unfold bothOf
    split
    · have := wt_many (some (one BS.all))
      have h := wt_one BS.all
      rw [wS_all] at h
      simp only [wtO] at this; omega
    · simp [wts] at h3; omega
    · simp only [wt]; simp; omega
theorem wt_but (a b : Option RE) : (but a b).wt ≤ wtO a + wtO b := by
  cases a with
  | none => simp [but, nothing, wt, wts]
  | some x =>
    unfold but
    dsimp only
    split
    · simp [nothing, wt, wts]
    · split
      · simp [nothing, wt, wts]
      · cases b with
        | none => simp [wtO]
        | some y =>
          dsimp only
          split
          · simp [wtO]
          · split
            · rename_i h22
              have g1 := wt_one (minusS x.set y.set)
              have g2 := BS.wS_minus x.set y.set
              have g3 := wt_class h22.1
              have g4 := wt_class h22.2
              simp only [wtO]; omega
            · simp [wtO, wt, wts]
end RE
end Go.Proofs.YtpajpjocakhcdaaGreatDoor
