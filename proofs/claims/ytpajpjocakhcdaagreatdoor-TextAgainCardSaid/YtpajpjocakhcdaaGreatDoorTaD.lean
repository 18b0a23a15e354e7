/-
  How deep the parentheses of an expression's text lie in one another, plain: by the height of its tree.
-/
import Derived.Test.YtpajpjocakhcdaaGreatDoorTaW
set_option linter.unusedSimpArgs false
set_option linter.unusedVariables false
set_option maxRecDepth 100000
set_option linter.unnecessarySimpa false
namespace Go.Proofs.YtpajpjocakhcdaaGreatDoor
namespace RE
mutual
/-- the height of an expression's tree -/
def dpt : RE → Nat | node _ _ ks => 1 + dpts ks
def dpts : List RE → Nat | [] => 0 | k :: ks => max (dpt k) (dpts ks)
end
def dptO : Option RE → Nat | none => 1 | some r => dpt r
def dptOs : List (Option RE) → Nat | [] => 0 | x :: l => max (dptO x) (dptOs l)
theorem dpts_append (l m : List RE) : dpts (l ++ m) = max (dpts l) (dpts m) := by
  induction l with
  | nil => simp [dpts]
  | cons a l ih => simp only [List.cons_append, dpts, ih]; omega
theorem dpts_filter (l : List RE) (p : RE → Bool) : dpts (l.filter p) ≤ dpts l := by
  induction l with
  | nil => simp
  | cons a l ih => rw [List.filter_cons]; split <;> simp only [dpts] <;> omega
theorem dpts_uniq (l : List RE) : dpts (uniq l) ≤ dpts l := by
  have hi : ∀ (r : RE) (l : List RE), dpts (ins r l) ≤ max (dpt r) (dpts l) := by
    intro r l
    induction l with
    | nil => simp [ins, dpts]
    | cons x xs ih => simp only [ins]; split; · simp only [dpts]; omega
                      · split <;> simp only [dpts] <;> omega
  induction l with
  | nil => simp [uniq, dpts]
  | cons x xs ih => have := hi x (uniq xs); simp only [uniq, List.foldr_cons, dpts] at *; omega
theorem dpt_pos (r : RE) : 1 ≤ dpt r := by cases r; rw [dpt]; omega
theorem dpt_one (s : BS) : dpt (one s) ≤ 1 := by unfold one; split <;> simp [nothing, dpt, dpts]
theorem joinGo_dpt (f : BS → BS → BS) : ∀ (l out : List RE) (x : Option RE), dpts (joinGo f l out x) ≤ max 1 (max (dpts l) (max (dpts out) (dptO x)))
  | [], out, none => by simp only [joinGo, dpts, dptO]; have := dpts_uniq out; omega
  | [], out, some y => by simp only [joinGo, dpts, dptO]; have := dpts_uniq (out ++ [y]); rw [dpts_append] at this; simp only [dpts] at this; omega
  | r :: rs, out, x => by
    by_cases h2 : r.op = 2
    · cases x with
      | none =>
        have := joinGo_dpt f rs out (some r)
        simp only [joinGo, h2, dpts, dptO] at this ⊢
        simp only [ne_eq, not_true_eq_false, if_false]; omega
      | some y =>
        have g1 := dpt_one (f y.set r.set)
        by_cases h0 : (one (f y.set r.set)).op = 0
        · simp only [joinGo, h2, h0, ne_eq, not_true_eq_false, if_false, if_true, dpts_append, dpts, dptO]; omega
        · have := joinGo_dpt f rs out (some (one (f y.set r.set)))
          simp only [joinGo, h2, h0, ne_eq, not_true_eq_false, if_false, dpts, dptO] at *; omega
    · have := joinGo_dpt f rs (out ++ [r]) x
      simp only [joinGo, ne_eq, h2, not_false_eq_true, if_true, dpts_append, dpts] at this ⊢; omega
theorem dpts_flat (o : Nat) (l : List (Option RE)) : dpts (flat o l) ≤ dptOs l := by
  induction l with
  | nil => simp [flat, dpts, dptOs]
  | cons x l ih =>
    have h1 : dpts (flat1 o x) ≤ dptO x := by
      cases x with
      | none => simp [flat1, dpts, nothing, dpt, dptO]
      | some r =>
        rw [flat1_some]
        split
        · cases r; simp [kids, dptO, dpt]
        · simp [dpts, dptO]
    simp only [flat, List.flatMap_cons, dpts_append, dptOs] at ih ⊢
    omega
theorem joinL_dpt (o : Nat) (f : BS → BS → BS) (l : List (Option RE)) : dpts (joinL o f l) ≤ max 1 (dptOs l) := by
  have := joinGo_dpt f (flat o l) [] none
  have h := dpts_flat o l
  simp only [joinL, dpts, dptO] at this ⊢
  omega
theorem dpt_thenL (l : List (Option RE)) : (thenL l).dpt ≤ 1 + dptOs l := by
  have h1 := dpts_flat 3 l
  have h2 := dpts_filter (flat 3 l) fun r => r.op != 1
  unfold thenL
  split
  · simp [nothing, dpt, dpts]
  · generalize (flat 3 l).filter (fun r => r.op != 1) = F at *
    unfold seqL
    split
    · simp [empty, dpt, dpts]
    · simp only [dpts] at h2; omega
    · simp only [dpt]; omega
theorem dpt_anyL (l : List (Option RE)) : (anyL l).dpt ≤ 2 + dptOs l := by
  have h2 := dpts_filter (joinL 4 orS l) fun r => r.op != 0
  have h3 := joinL_dpt 4 orS l
  unfold anyL
  generalize (joinL 4 orS l).filter (fun r => r.op != 0) = F at *
  unfold anyOf
  split
  · simp only [nothing, dpt, dpts]; omega
  · simp only [dpts] at h2; omega
  · simp only [dpt]; omega
theorem dpt_many (x : Option RE) : (many x).dpt ≤ 1 + dptO x := by
  cases x with
  | none => simp [many, empty, dpt, dpts]
  | some r =>
    unfold many
    dsimp only
    split
    · simp [empty, dpt, dpts]
    · split
      · simp only [dptO]; omega
      · simp only [dptO, dpt, dpts]; omega
theorem dpt_bothL (l : List (Option RE)) : (bothL l).dpt ≤ 2 + dptOs l := by
  have h3 := joinL_dpt 6 andS l
  unfold bothL
  split
  · simp [nothing, dpt, dpts]; omega
  · generalize joinL 6 andS l = F at *
    unfold bothOf
    split
    · have := dpt_many (some (one BS.all))
      have h := dpt_one BS.all
      simp only [dptO] at this; omega
    · simp only [dpts] at h3; omega
    · simp only [dpt]; omega
theorem dpt_but (a b : Option RE) : (but a b).dpt ≤ 1 + max (dptO a) (dptO b) := by
  cases a with
  | none => simp [but, nothing, dpt, dpts]
  | some x =>
    unfold but
    dsimp only
    split
    · simp [nothing, dpt, dpts]
    · split
      · simp [nothing, dpt, dpts]
      · cases b with
        | none => simp only [dptO]; omega
        | some y =>
          dsimp only
          split
          · simp only [dptO]; omega
          · split
            · have g1 := dpt_one (minusS x.set y.set)
              simp only [dptO]; omega
            · simp only [dptO, dpt, dpts]; omega
end RE
open PS (Bal) in
theorem bal_join (sep : List UInt8) (hs : Bal sep 0) : ∀ (l : List (List UInt8)) (D : Nat), (∀ t ∈ l, ∃ E, Bal t E ∧ E ≤ D) → ∃ E, Bal (Lib.join l sep) E ∧ E ≤ D := by
  intro l D h
  cases l with
  | nil => exact ⟨0, PS.bal_nil, Nat.zero_le _⟩
  | cons x l =>
    rw [Lib.join_cons]
    obtain ⟨E, h1, h2⟩ := h x (by simp)
    have h' : ∀ t ∈ l, ∃ E, Bal t E ∧ E ≤ D := fun t ht => h t (by simp [ht])
    clear h
    have key : ∃ F, Bal (Lib.joinTail sep l) F ∧ F ≤ D := by
      unfold Lib.joinTail
      induction l with
      | nil => exact ⟨0, PS.bal_nil, Nat.zero_le _⟩
      | cons y l ih =>
        obtain ⟨F, g1, g2⟩ := h' y (by simp)
        obtain ⟨G, k1, k2⟩ := ih fun t ht => h' t (by simp [ht])
        refine ⟨max (max 0 F) G, ?_, by omega⟩
        have := (hs.app g1).app k1
        simpa using this
    obtain ⟨F, g1, g2⟩ := key
    exact ⟨max E F, h1.app g1, by omega⟩
open PS (Bal) in
theorem bal_in {r : RE} {D : Nat} (h : ∃ E, Bal (RE.ofW r) E ∧ E ≤ D) (k : Nat) : ∃ E, Bal (if RE.lvl r.op < k then [40] ++ RE.ofW r ++ [41] else RE.ofW r) E ∧ E ≤ D + 1 := by
  obtain ⟨E, h1, h2⟩ := h
  split
  · exact ⟨E + 1, h1.par, by omega⟩
  · exact ⟨E, h1, by omega⟩
open PS (Bal) in
mutual
theorem bal_dpt : (r : RE) → ∃ E, Bal (RE.ofW r) E ∧ E ≤ RE.dpt r
  | .node o s ks => by
    have hk := bal_dpts ks
    have hi : ∀ k, ∀ t ∈ RE.insW k ks, ∃ E, Bal t E ∧ E ≤ 1 + RE.dpts ks := fun k t ht => by
      rw [RE.insW_map] at ht
      obtain ⟨r, hr, rfl⟩ := List.mem_map.1 ht
      have := bal_in (hk r hr) k
      unfold RE.inW
      rw [Nat.add_comm]; exact this
    rw [RE.ofW, RE.dpt]
    split
    · exact ⟨1, PS.bal_nil.par, by omega⟩
    split
    · exact ⟨0, PS.bal_class s, by omega⟩
    split
    · exact bal_join [] PS.bal_nil _ _ (hi 4)
    split
    · exact bal_join [124] (PS.bal_one 124 (by decide)) _ _ (hi 1)
    split
    · exact bal_join [38] (PS.bal_one 38 (by decide)) _ _ (hi 3)
    split
    · match ks, hk with
      | [], _ => exact ⟨0, PS.bal_nil, by omega⟩
      | [_], _ => exact ⟨0, PS.bal_nil, by omega⟩
      | a :: b :: l, hk =>
        obtain ⟨E, h1, h2⟩ := bal_in (hk a (by simp)) 1
        obtain ⟨F, g1, g2⟩ := bal_in (hk b (by simp)) 2
        refine ⟨max (max E 0) F, ?_, by omega⟩
        exact (h1.app (PS.bal_one 45 (by decide))).app g1
    split
    · match ks, hk with
      | [], _ => exact ⟨0, PS.bal_nil, by omega⟩
      | a :: l, hk =>
        obtain ⟨E, h1, h2⟩ := bal_in (hk a (by simp)) 5
        exact ⟨max E 0, h1.app (PS.bal_one 42 (by decide)), by omega⟩
    · exact ⟨max 0 0, Bal.app (t := [91]) (u := [93]) (PS.bal_one _ (by decide)) (PS.bal_one _ (by decide)), by omega⟩
theorem bal_dpts : (l : List RE) → ∀ r ∈ l, ∃ E, Bal (RE.ofW r) E ∧ E ≤ RE.dpts l
  | [] => by simp
  | k :: l => by
    intro r hr
    rcases List.mem_cons.1 hr with e | hr
    · obtain ⟨E, h1, h2⟩ := bal_dpt k
      rw [e]
      exact ⟨E, h1, by rw [RE.dpts]; omega⟩
    · obtain ⟨E, h1, h2⟩ := bal_dpts l r hr
      exact ⟨E, h1, by rw [RE.dpts]; omega⟩
end
theorem deepW_dpt (r : RE) : deepW (RE.ofW r) ≤ RE.dpt r := by
  obtain ⟨E, h1, h2⟩ := bal_dpt r
  have := h1 [] 0 0 (by omega)
  rw [List.append_nil] at this
  unfold deepW
  rw [this]
  unfold PS.deepS
  omega
end Go.Proofs.YtpajpjocakhcdaaGreatDoor
