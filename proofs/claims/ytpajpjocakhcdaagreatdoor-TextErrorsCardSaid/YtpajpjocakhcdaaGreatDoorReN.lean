/-
  Expressions in their normal form: what the calls that make expressions make is in it, and what is in it is made again of its parts. Plain Lean: no program stands in it.
-/
import Derived.Test.YtpajpjocakhcdaaGreatDoorReQ
set_option linter.unusedSimpArgs false
set_option linter.unusedVariables false
set_option maxRecDepth 100000
set_option linter.unnecessarySimpa false
namespace Go.Proofs.YtpajpjocakhcdaaGreatDoor
namespace RE
/-- what a node asks of its parts -/
def nfTop (o : Nat) (s : BS) (ks : List RE) : Prop :=
  o < 8 ∧ (o ≠ 2 → s = BS.none) ∧ (o = 2 → s ≠ BS.none) ∧ (o ≤ 2 → ks = []) ∧
  (o = 3 → 2 ≤ ks.length ∧ ∀ k ∈ ks, k.op ≠ 0 ∧ k.op ≠ 1 ∧ k.op ≠ 3) ∧
  (o = 4 → 2 ≤ ks.length ∧ (∀ k ∈ ks, k.op ≠ 0 ∧ k.op ≠ 4) ∧ Strict ks ∧ ∀ x ∈ ks, ∀ y ∈ ks, x.op = 2 → y.op = 2 → x = y) ∧
  (o = 5 → ∃ k, ks = [k] ∧ k.op ≠ 0 ∧ k.op ≠ 1 ∧ k.op ≠ 5) ∧
  (o = 6 → 2 ≤ ks.length ∧ (∀ k ∈ ks, k.op ≠ 0 ∧ k.op ≠ 6) ∧ Strict ks ∧ ∀ x ∈ ks, ∀ y ∈ ks, x.op = 2 → y.op = 2 → x = y) ∧
  (o = 7 → ∃ a b, ks = [a, b] ∧ a.op ≠ 0 ∧ b.op ≠ 0 ∧ a ≠ b ∧ ¬ (a.op = 2 ∧ b.op = 2))
mutual
def nf : RE → Prop | node o s ks => nfTop o s ks ∧ nfs ks
def nfs : List RE → Prop | [] => True | k :: ks => nf k ∧ nfs ks
end
theorem nfs_iff (l : List RE) : nfs l ↔ ∀ r ∈ l, nf r := by
  induction l with
  | nil => simp [nfs]
  | cons a l ih => simp [nfs, ih]
theorem nf_node {o : Nat} {s : BS} {ks : List RE} : nf (node o s ks) ↔ nfTop o s ks ∧ ∀ k ∈ ks, nf k := by rw [nf, nfs_iff]
mutual
theorem nf_wf : (r : RE) → nf r → wf r
  | node o s ks, h => by
    rw [nf] at h
    exact ⟨h.1.1, h.1.2.1, nfs_wfs ks h.2⟩
theorem nfs_wfs : (l : List RE) → nfs l → wfs l
  | [], _ => trivial
  | k :: ks, h => ⟨nf_wf k h.1, nfs_wfs ks h.2⟩
end
theorem nf_kids {r : RE} (h : nf r) : ∀ k ∈ r.kids, nf k := by cases r; exact (nf_node.1 h).2
theorem nf_top {r : RE} (h : nf r) : nfTop r.op r.set r.kids := by cases r; exact (nf_node.1 h).1
theorem nf_ne {r : RE} (h : nf r) (ho : r.op = 3 ∨ r.op = 4 ∨ r.op = 6) : r.kids ≠ [] := by
  have ht := nf_top h
  rintro e
  unfold nfTop at ht
  rw [e] at ht
  rcases ho with ho | ho | ho <;> simp [ho] at ht
theorem nf_nothing : nf nothing := nf_node.2 ⟨by simp [nfTop], by simp⟩
theorem nf_empty : nf empty := nf_node.2 ⟨by simp [nfTop], by simp⟩
theorem nf_one (s : BS) : nf (one s) := by
  unfold one
  split
  · exact nf_nothing
  · rename_i h; exact nf_node.2 ⟨by simp [nfTop, h], by simp⟩
theorem one_op' (s : BS) : (one s).op = if s = BS.none then 0 else 2 := by unfold one; split <;> rfl
/-- expressions that may be nil are in their normal form -/
def nfO (l : List (Option RE)) : Prop := ∀ r, some r ∈ l → nf r
theorem flat1_some (o : Nat) (r : RE) : flat1 o (some r) = if r.op = o then r.kids else [r] := rfl
theorem nf_flat1 (o : Nat) (x : Option RE) (h : ∀ r, x = some r → nf r) : ∀ r ∈ flat1 o x, nf r := by
  cases x with
  | none => intro r hr; have : r = nothing := by simpa [flat1] using hr
            subst this; exact nf_nothing
  | some y =>
    intro r hr
    rw [flat1_some] at hr
    split at hr
    · exact nf_kids (h y rfl) r hr
    · have : r = y := by simpa using hr
      subst this; exact h r rfl
theorem nf_flat {o : Nat} {l : List (Option RE)} (h : nfO l) : ∀ r ∈ flat o l, nf r := by
  intro r hr
  obtain ⟨x, hx, hr⟩ := List.mem_flatMap.1 hr
  exact nf_flat1 o x (fun y hy => h y (by rw [← hy]; exact hx)) r hr
theorem flat_op {o : Nat} (ho : o = 3 ∨ o = 4 ∨ o = 6) {l : List (Option RE)} (h : nfO l) : ∀ r ∈ flat o l, r.op ≠ o := by
  intro r hr0
  obtain ⟨x, hx, hr⟩ := List.mem_flatMap.1 hr0
  cases x with
  | none =>
    have : r = nothing := by simpa [flat1] using hr
    subst this
    show 0 ≠ o
    omega
  | some y =>
    rw [flat1_some] at hr
    have ht := nf_top (h y hx)
    split at hr
    · rename_i hy
      unfold nfTop at ht
      rcases ho with rfl | rfl | rfl
      · exact ((ht.2.2.2.2.1 hy).2 r hr).2.2
      · exact ((ht.2.2.2.2.2.1 hy).2.1 r hr).2
      · exact ((ht.2.2.2.2.2.2.2.1 hy).2.1 r hr).2
    · rename_i hy
      have : r = y := by simpa using hr
      subst this; exact hy
theorem flat_ne {o : Nat} (ho : o = 3 ∨ o = 4 ∨ o = 6) {l : List (Option RE)} (h : nfO l) : ∀ r, some r ∈ l → r.op = o → r.kids ≠ [] := fun r hr hro => nf_ne (h r hr) (by omega)
theorem nf_seqL {all : List RE} (h : ∀ k ∈ all, nf k) (hop : ∀ k ∈ all, k.op ≠ 0 ∧ k.op ≠ 1 ∧ k.op ≠ 3) : nf (seqL all) := by
  unfold seqL
  split
  · exact nf_empty
  · exact h _ (by simp)
  · rename_i h0 h1
    have : 2 ≤ all.length := by
      match all, h0, h1 with
      | [], h0, _ => exact absurd rfl h0
      | [x], _, h1 => exact absurd rfl (h1 x)
      | x :: y :: z, _, _ => simp
    exact nf_node.2 ⟨by simp [nfTop, this]; exact fun k hk => ⟨(hop k hk).1, (hop k hk).2.1, (hop k hk).2.2⟩, h⟩
theorem nf_thenL {l : List (Option RE)} (h : nfO l) : nf (thenL l) := by
  unfold thenL
  split
  · exact nf_nothing
  · rename_i h0
    refine nf_seqL (fun k hk => nf_flat h k (List.mem_filter.1 hk).1) fun k hk => ?_
    have h1 := List.mem_filter.1 hk
    refine ⟨fun e => h0 (List.any_eq_true.2 ⟨k, hk, by simp [e]⟩), by simpa using h1.2, flat_op (.inl rfl) h k h1.1⟩
theorem nf_many {x : Option RE} (h : ∀ r, x = some r → nf r) : nf (many x) := by
  cases x with
  | none => exact nf_empty
  | some r =>
    unfold many
    dsimp only
    split
    · exact nf_empty
    · split
      · exact h r rfl
      · rename_i h1 h2
        exact nf_node.2 ⟨by simp [nfTop]; omega, by simpa using h r rfl⟩
theorem but_inj {a b : RE} (ha : nf a) (hb : nf b) : keyO (some a) = keyO (some b) ↔ a = b := ⟨fun h => key_inj (nf_wf a ha) (nf_wf b hb) h, fun h => by rw [h]⟩
theorem nf_but {a b : Option RE} (ha : ∀ r, a = some r → nf r) (hb : ∀ r, b = some r → nf r) : nf (but a b) := by
  cases a with
  | none => exact nf_nothing
  | some x =>
    unfold but
    dsimp only
    split
    · exact nf_nothing
    · split
      · exact nf_nothing
      · cases b with
        | none => exact ha x rfl
        | some y =>
          dsimp only
          split
          · exact ha x rfl
          · split
            · exact nf_one _
            · rename_i h1 h2 h3 h4
              refine nf_node.2 ⟨?_, ?_⟩
              · unfold nfTop
                refine ⟨by omega, fun _ => rfl, by omega, by omega, by omega, by omega, by omega, by omega, fun _ => ⟨x, y, rfl, h1, h3, fun e => h2 (by rw [e]), h4⟩⟩
              · intro k hk
                simp only [List.mem_cons, List.not_mem_nil, or_false] at hk
                rcases hk with rfl | rfl
                · exact ha _ rfl
                · exact hb _ rfl
theorem nf_set {r : RE} (h : nf r) (h2 : r.op = 2) : r.set ≠ BS.none := (nf_top h).2.2.1 h2
/-- what is known of what was joined so far -/
def JOk (o : Nat) (out : List RE) (x : Option RE) : Prop := (∀ r ∈ out, nf r ∧ r.op ≠ o ∧ r.op ≠ 2) ∧ ∀ y, x = some y → nf y ∧ y.op = 2
theorem joinGo_nf {o : Nat} (ho : o = 4 ∨ o = 6) (f : BS → BS → BS) : ∀ (l out : List RE) (x : Option RE), (∀ r ∈ l, nf r ∧ r.op ≠ o) → JOk o out x →
    (∃ m s t, joinGo f l out x = m ++ [nothing] ∧ (∀ r ∈ m, nf r) ∧ s ≠ BS.none ∧ t ≠ BS.none ∧ f s t = BS.none) ∨ (Strict (joinGo f l out x) ∧ ∀ r ∈ joinGo f l out x, nf r ∧ r.op ≠ o ∧ ∀ r' ∈ joinGo f l out x, r.op = 2 → r'.op = 2 → r = r')
  | [], out, x, _, h => by
    right
    have key : ∀ m : List RE, (∀ r ∈ m, nf r ∧ r.op ≠ o) → (∀ r ∈ m, ∀ r' ∈ m, r.op = 2 → r'.op = 2 → r = r') →
        Strict (uniq m) ∧ ∀ r ∈ uniq m, nf r ∧ r.op ≠ o ∧ ∀ r' ∈ uniq m, r.op = 2 → r'.op = 2 → r = r' := fun m hm h2 => by
      have hw : ∀ r ∈ m, wf r := fun r hr => nf_wf r (hm r hr).1
      obtain ⟨h3, h4⟩ := uniq_spec hw
      exact ⟨h3, fun r hr => ⟨(hm r ((h4 r).1 hr)).1, (hm r ((h4 r).1 hr)).2, fun r' hr' => h2 r ((h4 r).1 hr) r' ((h4 r').1 hr')⟩⟩
    cases x with
    | none =>
      simp only [joinGo]
      exact key out (fun r hr => ⟨(h.1 r hr).1, (h.1 r hr).2.1⟩) fun r hr r' hr' e => absurd e (h.1 r hr).2.2
    | some y =>
      simp only [joinGo]
      obtain ⟨hy, hy2⟩ := h.2 y rfl
      refine key _ (fun r hr => ?_) fun r hr r' hr' e e' => ?_
      · rcases List.mem_append.1 hr with hr | hr
        · exact ⟨(h.1 r hr).1, (h.1 r hr).2.1⟩
        · rw [List.mem_singleton.1 hr]; exact ⟨hy, by omega⟩
      · rcases List.mem_append.1 hr with hr | hr
        · exact absurd e (h.1 r hr).2.2
        · rcases List.mem_append.1 hr' with hr' | hr'
          · exact absurd e' (h.1 r' hr').2.2
          · rw [List.mem_singleton.1 hr, List.mem_singleton.1 hr']
  | r :: rs, out, x, hl, h => by
    have hr := hl r (by simp)
    have hrs : ∀ r ∈ rs, nf r ∧ r.op ≠ o := fun y hy => hl y (by simp [hy])
    by_cases h2 : r.op = 2
    · cases x with
      | none =>
        simp only [joinGo, h2]
        simpa using joinGo_nf ho f rs out (some r) hrs ⟨h.1, fun y hy => by cases hy; exact ⟨hr.1, h2⟩⟩
      | some y =>
        by_cases h0 : (one (f y.set r.set)).op = 0
        · left
          have hn : f y.set r.set = BS.none := by
            rw [one_op'] at h0
            by_cases e : f y.set r.set = BS.none
            · exact e
            · rw [if_neg e] at h0; omega
          have e : joinGo f (r :: rs) out (some y) = out ++ [nothing] := by
            have e1 : one (f y.set r.set) = nothing := by unfold one; rw [if_pos hn]
            simp [joinGo, h2, e1, show nothing.op = 0 from rfl]
          rw [e]
          exact ⟨out, y.set, r.set, rfl, fun r hr => (h.1 r hr).1, nf_set (h.2 y rfl).1 (h.2 y rfl).2, nf_set hr.1 h2, hn⟩
        · have e : joinGo f (r :: rs) out (some y) = joinGo f rs out (some (one (f y.set r.set))) := by simp [joinGo, h2, h0]
          rw [e]
          refine joinGo_nf ho f rs out _ hrs ⟨h.1, fun z hz => ?_⟩
          cases hz
          refine ⟨nf_one _, ?_⟩
          rw [one_op'] at h0 ⊢
          split at h0
          · omega
          · rename_i e; rw [if_neg e]
    · simp only [joinGo, ne_eq, h2, not_false_eq_true, if_true]
      refine joinGo_nf ho f rs (out ++ [r]) x hrs ⟨fun y hy => ?_, h.2⟩
      rcases List.mem_append.1 hy with hy | hy
      · exact h.1 y hy
      · rw [List.mem_singleton.1 hy]; exact ⟨hr.1, hr.2, h2⟩
theorem orS_none {s t : BS} (h : orS s t = BS.none) : s = BS.none := by
  obtain ⟨a, b, c, d⟩ := s
  obtain ⟨a', b', c', d'⟩ := t
  have e : ∀ x y : BitVec 64, x ||| y = 0 → x = 0 := fun x y h => by
    apply BitVec.eq_of_getLsbD_eq
    intro i hi
    have := congrArg (fun z : BitVec 64 => z.getLsbD i) h
    simp at this
    simp [this.1]
  simp only [orS, BS.none, BS.mk.injEq] at h ⊢
  exact ⟨e _ _ h.1, e _ _ h.2.1, e _ _ h.2.2.1, e _ _ h.2.2.2⟩
theorem nf_joinL {o : Nat} (ho : o = 4 ∨ o = 6) (f : BS → BS → BS) {l : List (Option RE)} (h : nfO l) : ∀ r ∈ joinL o f l, nf r := by
  have := joinGo_nf ho f (flat o l) [] none (fun r hr => ⟨nf_flat h r hr, flat_op (by omega) h r hr⟩) ⟨by simp, by simp⟩
  intro r hr
  unfold joinL at hr
  rcases this with ⟨m, _, _, e, hm, _⟩ | ⟨_, h2⟩
  · rw [e] at hr
    rcases List.mem_append.1 hr with hr | hr
    · exact hm r hr
    · rw [List.mem_singleton.1 hr]; exact nf_nothing
  · exact (h2 r hr).1
theorem two_le {all : List RE} (h0 : all ≠ []) (h1 : ∀ x, all ≠ [x]) : 2 ≤ all.length := by
  match all, h0, h1 with
  | [], h0, _ => exact absurd rfl h0
  | [x], _, h1 => exact absurd rfl (h1 x)
  | x :: y :: z, _, _ => simp
theorem nf_anyOf {all : List RE} (h : ∀ k ∈ all, nf k ∧ k.op ≠ 0 ∧ k.op ≠ 4) (hs : Strict all) (h2 : ∀ x ∈ all, ∀ y ∈ all, x.op = 2 → y.op = 2 → x = y) : nf (anyOf all) := by
  unfold anyOf
  split
  · exact nf_nothing
  · exact (h _ (by simp)).1
  · rename_i h0 h1
    have hl := two_le (fun e => h0 e) (fun x e => h1 x e)
    refine nf_node.2 ⟨?_, fun k hk => (h k hk).1⟩
    unfold nfTop
    exact ⟨by omega, fun _ => rfl, by omega, by omega, by omega, fun _ => ⟨hl, fun k hk => (h k hk).2, hs, h2⟩, by omega, by omega, by omega⟩
theorem nf_bothOf {all : List RE} (h : ∀ k ∈ all, nf k ∧ k.op ≠ 0 ∧ k.op ≠ 6) (hs : Strict all) (h2 : ∀ x ∈ all, ∀ y ∈ all, x.op = 2 → y.op = 2 → x = y) : nf (bothOf all) := by
  unfold bothOf
  split
  · exact nf_many fun r hr => by cases hr; exact nf_one _
  · exact (h _ (by simp)).1
  · rename_i h0 h1
    have hl := two_le (fun e => h0 e) (fun x e => h1 x e)
    refine nf_node.2 ⟨?_, fun k hk => (h k hk).1⟩
    unfold nfTop
    exact ⟨by omega, fun _ => rfl, by omega, by omega, by omega, by omega, by omega, fun _ => ⟨hl, fun k hk => (h k hk).2, hs, h2⟩, by omega⟩
theorem joinL_or_spec {l : List (Option RE)} (h : nfO l) : Strict (joinL 4 orS l) ∧ ∀ r ∈ joinL 4 orS l, nf r ∧ r.op ≠ 4 ∧ ∀ r' ∈ joinL 4 orS l, r.op = 2 → r'.op = 2 → r = r' := by
  have hl : ∀ r ∈ flat 4 l, nf r ∧ r.op ≠ 4 := fun r hr => ⟨nf_flat h r hr, flat_op (by omega) h r hr⟩
  rcases joinGo_nf (.inl rfl) orS (flat 4 l) [] none hl ⟨by simp, by simp⟩ with ⟨_, _, _, _, _, hs, _, he⟩ | h2
  · exact absurd (orS_none he) hs
  · exact h2
theorem Strict.filter {l : List RE} (h : Strict l) (p : RE → Bool) : Strict (l.filter p) := List.Pairwise.filter _ h
theorem nf_anyL {l : List (Option RE)} (h : nfO l) : nf (anyL l) := by
  obtain ⟨h1, h2⟩ := joinL_or_spec h
  refine nf_anyOf (fun k hk => ?_) (h1.filter _) fun x hx y hy => (h2 x (List.mem_filter.1 hx).1).2.2 y (List.mem_filter.1 hy).1
  have hk' := List.mem_filter.1 hk
  exact ⟨(h2 k hk'.1).1, by simpa using hk'.2, (h2 k hk'.1).2.1⟩
theorem nf_bothL {l : List (Option RE)} (h : nfO l) : nf (bothL l) := by
  unfold bothL
  split
  · exact nf_nothing
  · rename_i h0
    have hl : ∀ r ∈ flat 6 l, nf r ∧ r.op ≠ 6 := fun r hr => ⟨nf_flat h r hr, flat_op (by omega) h r hr⟩
    have hop : ∀ r ∈ joinL 6 andS l, r.op ≠ 0 := fun r hr e => h0 (List.any_eq_true.2 ⟨r, hr, by simp [e]⟩)
    rcases joinGo_nf (.inr rfl) andS (flat 6 l) [] none hl ⟨by simp, by simp⟩ with ⟨m, _, _, e, _⟩ | ⟨h1, h2⟩
    · exact absurd rfl (hop nothing (by unfold joinL; rw [e]; simp))
    · exact nf_bothOf (fun k hk => ⟨(h2 k hk).1, hop k hk, (h2 k hk).2.1⟩) h1 fun x hx => (h2 x hx).2.2
theorem joinGo_sizes (f : BS → BS → BS) : ∀ (l out : List RE) (x : Option RE), sizes (joinGo f l out x) ≤ sizes l + sizes out + sizeO x
  | [], out, none => by simp only [joinGo, sizes, sizeO]; have := uniq_sizes out; omega
  | [], out, some y => by simp only [joinGo, sizes, sizeO]; have := uniq_sizes (out ++ [y]); rw [sizes_append] at this; simp only [sizes] at this; omega
  | r :: rs, out, x => by
    have hr := size_pos r
    have hone : ∀ s, (one s).size = 1 := fun s => by unfold one; split <;> simp [nothing, size, sizes]
    by_cases h2 : r.op = 2
    · cases x with
      | none =>
        have := joinGo_sizes f rs out (some r)
        simp only [joinGo, h2, sizes, sizeO] at this ⊢
        simp only [ne_eq, not_true_eq_false, if_false]; omega
      | some y =>
        by_cases h0 : (one (f y.set r.set)).op = 0
        · have := hone (f y.set r.set)
          simp only [joinGo, h2, h0, ne_eq, not_true_eq_false, if_false, if_true, sizes_append, sizes, sizeO]; omega
        · have := joinGo_sizes f rs out (some (one (f y.set r.set)))
          have := hone (f y.set r.set)
          have := size_pos y
          simp only [joinGo, h2, h0, ne_eq, not_true_eq_false, if_false, sizes, sizeO] at *; omega
    · have := joinGo_sizes f rs (out ++ [r]) x
      simp only [joinGo, ne_eq, h2, not_false_eq_true, if_true, sizes_append, sizes] at this ⊢; omega
theorem joinL_sizes (o : Nat) (f : BS → BS → BS) (l : List (Option RE)) : sizes (joinL o f l) ≤ sizes (flat o l) := by
  have := joinGo_sizes f (flat o l) [] none
  simpa [joinL, sizes, sizeO] using this
theorem sizes_filter (l : List RE) (p : RE → Bool) : sizes (l.filter p) ≤ sizes l := by
  induction l with
  | nil => simp
  | cons a l ih => rw [List.filter_cons]; split <;> simp only [sizes] <;> omega
theorem one_size' (s : BS) : (one s).size = 1 := by unfold one; split <;> simp [nothing, size, sizes]
def sizeOs (l : List (Option RE)) : Nat := (l.map fun x => 1 + sizeO x).sum
theorem sizes_flat (o : Nat) (l : List (Option RE)) : sizes (flat o l) ≤ sizeOs l := by
  induction l with
  | nil => simp [flat, sizes, sizeOs]
  | cons x l ih =>
    have h1 : sizes (flat1 o x) ≤ 1 + sizeO x := by
      cases x with
      | none => simp [flat1, sizes, nothing, size, sizeO]
      | some r =>
        rw [flat1_some]
        split
        · cases r; simp [kids, sizeO, size]; omega
        · simp [sizes, sizeO]
    simp only [flat, List.flatMap_cons, sizes_append, sizeOs, List.map_cons, List.sum_cons] at ih ⊢
    omega
theorem size_thenL (l : List (Option RE)) : (thenL l).size ≤ 1 + sizeOs l := by
  have h1 := sizes_flat 3 l
  have h2 := sizes_filter (flat 3 l) fun r => r.op != 1
  unfold thenL
  split
  · simp [nothing, size, sizes]
  · generalize (flat 3 l).filter (fun r => r.op != 1) = F at *
    unfold seqL
    split
    · simp [empty, size, sizes]
    · simp [sizes] at h2; omega
    · simp only [size]; omega
theorem size_anyL (l : List (Option RE)) : (anyL l).size ≤ 1 + sizeOs l := by
  have h1 := sizes_flat 4 l
  have h2 := sizes_filter (joinL 4 orS l) fun r => r.op != 0
  have h3 := joinL_sizes 4 orS l
  unfold anyL
  generalize (joinL 4 orS l).filter (fun r => r.op != 0) = F at *
  unfold anyOf
  split
  · simp [nothing, size, sizes]
  · simp [sizes] at h2; omega
  · simp only [size]; omega
theorem size_many (x : Option RE) : (many x).size ≤ 1 + sizeO x := by
  cases x with
  | none => simp [many, empty, size, sizes]
  | some r =>
    unfold many
    dsimp only
    split
    · simp [empty, size, sizes]
    · split <;> simp [sizeO, size, sizes]
theorem size_bothL (l : List (Option RE)) : (bothL l).size ≤ 2 + sizeOs l := by
  have h1 := sizes_flat 6 l
  have h3 := joinL_sizes 6 andS l
  unfold bothL
  split
  · simp [nothing, size, sizes]; omega
  · generalize joinL 6 andS l = F at *
    unfold bothOf
    split
    · have := size_many (some (one BS.all))
      have h : (one BS.all).size = 1 := one_size' _
      simp only [sizeO] at this; omega
    · simp [sizes] at h3; omega
    · simp only [size]; omega
theorem size_but (a b : Option RE) : (but a b).size ≤ 1 + sizeO a + sizeO b := by
  cases a with
  | none => simp [but, nothing, size, sizes]; omega
  | some x =>
    unfold but
    dsimp only
    split
    · simp [nothing, size, sizes]; omega
    · split
      · simp [nothing, size, sizes]; omega
      · cases b with
        | none => simp [sizeO]
        | some y =>
          dsimp only
          split
          · simp [sizeO]; omega
          · split
            · have := one_size' (minusS x.set y.set); omega
            · simp [sizeO, size, sizes]; omega
end RE
end Go.Proofs.YtpajpjocakhcdaaGreatDoor
