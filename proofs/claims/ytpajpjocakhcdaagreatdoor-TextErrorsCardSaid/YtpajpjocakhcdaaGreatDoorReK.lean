/-
  The text by which expressions are told apart tells them apart. Plain Lean: no program stands in it.
-/
import Derived.Test.YtpajpjocakhcdaaGreatDoorReP
set_option linter.unusedSimpArgs false
set_option linter.unusedVariables false
set_option maxRecDepth 100000
set_option linter.unnecessarySimpa false
namespace Go.Proofs.YtpajpjocakhcdaaGreatDoor
def undg (c : UInt8) : Nat := if c.toNat < 58 then c.toNat - 48 else c.toNat - 87
theorem undg_dg : ∀ k, k < 36 → undg (dg36 k) = k := by decide
theorem dg36_ne : ∀ k, k < 36 → dg36 k ≠ 32 ∧ dg36 k ≠ 41 := by decide
def val36 (l : List UInt8) : Nat := l.foldl (fun n c => 36 * n + undg c) 0
theorem val36_fmt (u : Nat) : val36 (fmt36 u) = u := by
  induction u using Nat.strongRecOn with
  | ind u ih =>
    by_cases h : u < 36
    · rw [fmt36_lt h]; simp [val36, undg_dg u h]
    · rw [fmt36_ge h, val36, List.foldl_append]
      have := ih (u / 36) (by omega)
      rw [val36] at this
      rw [this, List.foldl_cons, List.foldl_nil, undg_dg _ (by omega)]; omega
theorem fmt36_inj {u v : Nat} (h : fmt36 u = fmt36 v) : u = v := by rw [← val36_fmt u, ← val36_fmt v, h]
theorem fmt36_ne (u : Nat) : ∀ c ∈ fmt36 u, c ≠ 32 ∧ c ≠ 41 := by
  induction u using Nat.strongRecOn with
  | ind u ih =>
    intro c hc
    by_cases h : u < 36
    · rw [fmt36_lt h] at hc; simp at hc; subst hc; exact dg36_ne u h
    · rw [fmt36_ge h] at hc
      simp at hc
      rcases hc with hc | hc
      · exact ih _ (by omega) c hc
      · subst hc; exact dg36_ne _ (by omega)
/-- what comes ahead of the first of two bytes is one -/
theorem ahead_inj {d e : List UInt8} {c c' : UInt8} {x y : List UInt8} (hd : ∀ b ∈ d, b ≠ 32 ∧ b ≠ 41) (he : ∀ b ∈ e, b ≠ 32 ∧ b ≠ 41) (hc : c = 32 ∨ c = 41) (hc' : c' = 32 ∨ c' = 41) (h : d ++ c :: x = e ++ c' :: y) : d = e ∧ c = c' ∧ x = y := by
  induction d generalizing e with
  | nil =>
    cases e with
    | nil => simp at h; exact ⟨rfl, h⟩
    | cons b e =>
      simp at h
      have := he b (by simp)
      rcases hc with rfl | rfl
      · exact absurd h.1.symm this.1
      · exact absurd h.1.symm this.2
  | cons a d ih =>
    cases e with
    | nil =>
      simp at h
      have := hd a (by simp)
      rcases hc' with rfl | rfl
      · exact absurd h.1 this.1
      · exact absurd h.1 this.2
    | cons b e =>
      simp at h
      obtain ⟨h1, h2, h3⟩ := ih (fun b hb => hd b (by simp [hb])) (fun b hb => he b (by simp [hb])) h.2
      exact ⟨by rw [h.1, h1], h2, h3⟩
namespace RE
mutual
def wf : RE → Prop | node o s ks => o < 8 ∧ (o ≠ 2 → s = BS.none) ∧ wfs ks
def wfs : List RE → Prop | [] => True | k :: ks => wf k ∧ wfs ks
end
theorem wfs_iff (l : List RE) : wfs l ↔ ∀ r ∈ l, wf r := by
  induction l with
  | nil => simp [wfs]
  | cons a l ih => simp [wfs, ih]
/-- the parts, each behind a blank, and what ends them -/
def tailK (l : List (List UInt8)) (z : List UInt8) : List UInt8 := match l with | [] => 41 :: z | k :: l => 32 :: (k ++ tailK l z)
theorem join_tail (p : List UInt8) (l : List (List UInt8)) (z : List UInt8) : Lib.join (p :: l) [32] ++ 41 :: z = p ++ tailK l z := by
  induction l generalizing p with
  | nil => simp [Lib.join, tailK]
  | cons a l ih =>
    rw [tailK, ← ih a]
    simp [Lib.join]
theorem key_eq (o : Nat) (s : BS) (ks : List RE) (z : List UInt8) : key (node o s ks) ++ z = 40 :: (48 + o).toUInt8 :: tailK ((if o = 2 then words36 s else []) ++ keys ks) z := by
  have := join_tail [(48 + o).toUInt8] ((if o = 2 then words36 s else []) ++ keys ks) z
  simp only [key, parts]
  simp only [List.append_assoc, List.cons_append, List.nil_append] at this ⊢
  rw [this]
theorem tailK_head (l : List (List UInt8)) (z : List UInt8) : ∃ c y, tailK l z = c :: y ∧ (c = 32 ∨ c = 41) := by
  cases l with
  | nil => exact ⟨41, z, rfl, .inr rfl⟩
  | cons k l => exact ⟨32, _, rfl, .inl rfl⟩
theorem word_inj {u v : Nat} {l l' : List (List UInt8)} {x y : List UInt8} (h : tailK (fmt36 u :: l) x = tailK (fmt36 v :: l') y) : u = v ∧ tailK l x = tailK l' y := by
  obtain ⟨c, z, hz, hc⟩ := tailK_head l x
  obtain ⟨c', z', hz', hc'⟩ := tailK_head l' y
  simp only [tailK, hz, hz', List.cons.injEq, true_and] at h
  obtain ⟨h1, h2, h3⟩ := ahead_inj (fmt36_ne u) (fmt36_ne v) hc hc' h
  exact ⟨fmt36_inj h1, by rw [hz, hz', h2, h3]⟩
theorem op_inj : ∀ o, o < 8 → ∀ o', o' < 8 → (48 + o).toUInt8 = (48 + o').toUInt8 → o = o' := by decide
mutual
theorem key_inj' : (r r' : RE) → (x y : List UInt8) → wf r → wf r' → key r ++ x = key r' ++ y → r = r' ∧ x = y
  | node o s ks, node o' s' ks', x, y, h, h', e => by
    simp only [wf] at h h'
    rw [key_eq, key_eq] at e
    simp only [List.cons.injEq, true_and] at e
    obtain ⟨e1, e2⟩ := e
    obtain rfl := op_inj o h.1 o' h'.1 e1
    by_cases ho : o = 2
    · simp only [ho, if_true, words36, List.cons_append, List.nil_append] at e2
      obtain ⟨a1, e2⟩ := word_inj e2
      obtain ⟨a2, e2⟩ := word_inj e2
      obtain ⟨a3, e2⟩ := word_inj e2
      obtain ⟨a4, e2⟩ := word_inj e2
      obtain ⟨h1, h2⟩ := keys_inj' ks ks' x y h.2.2 h'.2.2 e2
      obtain ⟨sa, sb, sc, sd⟩ := s
      obtain ⟨ta, tb, tc, td⟩ := s'
      have b1 : sa = ta := BitVec.eq_of_toNat_eq a1
      have b2 : sb = tb := BitVec.eq_of_toNat_eq a2
      have b3 : sc = tc := BitVec.eq_of_toNat_eq a3
      have b4 : sd = td := BitVec.eq_of_toNat_eq a4
      rw [b1, b2, b3, b4, h1]; exact ⟨rfl, h2⟩
    · simp only [if_neg ho, List.nil_append] at e2
      obtain ⟨h1, h2⟩ := keys_inj' ks ks' x y h.2.2 h'.2.2 e2
      rw [h1, h.2.1 ho, h'.2.1 ho]; exact ⟨rfl, h2⟩
theorem keys_inj' : (l l' : List RE) → (x y : List UInt8) → wfs l → wfs l' → tailK (keys l) x = tailK (keys l') y → l = l' ∧ x = y
  | [], [], x, y, _, _, e => by simp [keys, tailK] at e; exact ⟨rfl, e⟩
  | [], _ :: _, x, y, _, _, e => by simp [keys, tailK] at e
  | _ :: _, [], x, y, _, _, e => by simp [keys, tailK] at e
  | k :: l, k' :: l', x, y, h, h', e => by
    simp only [keys, tailK, List.cons.injEq, true_and] at e
    simp only [wfs] at h h'
    obtain ⟨h1, h2⟩ := key_inj' k k' _ _ h.1 h'.1 e
    obtain ⟨h3, h4⟩ := keys_inj' l l' x y h.2 h'.2 h2
    exact ⟨by rw [h1, h3], h4⟩
end
theorem key_inj {r r' : RE} (h : wf r) (h' : wf r') (e : key r = key r') : r = r' := (key_inj' r r' [] [] h h' (by simpa using e)).1
theorem tailK_len (l : List (List UInt8)) (z : List UInt8) : (tailK l z).length = 1 + (l.map fun k => k.length + 1).sum + z.length := by
  induction l with
  | nil => simp [tailK]; omega
  | cons k l ih => simp [tailK, ih]; omega
theorem words36_len (s : BS) : ((words36 s).map fun k => k.length + 1).sum ≤ 56 := by
  have h := fun x : BitVec 64 => fmt36_len 12 x.toNat (by have := x.isLt; omega)
  have h1 := h s.a; have h2 := h s.b; have h3 := h s.c; have h4 := h s.d
  simp [words36]; omega
mutual
theorem key_len : (r : RE) → (key r).length + 1 ≤ 64 * size r
  | node o s ks => by
    have e := congrArg List.length (key_eq o s ks [])
    simp only [List.append_nil, List.length_cons, tailK_len, List.map_append, List.sum_append, List.length_nil] at e
    have h := keys_len ks
    have hw := words36_len s
    rw [size]
    by_cases ho : o = 2
    · simp only [ho, if_true] at e; subst ho; omega
    · simp only [if_neg ho, List.map_nil, List.sum_nil] at e; omega
theorem keys_len : (l : List RE) → ((keys l).map fun k => k.length + 1).sum ≤ 64 * sizes l
  | [] => by simp [keys, sizes]
  | k :: l => by
    have h1 := key_len k
    have h2 := keys_len l
    simp only [keys, List.map_cons, List.sum_cons, sizes]; omega
end
theorem join_len (o : Nat) (s : BS) (ks : List RE) : (Lib.join (parts o s (keys ks)) [32]).length + 3 ≤ 64 * (1 + sizes ks) := by
  have h := key_len (node o s ks)
  simp only [key, size, List.length_append, List.length_cons, List.length_nil] at h
  omega
theorem size_pos : (r : RE) → 1 ≤ size r
  | node _ _ _ => by simp [size]
theorem len_sizes (l : List RE) : l.length ≤ sizes l := by
  induction l with
  | nil => simp
  | cons a l ih => have := size_pos a; simp [sizes]; omega
theorem sizes_take (l : List RE) (k : Nat) : sizes (l.take k) ≤ sizes l := by
  conv => rhs; rw [← List.take_append_drop k l, sizes_append]
  omega
theorem take_snoc (l : List RE) (k : Nat) (h : k < l.length) : l.take (k + 1) = l.take k ++ [l.getD k nothing] := by
  rw [List.take_succ_eq_append_getElem h]; simp [List.getD, h]
theorem keys_append (l l' : List RE) : keys (l ++ l') = keys l ++ keys l' := by simp [keys_map]
theorem parts_snoc (o : Nat) (s : BS) (ks : List (List UInt8)) (k : List UInt8) : parts o s (ks ++ [k]) = parts o s ks ++ [k] := by simp [parts]
end RE
end Go.Proofs.YtpajpjocakhcdaaGreatDoor
