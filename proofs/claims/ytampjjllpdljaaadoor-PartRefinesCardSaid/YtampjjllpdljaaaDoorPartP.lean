/-
  Parts of all bytes, as lists of sets: cut by sets one behind the other, put in the order of their least bytes; of each byte the last set of a list that has it. Plain Lean: no program stands in it.
-/
import Derived.Test.YtampjjllpdljaaaDoorSetP
set_option linter.unusedSimpArgs false
set_option linter.unusedVariables false
set_option maxRecDepth 100000
namespace Go.Proofs.YtampjjllpdljaaaDoor

/-- of the first k sets the last one that has the byte; 0 if none has -/
def idxTo (l : List BS) : Nat → Nat → Nat
  | 0, _ => 0
  | k + 1, b => if (l.getD k BS.none).has b = true then k else idxTo l k b
theorem idxTo_yes (l : List BS) (k b : Nat) (h : (l.getD k BS.none).has b = true) : idxTo l (k + 1) b = k := by rw [idxTo, if_pos h]
theorem idxTo_no (l : List BS) (k b : Nat) (h : (l.getD k BS.none).has b = false) : idxTo l (k + 1) b = idxTo l k b := by rw [idxTo, if_neg (by rw [h]; decide)]
theorem idxTo_le (l : List BS) (b : Nat) : ∀ k, idxTo l k b ≤ k
  | 0 => Nat.le_refl _
  | k + 1 => by have := idxTo_le l b k; unfold idxTo; split <;> omega
theorem idxTo_lt (l : List BS) (b k : Nat) (h : 0 < k) : idxTo l k b < k := by
  obtain ⟨k, rfl⟩ : ∃ m, k = m + 1 := ⟨k - 1, by omega⟩
  have := idxTo_le l b k
  unfold idxTo; split <;> omega

def cutQ (q : BS) : List BS := if q = BS.none then [] else [q]
def cut2 (s p : BS) : List BS := cutQ (p.and s) ++ cutQ (p.minus s)
def cutAll (s : BS) (ps : List BS) : List BS := ps.flatMap (cut2 s)
def parts0 (list : List BS) : List BS := list.foldl (fun ps s => cutAll s ps) [BS.all]
def srt (ps : List BS) : Nat → List BS × BS
  | 0 => ([], BS.none)
  | b + 1 => if (srt ps b).2.has b = true then srt ps b else match ps.find? (fun p => p.has b) with
    | some p => ((srt ps b).1 ++ [p], (srt ps b).2.or p)
    | none => srt ps b
def refL (list : List BS) : List BS := (srt (parts0 list) 256).1

theorem cutQ_len (q : BS) : (cutQ q).length ≤ 1 := by unfold cutQ; split <;> simp
theorem cut2_len (s p : BS) : (cut2 s p).length ≤ 2 := by
  unfold cut2; rw [List.length_append]; have := cutQ_len (p.and s); have := cutQ_len (p.minus s); omega
theorem cutAll_len (s : BS) (ps : List BS) : (cutAll s ps).length ≤ 2 * ps.length := by
  induction ps with
  | nil => simp [cutAll]
  | cons p ps ih =>
    have := cut2_len s p
    simp only [cutAll, List.flatMap_cons, List.length_append, List.length_cons] at ih ⊢
    omega
theorem cutAll_snoc (s : BS) (ps : List BS) (p : BS) : cutAll s (ps ++ [p]) = cutAll s ps ++ cut2 s p := by simp [cutAll]
theorem parts0_snoc (l : List BS) (s : BS) : parts0 (l ++ [s]) = cutAll s (parts0 l) := by simp [parts0]
theorem parts0_len (l : List BS) : (parts0 l).length ≤ 2 ^ l.length := by
  have key : ∀ (l ps : List BS), (l.foldl (fun ps s => cutAll s ps) ps).length ≤ 2 ^ l.length * ps.length := by
    intro l
    induction l with
    | nil => intro ps; simp
    | cons s l ih =>
      intro ps
      have h1 := ih (cutAll s ps)
      have h2 := cutAll_len s ps
      rw [List.foldl_cons, List.length_cons, Nat.pow_succ]
      calc _ ≤ 2 ^ l.length * (cutAll s ps).length := h1
        _ ≤ 2 ^ l.length * (2 * ps.length) := Nat.mul_le_mul_left _ h2
        _ = 2 ^ l.length * 2 * ps.length := by rw [Nat.mul_assoc]
  have := key l [BS.all]
  simpa [parts0] using this
theorem srt_len (ps : List BS) : ∀ b, (srt ps b).1.length ≤ b
  | 0 => Nat.le_refl _
  | b + 1 => by
    have := srt_len ps b
    unfold srt
    split
    · omega
    · split
      · simp; omega
      · omega
theorem refL_len (l : List BS) : (refL l).length ≤ 256 := srt_len _ _
theorem srt_seen (ps : List BS) (b : Nat) (h : (srt ps b).2.has b = true) : srt ps (b + 1) = srt ps b := by rw [srt, if_pos h]
theorem srt_some (ps : List BS) (b : Nat) (p : BS) (h : (srt ps b).2.has b = false) (hp : ps.find? (fun p => p.has b) = some p) : srt ps (b + 1) = ((srt ps b).1 ++ [p], (srt ps b).2.or p) := by
  rw [srt, if_neg (by rw [h]; decide), hp]
theorem srt_none (ps : List BS) (b : Nat) (h : (srt ps b).2.has b = false) (hp : ps.find? (fun p => p.has b) = none) : srt ps (b + 1) = srt ps b := by
  rw [srt, if_neg (by rw [h]; decide), hp]

/-- the classes of a relation on bytes, each once -/
structure IsPart (R : Nat → Nat → Prop) (ps : List BS) : Prop where
  some : ∀ p ∈ ps, ∃ b, b < 256 ∧ p.has b = true
  cover : ∀ b, b < 256 → ∃ p ∈ ps, p.has b = true
  cls : ∀ p ∈ ps, ∀ a b, a < 256 → b < 256 → p.has a = true → (p.has b = true ↔ R a b)

theorem not_none {q : BS} (h : q ≠ BS.none) : ∃ b, b < 256 ∧ q.has b = true := by
  apply Classical.byContradiction
  intro hn
  apply h
  apply BS.ext_has
  intro i hi
  rw [BS.has_none]
  cases hq : q.has i with
  | false => rfl
  | true => exact absurd ⟨i, hi, hq⟩ hn
theorem mem_cutQ {q r : BS} : r ∈ cutQ q ↔ r = q ∧ q ≠ BS.none := by
  unfold cutQ; split <;> rename_i h <;> simp [h]
theorem has_ne_none {q : BS} {b : Nat} (h : q.has b = true) : q ≠ BS.none := fun e => by rw [e, BS.has_none] at h; cases h
theorem IsPart.all : IsPart (fun _ _ => True) [BS.all] := by
  refine ⟨fun p hp => ⟨0, by omega, ?_⟩, fun b _ => ⟨BS.all, by simp, BS.has_all b⟩, fun p hp a b _ _ _ => ?_⟩
  · obtain rfl : p = BS.all := by simpa using hp
    exact BS.has_all 0
  · obtain rfl : p = BS.all := by simpa using hp
    simp [BS.has_all]
theorem IsPart.cut {R : Nat → Nat → Prop} {ps : List BS} (h : IsPart R ps) (s : BS) : IsPart (fun a b => R a b ∧ s.has a = s.has b) (cutAll s ps) := by
  have hm : ∀ q, q ∈ cutAll s ps ↔ ∃ p ∈ ps, (q = p.and s ∨ q = p.minus s) ∧ q ≠ BS.none := by
    intro q
    simp only [cutAll, cut2, List.mem_flatMap, List.mem_append, mem_cutQ]
    constructor
    · rintro ⟨p, hp, ⟨h1, h2⟩ | ⟨h1, h2⟩⟩
      · exact ⟨p, hp, .inl h1, by rw [h1]; exact h2⟩
      · exact ⟨p, hp, .inr h1, by rw [h1]; exact h2⟩
    · rintro ⟨p, hp, h1 | h1, h2⟩
      · exact ⟨p, hp, .inl ⟨h1, by rw [← h1]; exact h2⟩⟩
      · exact ⟨p, hp, .inr ⟨h1, by rw [← h1]; exact h2⟩⟩
  refine ⟨fun q hq => ?_, fun b hb => ?_, fun q hq a b ha hb hqa => ?_⟩
  · obtain ⟨p, hp, _, h2⟩ := (hm q).1 hq
    exact not_none h2
  · obtain ⟨p, hp, hpb⟩ := h.cover b hb
    cases hs : s.has b with
    | true =>
      have e : (p.and s).has b = true := by rw [BS.has_and, hpb, hs]; rfl
      exact ⟨p.and s, (hm _).2 ⟨p, hp, .inl rfl, has_ne_none e⟩, e⟩
    | false =>
      have e : (p.minus s).has b = true := by rw [BS.has_minus, hpb, hs]; rfl
      exact ⟨p.minus s, (hm _).2 ⟨p, hp, .inr rfl, has_ne_none e⟩, e⟩
  · obtain ⟨p, hp, e | e, _⟩ := (hm q).1 hq
    · subst e
      rw [BS.has_and, Bool.and_eq_true] at hqa
      rw [BS.has_and, Bool.and_eq_true, h.cls p hp a b ha hb hqa.1, hqa.2]
      constructor
      · rintro ⟨h1, h2⟩; exact ⟨h1, h2.symm⟩
      · rintro ⟨h1, h2⟩; exact ⟨h1, h2.symm⟩
    · subst e
      rw [BS.has_minus, Bool.and_eq_true] at hqa
      have hsa : s.has a = false := by simpa using hqa.2
      rw [BS.has_minus, Bool.and_eq_true, h.cls p hp a b ha hb hqa.1, hsa]
      constructor
      · rintro ⟨h1, h2⟩; exact ⟨h1, by simpa using h2.symm⟩
      · rintro ⟨h1, h2⟩; exact ⟨h1, by rw [← h2]; rfl⟩
theorem IsPart.congr {R R' : Nat → Nat → Prop} {ps : List BS} (h : IsPart R ps) (hR : ∀ a b, R a b ↔ R' a b) : IsPart R' ps :=
  ⟨h.some, h.cover, fun p hp a b ha hb hpa => (h.cls p hp a b ha hb hpa).trans (hR a b)⟩
/-- in one part: no set of the list parts them -/
def sameIn (l : List BS) (a b : Nat) : Prop := ∀ s ∈ l, s.has a = s.has b
theorem parts0_part (l : List BS) : IsPart (sameIn l) (parts0 l) := by
  have key : ∀ (l ps : List BS) (R : Nat → Nat → Prop), IsPart R ps → IsPart (fun a b => R a b ∧ sameIn l a b) (l.foldl (fun ps s => cutAll s ps) ps) := by
    intro l
    induction l with
    | nil => intro ps R h; exact h.congr (fun a b => by simp [sameIn])
    | cons s l ih =>
      intro ps R h
      refine (ih _ _ (h.cut s)).congr (fun a b => ?_)
      simp only [sameIn, List.mem_cons, forall_eq_or_imp, and_assoc]
  exact (key l [BS.all] _ IsPart.all).congr (fun a b => by simp)
theorem IsPart.one {R : Nat → Nat → Prop} {ps qs : List BS} (h : IsPart R ps) (h' : IsPart R qs) {p q : BS} (hp : p ∈ ps) (hq : q ∈ qs) {a : Nat} (ha : a < 256) (hpa : p.has a = true) (hqa : q.has a = true) : p = q := by
  apply BS.ext_has
  intro i hi
  have h1 := h.cls p hp a i ha hi hpa
  have h2 := h'.cls q hq a i ha hi hqa
  rw [Bool.eq_iff_iff, h1, h2]
theorem IsPart.find {R : Nat → Nat → Prop} {ps : List BS} (h : IsPart R ps) {b : Nat} (hb : b < 256) : ∃ p, ps.find? (fun p => p.has b) = Option.some p ∧ p ∈ ps ∧ p.has b = true := by
  cases hf : ps.find? (fun p => p.has b) with
  | none =>
    obtain ⟨p, hp, hpb⟩ := h.cover b hb
    have := List.find?_eq_none.1 hf p hp
    exact absurd hpb this
  | some p => exact ⟨p, rfl, List.mem_of_find?_eq_some hf, List.find?_some (p := fun p : BS => p.has b) hf⟩
theorem srt_congr {R : Nat → Nat → Prop} {ps qs : List BS} (h : IsPart R ps) (h' : IsPart R qs) : ∀ b, b ≤ 256 → srt ps b = srt qs b
  | 0, _ => rfl
  | b + 1, hb => by
    have ih := srt_congr h h' b (by omega)
    obtain ⟨p, hp, hpm, hpb⟩ := h.find (show b < 256 by omega)
    obtain ⟨q, hq, hqm, hqb⟩ := h'.find (show b < 256 by omega)
    obtain rfl := h.one h' hpm hqm (show b < 256 by omega) hpb hqb
    unfold srt
    rw [ih, hp, hq]
/-- the parts hang on which bytes the sets part, on nothing else -/
theorem refL_congr {l l' : List BS} (h : ∀ a b, sameIn l a b ↔ sameIn l' a b) : refL l = refL l' := by
  unfold refL
  rw [srt_congr (parts0_part l) ((parts0_part l').congr (fun a b => (h a b).symm)) 256 (Nat.le_refl _)]
/-- turned round, and the first set again, and the first set's others -/
theorem sameIn_turned (l : List BS) (s : BS) (hs : s ∈ l) (k : Nat) (a b : Nat) : sameIn l a b ↔ sameIn (l.drop k ++ l.take k ++ [s, s.not]) a b := by
  have hm : ∀ x, x ∈ l ↔ x ∈ l.drop k ++ l.take k := fun x => by
    rw [List.mem_append]
    conv => lhs; rw [← List.take_append_drop k l]
    rw [List.mem_append]; exact or_comm
  constructor
  · intro h x hx
    rw [List.mem_append] at hx
    rcases hx with hx | hx
    · exact h x ((hm x).2 hx)
    · simp only [List.mem_cons, List.not_mem_nil, or_false] at hx
      rcases hx with rfl | rfl
      · exact h _ hs
      · rw [BS.has_not, BS.has_not, h s hs]
  · intro h x hx
    exact h x (List.mem_append_left _ ((hm x).1 hx))
end Go.Proofs.YtampjjllpdljaaaDoor
