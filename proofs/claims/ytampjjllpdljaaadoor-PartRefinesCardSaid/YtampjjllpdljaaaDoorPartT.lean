/-
  What 'PartRefines' asks of the parts: apart, together all bytes, in the order of their least bytes; two bytes are in one just where no set parts them. Plain Lean.
-/
import Derived.Test.YtampjjllpdljaaaDoorPartP
import Derived.Test.YtampjjllpdljaaaDoorSetTP
set_option linter.unusedSimpArgs false
set_option linter.unusedVariables false
set_option maxRecDepth 100000
namespace Go.Proofs.YtampjjllpdljaaaDoor

/-- what holds of the parts put in order up to a byte -/
structure SrtOk (ps : List BS) (b : Nat) (o : List BS) (sn : BS) : Prop where
  seen : ∀ c, c < 256 → (sn.has c = true ↔ ∃ p ∈ o, p.has c = true)
  mem : ∀ p ∈ o, p ∈ ps
  upto : ∀ c, c < b → sn.has c = true
  low : ∀ p ∈ o, p.least < b
  ord : o.Pairwise fun p q => p.least < q.least
  apart : o.Pairwise fun p q => ∀ c, c < 256 → p.has c = true → q.has c = false

theorem srt_ok {R : Nat → Nat → Prop} {ps : List BS} (h : IsPart R ps) : ∀ b, b ≤ 256 → SrtOk ps b (srt ps b).1 (srt ps b).2
  | 0, _ => ⟨fun c _ => by simp [srt, BS.has_none], fun p hp => by simp [srt] at hp, fun c hc => by omega, fun p hp => by simp [srt] at hp, List.Pairwise.nil, List.Pairwise.nil⟩
  | b + 1, hb => by
    have ih := srt_ok h b (by omega)
    have hb' : b < 256 := by omega
    cases hs : (srt ps b).2.has b with
    | true =>
      rw [srt_seen ps b hs]
      exact ⟨ih.seen, ih.mem, fun c hc => if e : c = b then by rw [e]; exact hs else ih.upto c (by omega), fun p hp => Nat.lt_succ_of_lt (ih.low p hp), ih.ord, ih.apart⟩
    | false =>
      obtain ⟨p, hp, hpm, hpb⟩ := h.find hb'
      rw [srt_some ps b p hs hp]
      generalize (srt ps b).1 = o at *
      generalize (srt ps b).2 = sn at *
      have hno : ∀ q ∈ o, ∀ c, c < 256 → q.has c = true → p.has c = false := fun q hq c hc hqc => by
        cases hpc : p.has c with
        | false => rfl
        | true =>
          obtain rfl := h.one h (ih.mem q hq) hpm hc hqc hpc
          rw [(ih.seen b hb').2 ⟨_, hq, hpb⟩] at hs
          cases hs
      have hpl : p.least = b := by
        obtain ⟨h1, h2, h3⟩ := least_spec p (has_ne_none hpb)
        rcases Nat.lt_trichotomy p.least b with hlt | he | hgt
        · have := ih.upto _ hlt
          obtain ⟨q, hq, hqc⟩ := (ih.seen _ (by omega)).1 this
          rw [hno q hq _ (by omega) hqc] at h1
          cases h1
        · exact he
        · rw [h2 b hgt] at hpb; cases hpb
      refine ⟨fun c hc => ?_, fun q hq => ?_, fun c hc => ?_, fun q hq => ?_, ?_, ?_⟩
      · rw [BS.has_or, Bool.or_eq_true, ih.seen c hc]
        simp only [List.mem_append, List.mem_singleton]
        constructor
        · rintro (⟨q, hq, hqc⟩ | hpc)
          · exact ⟨q, .inl hq, hqc⟩
          · exact ⟨p, .inr rfl, hpc⟩
        · rintro ⟨q, hq | rfl, hqc⟩
          · exact .inl ⟨q, hq, hqc⟩
          · exact .inr hqc
      · rcases List.mem_append.1 hq with hq | hq
        · exact ih.mem q hq
        · rw [List.mem_singleton.1 hq]; exact hpm
      · rw [BS.has_or, Bool.or_eq_true]
        by_cases e : c = b
        · exact .inr (by rw [e]; exact hpb)
        · exact .inl (ih.upto c (by omega))
      · rcases List.mem_append.1 hq with hq | hq
        · exact Nat.lt_succ_of_lt (ih.low q hq)
        · rw [List.mem_singleton.1 hq, hpl]; omega
      · rw [List.pairwise_append]
        refine ⟨ih.ord, List.pairwise_singleton _ _, fun q hq r hr => ?_⟩
        rw [List.mem_singleton.1 hr, hpl]; exact ih.low q hq
      · rw [List.pairwise_append]
        refine ⟨ih.apart, List.pairwise_singleton _ _, fun q hq r hr => ?_⟩
        rw [List.mem_singleton.1 hr]; exact hno q hq

theorem getD_mem (l : List BS) (i : Nat) (h : i < l.length) : l.getD i BS.none ∈ l := by
  rw [List.getD_eq_getElem?_getD, List.getElem?_eq_getElem h]; exact List.getElem_mem _
theorem pairwise_getD {r : BS → BS → Prop} {l : List BS} (h : l.Pairwise r) (i j : Nat) (hij : i < j) (hj : j < l.length) : r (l.getD i BS.none) (l.getD j BS.none) := by
  have := List.pairwise_iff_getElem.1 h i j (by omega) hj hij
  simpa [List.getD, hj, show i < l.length by omega] using this
/-- all that are in one of the first k -/
def uniTo (l : List BS) : Nat → BS
  | 0 => BS.none
  | k + 1 => (uniTo l k).or (l.getD k BS.none)
theorem uniTo_has (l : List BS) (c : Nat) : ∀ k, (uniTo l k).has c = true ↔ ∃ i, i < k ∧ (l.getD i BS.none).has c = true
  | 0 => by simp [uniTo, BS.has_none]
  | k + 1 => by
    rw [uniTo, BS.has_or, Bool.or_eq_true, uniTo_has l c k]
    constructor
    · rintro (⟨i, hi, h⟩ | h)
      · exact ⟨i, by omega, h⟩
      · exact ⟨k, by omega, h⟩
    · rintro ⟨i, hi, h⟩
      by_cases e : i = k
      · subst e; exact .inr h
      · exact .inl ⟨i, by omega, h⟩
def lastTo (l : List BS) : Nat → Int
  | 0 => -1
  | k + 1 => ((l.getD k BS.none).least : Nat)

/-- what is asked of a list of parts -/
structure PartsOk (l R : List BS) : Prop where
  len : R.length ≤ 256
  pos : 0 < R.length
  some : ∀ k, k < R.length → R.getD k BS.none ≠ BS.none
  ord : ∀ k, k < R.length → lastTo R k < ((R.getD k BS.none).least : Nat)
  apart : ∀ k, k < R.length → (uniTo R k).and (R.getD k BS.none) = BS.none
  at_ : ∀ k, k < R.length → ∀ b, b < 256 → ((R.getD k BS.none).has b = true ↔ idxTo R R.length b = k)
  all : uniTo R R.length = BS.all
  same : ∀ a b, a < 256 → b < 256 → (idxTo R R.length a = idxTo R R.length b ↔ sameIn l a b)
theorem idx_of (R : List BS) (k b : Nat) (hk : (R.getD k BS.none).has b = true) : ∀ n, k < n → (∀ j, k < j → j < n → (R.getD j BS.none).has b = false) → idxTo R n b = k
  | 0, h, _ => by omega
  | n + 1, h, hn => by
    by_cases e : k = n
    · subst e; exact idxTo_yes R k b hk
    · rw [idxTo_no R n b (hn n (by omega) (by omega))]
      exact idx_of R k b hk n (by omega) (fun j h1 h2 => hn j h1 (by omega))
theorem refL_ok (l : List BS) : PartsOk l (refL l) := by
  have hP := parts0_part l
  have ok := srt_ok hP 256 (Nat.le_refl _)
  have hlen := refL_len l
  unfold refL at *
  generalize (srt (parts0 l) 256).1 = R at *
  generalize (srt (parts0 l) 256).2 = sn at *
  have hne : ∀ k, k < R.length → R.getD k BS.none ≠ BS.none := fun k hk => by
    obtain ⟨b, _, hb⟩ := hP.some _ (ok.mem _ (getD_mem R k hk))
    exact has_ne_none hb
  have hat : ∀ k, k < R.length → ∀ b, b < 256 → (R.getD k BS.none).has b = true → idxTo R R.length b = k := fun k hk b hb h =>
    idx_of R k b h R.length hk (fun j h1 h2 => pairwise_getD ok.apart k j h1 h2 b hb h)
  have hcov : ∀ b, b < 256 → ∃ i, i < R.length ∧ (R.getD i BS.none).has b = true := fun b hb => by
    obtain ⟨p, hp, hpb⟩ := (ok.seen b hb).1 (ok.upto b hb)
    obtain ⟨i, hi, rfl⟩ := List.mem_iff_getElem.1 hp
    exact ⟨i, hi, by simpa [List.getD, hi] using hpb⟩
  have hat' : ∀ k, k < R.length → ∀ b, b < 256 → ((R.getD k BS.none).has b = true ↔ idxTo R R.length b = k) := fun k hk b hb => by
    refine ⟨hat k hk b hb, fun h => ?_⟩
    obtain ⟨i, hi, hib⟩ := hcov b hb
    rw [hat i hi b hb hib] at h
    rw [← h]; exact hib
  have hpos : 0 < R.length := by obtain ⟨i, hi, _⟩ := hcov 0 (by omega); omega
  refine ⟨hlen, hpos, hne, fun k hk => ?_, fun k hk => ?_, hat', ?_, fun a b ha hb => ?_⟩
  · cases k with
    | zero => simp only [lastTo]; omega
    | succ k =>
      have := pairwise_getD ok.ord k (k + 1) (by omega) hk
      simp only [lastTo]; omega
  · apply BS.ext_has
    intro c hc
    rw [BS.has_and, BS.has_none]
    cases hu : (uniTo R k).has c with
    | false => rfl
    | true =>
      obtain ⟨i, hi, hic⟩ := (uniTo_has R c k).1 hu
      rw [pairwise_getD ok.apart i k hi hk c hc hic]; rfl
  · apply BS.ext_has
    intro c hc
    rw [BS.has_all, uniTo_has]
    exact hcov c hc
  · obtain ⟨i, hi, hia⟩ := hcov a ha
    rw [hat i hi a ha hia, ← hP.cls _ (ok.mem _ (getD_mem R i hi)) a b ha hb hia, hat' i hi b hb]
    exact eq_comm
theorem sameB (l : List BS) (a b : Nat) : (l.all fun s => s.has a == s.has b) = true ↔ sameIn l a b := by
  simp [sameIn]
end Go.Proofs.YtampjjllpdljaaaDoor
