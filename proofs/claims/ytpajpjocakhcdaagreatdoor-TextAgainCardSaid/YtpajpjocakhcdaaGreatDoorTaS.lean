/-
  Expressions as they are made of shapes, plain.
-/
import Derived.Test.YtpajpjocakhcdaaGreatDoorTaD
import Derived.Test.YtpajpjocakhcdaaGreatDoorReA
set_option linter.unusedSimpArgs false
set_option linter.unusedVariables false
set_option maxRecDepth 100000
set_option linter.unnecessarySimpa false
namespace Go.Proofs.YtpajpjocakhcdaaGreatDoor
inductive SH where
  | node (op lo hi : Int) (tx : ByteArray) (kids : List SH)
/-- what is left of a number as one without a sign -/
def sMod (n : Int) (m : Nat) : Nat := ((IntKind.u64.wrap n).tmod (m : Int)).toNat
/-- from which byte, to which one -/
def sLow (n : Int) : Nat := 97 + (bits .and .u8 n 3).toNat
namespace SH
def op : SH → Int | node o _ _ _ _ => o
def lo : SH → Int | node _ x _ _ _ => x
def hi : SH → Int | node _ _ x _ _ => x
def tx : SH → ByteArray | node _ _ _ t _ => t
def kids : SH → List SH | node _ _ _ _ k => k
def none : SH := node 0 0 0 ⟨#[]⟩ []
mutual
def sz : SH → Nat | node _ _ _ _ ks => 1 + szs ks
def szs : List SH → Nat | [] => 0 | k :: ks => sz k + szs ks
end
mutual
/-- no text is too long -/
def fit : SH → Prop | node _ _ _ t ks => t.size ≤ 20 ∧ fits ks
def fits : List SH → Prop | [] => True | k :: ks => fit k ∧ fits ks
end
theorem fits_iff (l : List SH) : fits l ↔ ∀ r ∈ l, fit r := by
  induction l with
  | nil => simp [fits]
  | cons a l ih => simp [fits, ih]
theorem fit_kids {p k : SH} (h : fit p) (hk : k ∈ p.kids) : fit k := by
  cases p
  exact (fits_iff _).1 h.2 k hk
theorem mem_szs {l : List SH} {k : SH} (h : k ∈ l) : k.sz ≤ szs l := by
  induction l with
  | nil => simp at h
  | cons a l ih =>
    rw [szs]
    rcases List.mem_cons.1 h with rfl | h
    · omega
    · have := ih h; omega
theorem sz_eq (p : SH) : p.sz = 1 + szs p.kids := by cases p; rw [sz]; rfl
/-- an expression made of others -/
def mkOf (o a b : Nat) (t : List UInt8) (ks : List RE) : RE :=
  if o = 0 then RE.nothing else if o = 1 then RE.empty else if o = 2 then RE.one (BS.run a (b + 1 - a)) else if o = 3 then RE.thenL (ks.map some) else if o = 4 then RE.anyL (ks.map some)
  else if o = 5 then RE.many (some (ks.getD 0 RE.nothing)) else if o = 6 then RE.bothL (ks.map some) else if o = 7 then RE.but (some (ks.getD 0 RE.nothing)) (some (ks.getD 1 RE.nothing)) else RE.wordL t
mutual
def mk : SH → RE | node o l h t ks => mkOf (sMod o 9) (sLow l) (sLow h) t.data.toList (mks ks)
def mks : List SH → List RE | [] => [] | k :: ks => mk k :: mks ks
end
theorem mks_map (l : List SH) : mks l = l.map mk := by induction l with | nil => rfl | cons a l ih => simp [mks, ih]
theorem mk_eq (p : SH) : p.mk = mkOf (sMod p.op 9) (sLow p.lo) (sLow p.hi) p.tx.data.toList (p.kids.map mk) := by cases p; rw [mk, mks_map]; rfl
mutual
/-- how many parts; those too deep count as many -/
def cnt (deep : Nat) : SH → Nat | node _ _ _ t ks => if 12 < deep ∨ 20 < t.size then 1000 else cntL deep ks 1
def cntL (deep : Nat) : List SH → Nat → Nat
  | [], n => n
  | k :: ks, n => if 1000 < n + cnt (deep + 1) k then n + cnt (deep + 1) k else cntL deep ks (n + cnt (deep + 1) k)
end
theorem cnt_deep {deep : Nat} (h : 12 < deep) (p : SH) : cnt deep p = 1000 := by cases p; rw [cnt, if_pos (.inl h)]
theorem cnt_long {deep : Nat} {p : SH} (h : 20 < p.tx.size) : cnt deep p = 1000 := by cases p; rw [cnt, if_pos (.inr h)]
theorem cntL_le {deep b : Nat} (hb : ∀ p, cnt (deep + 1) p ≤ b) : ∀ (l : List SH) (n : Nat), n ≤ 1000 → cntL deep l n ≤ 1000 + b
  | [], n, h => by rw [cntL]; omega
  | k :: l, n, h => by
    have := hb k
    rw [cntL]
    split
    · omega
    · exact cntL_le hb l _ (by omega)
theorem cnt_le : ∀ (d deep : Nat), deep + d = 13 → ∀ p, cnt deep p ≤ 1000 * (d + 1)
  | 0, deep, h, p => by rw [cnt_deep (by omega)]; omega
  | d + 1, deep, h, p => by
    cases p with
    | node o w n t ks =>
      rw [cnt]
      split
      · omega
      · have := cntL_le (fun p => cnt_le d (deep + 1) (by omega) p) ks 1 (by omega)
        omega
theorem cntL_ge (deep : Nat) : ∀ (l : List SH) (n : Nat), n ≤ cntL deep l n
  | [], n => by rw [cntL]; exact Nat.le_refl _
  | k :: l, n => by
    rw [cntL]
    split
    · omega
    · have := cntL_ge deep l (n + cnt (deep + 1) k); omega
mutual
/-- few parts: all are counted, no text is too long -/
theorem of_cnt : (p : SH) → ∀ deep, cnt deep p < 1000 → p.sz = cnt deep p ∧ fit p
  | node o l h t ks => fun deep hc => by
    rw [cnt] at hc ⊢
    by_cases h1 : 12 < deep ∨ 20 < t.size
    · rw [if_pos h1] at hc; omega
    · rw [if_neg h1] at hc ⊢
      obtain ⟨g1, g2⟩ := of_cntL ks deep 1 hc
      exact ⟨by rw [sz]; omega, by omega, g2⟩
theorem of_cntL : (l : List SH) → ∀ deep n, cntL deep l n < 1000 → n + szs l = cntL deep l n ∧ fits l
  | [] => fun deep n hc => ⟨by rw [cntL, szs]; omega, trivial⟩
  | k :: l => fun deep n hc => by
    rw [cntL] at hc ⊢
    by_cases h1 : 1000 < n + cnt (deep + 1) k
    · rw [if_pos h1] at hc; omega
    · rw [if_neg h1] at hc ⊢
      obtain ⟨g1, g2⟩ := of_cntL l deep _ hc
      have := cntL_ge deep l (n + cnt (deep + 1) k)
      obtain ⟨k1, k2⟩ := of_cnt k (deep + 1) (by omega)
      exact ⟨by rw [szs]; omega, k2, g2⟩
end
theorem nf_mk : ∀ (n : Nat) (p : SH), p.sz ≤ n → RE.nf p.mk := by
  intro n
  induction n with
  | zero => intro p hn; have := p.sz_eq; omega
  | succ n ih =>
    intro p hn
    have hk : ∀ k ∈ p.kids, RE.nf k.mk := fun k hk => ih k (by have := p.sz_eq; have := mem_szs hk; omega)
    have hO : RE.nfO ((p.kids.map mk).map some) := fun r hr => by
      simp only [List.map_map, List.mem_map, Function.comp_def, Option.some.injEq] at hr
      obtain ⟨k, hk1, rfl⟩ := hr
      exact hk k hk1
    have hg : ∀ i, RE.nf ((p.kids.map mk).getD i RE.nothing) := fun i => by
      by_cases hi : i < p.kids.length
      · have : (p.kids.map mk).getD i RE.nothing = (p.kids[i]).mk := by simp [List.getD, hi]
        rw [this]; exact hk _ (List.getElem_mem hi)
      · have : (p.kids.map mk).getD i RE.nothing = RE.nothing := by simp [List.getD, hi]
        rw [this]; exact RE.nf_nothing
    rw [mk_eq]
    unfold mkOf
    split
    · exact RE.nf_nothing
    split
    · exact RE.nf_empty
    split
    · exact RE.nf_one _
    split
    · exact RE.nf_thenL hO
    split
    · exact RE.nf_anyL hO
    split
    · exact RE.nf_many fun r hr => by cases hr; exact hg 0
    split
    · exact RE.nf_bothL hO
    split
    · exact RE.nf_but (fun r hr => by cases hr; exact hg 0) (fun r hr => by cases hr; exact hg 1)
    · exact RE.nf_thenL fun r hr => by
        obtain ⟨b, _, hb⟩ := List.mem_map.1 hr
        have hb : RE.byteRE b = r := by simpa using hb
        rw [← hb]; exact RE.nf_one _
end SH
namespace BS
theorem wS_le (s : BS) : s.wS ≤ 128 := by unfold wS; omega
theorem wS_byte (b : UInt8) : (BS.none.add b.toNat).wS ≤ 1 := by
  have h : ∀ b, b < 256 → (BS.none.add b).wS ≤ 1 := by decide +kernel
  exact h _ b.toNat_lt
end BS
namespace RE
/-- what is known of an expression made of shapes -/
structure Few (n : Nat) (r : RE) : Prop where
  sz : r.size + 1 ≤ 50 * n
  dp : r.dpt ≤ 2 * n
  wt : r.wt ≤ 128 * n
theorem few_sum (l : List SH) (h : ∀ k ∈ l, Few k.sz k.mk) : sizeOs ((l.map SH.mk).map some) ≤ 50 * SH.szs l ∧ dptOs ((l.map SH.mk).map some) ≤ 2 * SH.szs l ∧ wtOs ((l.map SH.mk).map some) ≤ 128 * SH.szs l := by
  induction l with
  | nil => simp [sizeOs, dptOs, wtOs]
  | cons a l ih =>
    have h1 := ih fun k hk => h k (by simp [hk])
    have h2 := h a (by simp)
    obtain ⟨k1, k2, k3⟩ := h2
    simp only [List.map_cons, sizeOs, dptOs, wtOs, List.sum_cons, sizeO, dptO, wtO, SH.szs] at h1 ⊢
    omega
theorem few_getD (l : List SH) (h : ∀ k ∈ l, Few k.sz k.mk) (i : Nat) : ((l.map SH.mk).getD i nothing).size + 1 ≤ 2 + 50 * SH.szs l ∧ ((l.map SH.mk).getD i nothing).dpt ≤ 1 + 2 * SH.szs l ∧ ((l.map SH.mk).getD i nothing).wt ≤ 128 * SH.szs l := by
  by_cases hi : i < l.length
  · have : (l.map SH.mk).getD i nothing = (l[i]).mk := by simp [List.getD, hi]
    rw [this]
    obtain ⟨k1, k2, k3⟩ := h _ (List.getElem_mem hi)
    have := SH.mem_szs (List.getElem_mem hi)
    omega
  · have : (l.map SH.mk).getD i nothing = nothing := by simp [List.getD, hi]
    rw [this]
    simp [nothing, size, sizes, dpt, dpts, RE.wt, wts]
theorem wt_getD2 (l : List SH) (h : ∀ k ∈ l, Few k.sz k.mk) : ((l.map SH.mk).getD 0 nothing).wt + ((l.map SH.mk).getD 1 nothing).wt ≤ 128 * SH.szs l ∧ ((l.map SH.mk).getD 0 nothing).size + ((l.map SH.mk).getD 1 nothing).size ≤ 2 + 50 * SH.szs l := by
  match l, h with
  | [], _ => simp [nothing, size, sizes, RE.wt, wts]
  | [a], h =>
    obtain ⟨k1, k2, k3⟩ := h a (by simp)
    simp [nothing, size, sizes, RE.wt, wts, SH.szs]
    omega
  | a :: b :: l, h =>
    obtain ⟨k1, k2, k3⟩ := h a (by simp)
    obtain ⟨g1, g2, g3⟩ := h b (by simp)
    simp [SH.szs]
    omega
theorem size_word (l : List UInt8) : (wordL l).size ≤ 1 + 2 * l.length ∧ (wordL l).dpt ≤ 2 ∧ (wordL l).wt ≤ l.length := by
  have h := size_thenL (l.map fun b => some (byteRE b))
  have h2 := dpt_thenL (l.map fun b => some (byteRE b))
  have h3 := wt_thenL (l.map fun b => some (byteRE b))
  have e : sizeOs (l.map fun b => some (byteRE b)) = 2 * l.length ∧ dptOs (l.map fun b => some (byteRE b)) ≤ 1 ∧ wtOs (l.map fun b => some (byteRE b)) ≤ l.length := by
    clear h h2 h3
    induction l with
    | nil => simp [sizeOs, dptOs, wtOs]
    | cons a l ih =>
      have h1 : (byteRE a).size = 1 := one_size _
      have h2 : (byteRE a).dpt ≤ 1 := dpt_one _
      have h3 : (byteRE a).wt ≤ 1 := Nat.le_trans (wt_one _) (BS.wS_byte a)
      simp only [sizeOs, dptOs, wtOs, List.map_cons, List.sum_cons, sizeO, dptO, wtO, h1, List.length_cons] at ih ⊢
      omega
  unfold wordL; omega
theorem few_mk : ∀ (n : Nat) (p : SH), p.sz ≤ n → p.fit → Few p.sz p.mk := by
  intro n
  induction n with
  | zero => intro p hn; have := p.sz_eq; omega
  | succ n ih =>
    intro p hn hf
    have hk : ∀ k ∈ p.kids, Few k.sz k.mk := fun k hk => ih k (by have := p.sz_eq; have := SH.mem_szs hk; omega) (SH.fit_kids hf hk)
    have hs := p.sz_eq
    obtain ⟨a1, a2, a3⟩ := few_sum _ hk
    obtain ⟨b1, b2, b3⟩ := few_getD _ hk 0
    obtain ⟨c1, c2, c3⟩ := few_getD _ hk 1
    obtain ⟨d1, d2⟩ := wt_getD2 _ hk
    have hl : p.tx.data.toList.length ≤ 20 := by cases p; exact hf.1
    rw [SH.mk_eq]
    generalize (p.kids.map SH.mk) = K at *
    generalize SH.szs p.kids = z at *
    unfold SH.mkOf
    split
    · exact ⟨by simp [nothing, size, sizes]; omega, by simp [nothing, dpt, dpts]; omega, by simp [nothing, RE.wt, wts]⟩
    split
    · exact ⟨by simp [empty, size, sizes]; omega, by simp [empty, dpt, dpts]; omega, by simp [empty, RE.wt, wts]⟩
    split
    · refine ⟨?_, ?_, ?_⟩
      · rw [one_size]; omega
      · have := dpt_one (BS.run (sLow p.lo) (sLow p.hi + 1 - sLow p.lo)); omega
      · have := wt_one (BS.run (sLow p.lo) (sLow p.hi + 1 - sLow p.lo)); have := BS.wS_le (BS.run (sLow p.lo) (sLow p.hi + 1 - sLow p.lo)); omega
    split
    · have := size_thenL (K.map some); have := dpt_thenL (K.map some); have := wt_thenL (K.map some)
      exact ⟨by omega, by omega, by omega⟩
    split
    · have := size_anyL (K.map some); have := dpt_anyL (K.map some); have := wt_anyL (K.map some)
      exact ⟨by omega, by omega, by omega⟩
    split
    · have := size_many (some (K.getD 0 nothing)); have := dpt_many (some (K.getD 0 nothing)); have := wt_many (some (K.getD 0 nothing))
      simp only [sizeO, dptO, wtO] at *
      exact ⟨by omega, by omega, by omega⟩
    split
    · have := size_bothL (K.map some); have := dpt_bothL (K.map some); have := wt_bothL (K.map some)
      exact ⟨by omega, by omega, by omega⟩
    split
    · have := size_but (some (K.getD 0 nothing)) (some (K.getD 1 nothing)); have := dpt_but (some (K.getD 0 nothing)) (some (K.getD 1 nothing)); have := wt_but (some (K.getD 0 nothing)) (some (K.getD 1 nothing))
      simp only [sizeO, dptO, wtO] at *
      exact ⟨by omega, by omega, by omega⟩
    · obtain ⟨e1, e2, e3⟩ := size_word p.tx.data.toList
      exact ⟨by omega, by omega, by omega⟩
end RE
/-- what a shape makes is read again -/
theorem shape_again (p : SH) (h : SH.cnt 0 p ≤ 30) (hs : p.mk.size ≤ 300) : readW (RE.ofW p.mk) = (some p.mk, 0, 0) := by
  obtain ⟨h1, h2⟩ := SH.of_cnt p 0 (by omega)
  obtain ⟨k1, k2, k3⟩ := RE.few_mk p.sz p (Nat.le_refl _) h2
  have hd := deepW_dpt p.mk
  refine (again p.mk (SH.nf_mk p.sz p (Nat.le_refl _)) hs (by omega) (.inr trivial)).resolve_right fun hl => ?_
  have := RE.ofW_wt p.mk
  omega
end Go.Proofs.YtpajpjocakhcdaaGreatDoor
