/-
  TextLevels, plain: letters with signs between, put together level by level, are read as that.
-/
import Derived.Test.YtpajpjocakhcdaaGreatDoorRtE
set_option linter.unusedSimpArgs false
set_option linter.unusedVariables false
set_option maxRecDepth 100000
set_option linter.unnecessarySimpa false
namespace Go.Proofs.YtpajpjocakhcdaaGreatDoor
namespace PS
/-- what is read at the top level is what a text is -/
theorem read_of {t : List UInt8} {n pd : Nat} {x : RE} (h : RdE orS stO t n pd x) (hn : n ≤ 1000) (hd : pd ≤ 60) (hs : x.size ≤ 1000) (hl : t.length ≤ 65536) : readW t = (some x, 0, 0) := by
  have hrd := h 60 ⟨t, 0, 0, 0, 0, 0⟩ [] (by simp) (fun c hc => by cases hc) rfl (by show 0 + n ≤ 1000; omega) (by show 0 + 60 = 60; omega) (by omega)
  have hS : readS t = (PS.past ⟨t, 0, 0, 0, 0, 0⟩ t.length n, x) := hrd
  have hr0 : (PS.past ⟨t, 0, 0, 0, 0, 0⟩ t.length n).rest = [] := by simp [PS.past]
  have hE : (readE t).e = 0 := by
    unfold readE
    rw [hS]
    simp only
    rw [if_pos (show (PS.past ⟨t, 0, 0, 0, 0, 0⟩ t.length n).e = 0 from rfl)]
    have hk : (PS.past ⟨t, 0, 0, 0, 0, 0⟩ t.length n).skip = PS.past ⟨t, 0, 0, 0, 0, 0⟩ t.length n := PS.skip_none (by rw [hr0]; intro c hc; cases hc)
    rw [hk, if_pos hr0, if_neg (by omega)]
    rfl
  unfold readW
  rw [if_neg (by omega), if_pos hE, hS]
end PS
abbrev PT := List UInt8 × Nat × RE
namespace TL
open PS (Rd RdE Mn txts cnts vals txtsB)
def letR (i : Nat) : RE := RE.one (BS.none.add (97 + i))
def letP (i : Nat) : PT := ([(97 + i).toUInt8], 1, letR i)
def joinB (b : UInt8) : List PT → List UInt8 | [] => [] | a :: l => a.1 ++ txtsB b l
/-- each with a sign behind -/
def ends (b : UInt8) (l : List PT) : List UInt8 := l.flatMap fun a => a.1 ++ [b]
def closeC (C : List PT) : PT := (txts C, cnts C, RE.thenL (vals C))
def closeA (A : List PT) : PT := (joinB 38 A, cnts A, RE.bothL (vals A))
def foldM (x : RE) (l : List PT) : RE := l.foldl (fun x p => RE.but (some x) (some p.2.2)) x
def closeM (M : List PT) : PT := (joinB 45 M, cnts M, match M with | [] => RE.nothing | m :: l => foldM m.2.2 l)
/-- what is open at each level -/
structure V where
  C : List PT
  A : List PT
  M : List PT
  O : List PT
def V.text (v : V) : List UInt8 := ends 124 v.O ++ (ends 45 v.M ++ (ends 38 v.A ++ txts v.C))
/-- what is open below a level is put together -/
def V.close (k : Nat) (v : V) : V :=
  if 2 < k then v else if k = 2 then ⟨[], v.A ++ [closeC v.C], v.M, v.O⟩
  else if k = 1 then ⟨[], [], v.M ++ [closeA (v.A ++ [closeC v.C])], v.O⟩
  else ⟨[], [], [], v.O ++ [closeM (v.M ++ [closeA (v.A ++ [closeC v.C])])]⟩
def V.step (v : V) (k i : Nat) : V := ⟨(v.close k).C ++ [letP i], (v.close k).A, (v.close k).M, (v.close k).O⟩
def sep (k : Nat) : List UInt8 := if k = 0 then [124] else if k = 1 then [45] else if k = 2 then [38] else []
def V.first : V := ⟨[letP 0], [], [], []⟩
theorem joinB_snoc (b : UInt8) (l : List PT) (p : PT) : joinB b (l ++ [p]) = ends b l ++ p.1 := by
  cases l with
  | nil => simp [joinB, txtsB, ends]
  | cons a l =>
    show a.1 ++ txtsB b (l ++ [p]) = _
    have : ∀ l : List PT, txtsB b (l ++ [p]) = [b] ++ ends b l ++ p.1 ∨ True := fun _ => .inr trivial
    have key : ∀ (l : List PT) (x : List UInt8), x ++ txtsB b (l ++ [p]) = x ++ [b] ++ ends b l ++ p.1 := fun l => by
      induction l with
      | nil => intro x; simp [txtsB, ends]
      | cons c l ih =>
        intro x
        have h := ih (x ++ (b :: c.1))
        simp only [txtsB, ends, List.cons_append, List.flatMap_cons, List.append_assoc, List.nil_append] at h ⊢
        exact h
    rw [key]
    simp [ends]
theorem ends_snoc (b : UInt8) (l : List PT) (p : PT) : ends b (l ++ [p]) = ends b l ++ (p.1 ++ [b]) := by simp [ends]
theorem txts_snoc (l : List PT) (p : PT) : txts (l ++ [p]) = txts l ++ p.1 := by simp [txts]
theorem cnts_snoc (l : List PT) (p : PT) : cnts (l ++ [p]) = cnts l + p.2.1 := by simp [cnts]
theorem vals_snoc (l : List PT) (p : PT) : vals (l ++ [p]) = vals l ++ [some p.2.2] := by simp [vals]
theorem text_step (v : V) (k i : Nat) : (v.step k i).text = v.text ++ (sep k ++ [(97 + i).toUInt8]) := by
  have hl : (letP i).1 = [(97 + i).toUInt8] := rfl
  unfold V.step V.close V.text sep
  by_cases h3 : 2 < k
  · rw [if_pos h3, if_neg (by omega), if_neg (by omega), if_neg (by omega)]
    simp only [txts_snoc, hl, List.append_assoc, List.nil_append]
  rw [if_neg h3]
  by_cases h2 : k = 2
  · rw [if_pos h2, if_neg (by omega), if_neg (by omega), if_pos h2]
    simp only [txts_snoc, ends_snoc, hl, List.append_assoc, List.nil_append, closeC]
    rfl
  rw [if_neg h2]
  by_cases h1 : k = 1
  · rw [if_pos h1, if_neg (by omega), if_pos h1]
    simp only [txts_snoc, ends_snoc, hl, List.append_assoc, List.nil_append, closeC, closeA, joinB_snoc]
    rfl
  · rw [if_neg h1, if_pos (by omega)]
    simp only [txts_snoc, ends_snoc, hl, List.append_assoc, List.nil_append, closeC, closeA, closeM, joinB_snoc]
    rfl
/-- what is known of what is open -/
structure Good (v : V) (n : Nat) : Prop where
  ne : v.C ≠ []
  c : ∀ p ∈ v.C, PS.Start p.1 ∧ Rd PS.post PS.nosg p.1 p.2.1 0 p.2.2 ∧ RE.nf p.2.2 ∧ p.2.2.size ≤ p.2.1
  a : ∀ p ∈ v.A, RdE PS.cat PS.stC p.1 p.2.1 0 p.2.2 ∧ RE.nf p.2.2 ∧ p.2.2.size ≤ 3 * p.2.1
  m : ∀ p ∈ v.M, RdE PS.and PS.stA p.1 p.2.1 0 p.2.2 ∧ RE.nf p.2.2 ∧ p.2.2.size ≤ 6 * p.2.1
  o : ∀ p ∈ v.O, RdE PS.minus PS.stM p.1 p.2.1 0 p.2.2 ∧ RE.nf p.2.2 ∧ p.2.2.size ≤ 7 * p.2.1
  pos : ∀ p ∈ v.C ++ v.A ++ v.M ++ v.O, 1 ≤ p.2.1
  cnt : cnts v.C + cnts v.A + cnts v.M + cnts v.O = n
theorem sizeOs_vals (l : List PT) (k : Nat) (h : ∀ p ∈ l, p.2.2.size ≤ k * p.2.1 ∧ 1 ≤ p.2.1) : RE.sizeOs (vals l) ≤ (k + 1) * cnts l ∧ l.length ≤ cnts l := by
  induction l with
  | nil => simp [RE.sizeOs, vals, cnts]
  | cons p l ih =>
    obtain ⟨h1, h2⟩ := ih fun q hq => h q (by simp [hq])
    obtain ⟨h3, h4⟩ := h p (by simp)
    have e1 : RE.sizeOs (vals (p :: l)) = (1 + p.2.2.size) + RE.sizeOs (vals l) := by simp [RE.sizeOs, vals, RE.sizeO]
    have e2 : cnts (p :: l) = p.2.1 + cnts l := by simp [cnts]
    rw [e1, e2, Nat.mul_add, Nat.add_mul, Nat.one_mul, List.length_cons]
    omega
theorem nfO_vals {l : List PT} (h : ∀ p ∈ l, RE.nf p.2.2) : RE.nfO (vals l) := fun r hr => by
  obtain ⟨p, hp, hpe⟩ := List.mem_map.1 hr
  cases hpe
  exact h p hp
theorem close_c {v : V} {n : Nat} (h : Good v n) : RdE PS.cat PS.stC (closeC v.C).1 (closeC v.C).2.1 0 (closeC v.C).2.2 ∧ RE.nf (closeC v.C).2.2 ∧ (closeC v.C).2.2.size ≤ 3 * (closeC v.C).2.1 ∧ 1 ≤ (closeC v.C).2.1 := by
  obtain ⟨s1, s2⟩ := sizeOs_vals v.C 1 fun p hp => ⟨by have := (h.c p hp).2.2.2; omega, h.pos p (by simp [hp])⟩
  have hnf := RE.nf_thenL (nfO_vals fun p hp => (h.c p hp).2.2.1)
  have hsz := RE.size_thenL (vals v.C)
  cases hC : v.C with
  | nil => exact absurd hC h.ne
  | cons p l =>
    have := PS.cat_run 0 p l fun b hb => by rw [← hC] at hb; exact ⟨(h.c b hb).1, (h.c b hb).2.1⟩
    rw [hC] at s1 s2 hsz hnf
    simp only [List.length_cons] at s2
    exact ⟨this, hnf, by show (RE.thenL (vals (p :: l))).size ≤ 3 * cnts (p :: l); omega, by show 1 ≤ cnts (p :: l); omega⟩
theorem close_a {A : List PT} (hne : A ≠ []) (h : ∀ p ∈ A, RdE PS.cat PS.stC p.1 p.2.1 0 p.2.2 ∧ RE.nf p.2.2 ∧ p.2.2.size ≤ 3 * p.2.1) (hp : ∀ p ∈ A, 1 ≤ p.2.1) :
    RdE PS.and PS.stA (closeA A).1 (closeA A).2.1 0 (closeA A).2.2 ∧ RE.nf (closeA A).2.2 ∧ (closeA A).2.2.size ≤ 6 * (closeA A).2.1 ∧ 1 ≤ (closeA A).2.1 := by
  obtain ⟨s1, s2⟩ := sizeOs_vals A 3 fun p hq => ⟨(h p hq).2.2, hp p hq⟩
  have hnf := RE.nf_bothL (nfO_vals fun p hq => (h p hq).2.1)
  have hsz := RE.size_bothL (vals A)
  cases A with
  | nil => exact absurd rfl hne
  | cons p l =>
    have := PS.and_run 0 p l fun b hb => (h b hb).1
    simp only [List.length_cons] at s2
    exact ⟨this, hnf, by show (RE.bothL (vals (p :: l))).size ≤ 6 * cnts (p :: l); omega, by show 1 ≤ cnts (p :: l); omega⟩
theorem fold_mn : ∀ (l : List PT) (t : List UInt8) (n : Nat) (x : RE), Mn t n 0 x → RE.nf x → x.size ≤ 7 * n → (∀ p ∈ l, (RdE PS.and PS.stA p.1 p.2.1 0 p.2.2 ∧ RE.nf p.2.2 ∧ p.2.2.size ≤ 6 * p.2.1) ∧ 1 ≤ p.2.1) →
    Mn (t ++ txtsB 45 l) (n + cnts l) 0 (foldM x l) ∧ RE.nf (foldM x l) ∧ (foldM x l).size ≤ 7 * (n + cnts l) := by
  intro l
  induction l with
  | nil => intro t n x h h1 h2 _; simpa [txtsB, cnts, foldM] using ⟨h, h1, h2⟩
  | cons p l ih =>
    intro t n x h h1 h2 hl
    obtain ⟨⟨k1, k2, k3⟩, k4⟩ := hl p (by simp)
    have hsz := RE.size_but (some x) (some p.2.2)
    simp only [RE.sizeO] at hsz
    have := ih _ _ _ (Mn.but h k1) (RE.nf_but (fun r hr => by cases hr; exact h1) (fun r hr => by cases hr; exact k2)) (by omega) fun q hq => hl q (by simp [hq])
    have e1 : t ++ txtsB 45 (p :: l) = t ++ [45] ++ p.1 ++ txtsB 45 l := by simp [txtsB]
    have e2 : n + cnts (p :: l) = n + p.2.1 + cnts l := by simp [cnts]; omega
    rw [e1, e2]
    exact this
theorem close_m {M : List PT} (hne : M ≠ []) (h : ∀ p ∈ M, RdE PS.and PS.stA p.1 p.2.1 0 p.2.2 ∧ RE.nf p.2.2 ∧ p.2.2.size ≤ 6 * p.2.1) (hp : ∀ p ∈ M, 1 ≤ p.2.1) :
    RdE PS.minus PS.stM (closeM M).1 (closeM M).2.1 0 (closeM M).2.2 ∧ RE.nf (closeM M).2.2 ∧ (closeM M).2.2.size ≤ 7 * (closeM M).2.1 ∧ 1 ≤ (closeM M).2.1 := by
  cases M with
  | nil => exact absurd rfl hne
  | cons p l =>
    obtain ⟨k1, k2, k3⟩ := h p (by simp)
    obtain ⟨g1, g2, g3⟩ := fold_mn l p.1 p.2.1 p.2.2 (RdE.mn k1) k2 (by omega) fun q hq => ⟨h q (by simp [hq]), hp q (by simp [hq])⟩
    have e2 : cnts (p :: l) = p.2.1 + cnts l := by simp [cnts]
    have := hp p (by simp)
    refine ⟨?_, g2, ?_, ?_⟩
    · show RdE PS.minus PS.stM (p.1 ++ txtsB 45 l) (cnts (p :: l)) 0 (foldM p.2.2 l)
      rw [e2]; exact Mn.minus g1
    · show (foldM p.2.2 l).size ≤ 7 * cnts (p :: l)
      rw [e2]; exact g3
    · show 1 ≤ cnts (p :: l)
      omega
theorem letP_ok (i : Nat) (hi : i ≤ 12) : PS.Start (letP i).1 ∧ Rd PS.post PS.nosg (letP i).1 (letP i).2.1 0 (letP i).2.2 ∧ RE.nf (letP i).2.2 ∧ (letP i).2.2.size ≤ (letP i).2.1 := by
  have hs : ∀ i, i < 13 → (BS.none.add (97 + i)).len = 1 ∧ byteW (BS.none.add (97 + i)).least = [(97 + i).toUInt8] ∧ ([32, 9, 10, 13, 41, 124, 38, 45, 42, 43, 63] : List UInt8).contains (97 + i).toUInt8 = false := by decide +kernel
  have hn : ∀ i, i < 13 → BS.none.add (97 + i) ≠ BS.none := by decide +kernel
  obtain ⟨h1, h2, h3⟩ := hs i (by omega)
  have h := PS.rd_class (BS.none.add (97 + i)) (hn i (by omega))
  have hc : classW (BS.none.add (97 + i)) = [(97 + i).toUInt8] := by
    unfold classW
    rw [if_pos h1, h2]
  rw [hc] at h
  exact ⟨⟨_, [], rfl, h3⟩, h.post, RE.nf_one _, by show (RE.one _).size ≤ 1; rw [RE.one_size']; omega⟩
theorem good_first : Good V.first 1 := by
  obtain ⟨l1, l2, l3, l4⟩ := letP_ok 0 (by omega)
  refine ⟨by simp [V.first], fun p hp => ?_, by simp [V.first], by simp [V.first], by simp [V.first], fun p hp => ?_, rfl⟩
  · have : p = letP 0 := by simpa [V.first] using hp
    rw [this]; exact ⟨l1, l2, l3, l4⟩
  · have : p = letP 0 := by simpa [V.first] using hp
    rw [this]; exact Nat.le_refl _
theorem good_step {v : V} {n : Nat} (h : Good v n) (k i : Nat) (hi : i ≤ 12) : Good (v.step k i) (n + 1) := by
  obtain ⟨l1, l2, l3, l4⟩ := letP_ok i hi
  have hlc : (letP i).2.1 = 1 := rfl
  obtain ⟨c1, c2, c3, c4⟩ := close_c h
  have hA : ∀ p ∈ v.A ++ [closeC v.C], RdE PS.cat PS.stC p.1 p.2.1 0 p.2.2 ∧ RE.nf p.2.2 ∧ p.2.2.size ≤ 3 * p.2.1 := fun p hp => by
    rcases List.mem_append.1 hp with hp | hp
    · exact h.a p hp
    · rw [List.mem_singleton.1 hp]; exact ⟨c1, c2, c3⟩
  have hAp : ∀ p ∈ v.A ++ [closeC v.C], 1 ≤ p.2.1 := fun p hp => by
    rcases List.mem_append.1 hp with hp | hp
    · exact h.pos p (by simp [hp])
    · rw [List.mem_singleton.1 hp]; exact c4
  obtain ⟨a1, a2, a3, a4⟩ := close_a (by simp) hA hAp
  have hM : ∀ p ∈ v.M ++ [closeA (v.A ++ [closeC v.C])], RdE PS.and PS.stA p.1 p.2.1 0 p.2.2 ∧ RE.nf p.2.2 ∧ p.2.2.size ≤ 6 * p.2.1 := fun p hp => by
    rcases List.mem_append.1 hp with hp | hp
    · exact h.m p hp
    · rw [List.mem_singleton.1 hp]; exact ⟨a1, a2, a3⟩
  have hMp : ∀ p ∈ v.M ++ [closeA (v.A ++ [closeC v.C])], 1 ≤ p.2.1 := fun p hp => by
    rcases List.mem_append.1 hp with hp | hp
    · exact h.pos p (by simp [hp])
    · rw [List.mem_singleton.1 hp]; exact a4
  obtain ⟨m1, m2, m3, m4⟩ := close_m (by simp) hM hMp
  have hcnt := h.cnt
  have eC : (closeC v.C).2.1 = cnts v.C := rfl
  have eA : (closeA (v.A ++ [closeC v.C])).2.1 = cnts v.A + cnts v.C := cnts_snoc _ _
  have eM : (closeM (v.M ++ [closeA (v.A ++ [closeC v.C])])).2.1 = cnts v.M + (cnts v.A + cnts v.C) := by
    show cnts _ = _
    rw [cnts_snoc, eA]
  have c0 : cnts ([] : List PT) = 0 := rfl
  have hL : ∀ C : List PT, (∀ p ∈ C, PS.Start p.1 ∧ Rd PS.post PS.nosg p.1 p.2.1 0 p.2.2 ∧ RE.nf p.2.2 ∧ p.2.2.size ≤ p.2.1) → ∀ p ∈ C ++ [letP i], PS.Start p.1 ∧ Rd PS.post PS.nosg p.1 p.2.1 0 p.2.2 ∧ RE.nf p.2.2 ∧ p.2.2.size ≤ p.2.1 := fun C hC p hp => by
    rcases List.mem_append.1 hp with hp | hp
    · exact hC p hp
    · rw [List.mem_singleton.1 hp]; exact ⟨l1, l2, l3, l4⟩
  have hv : v.close k = v ∨ v.close k = ⟨[], v.A ++ [closeC v.C], v.M, v.O⟩ ∨ v.close k = ⟨[], [], v.M ++ [closeA (v.A ++ [closeC v.C])], v.O⟩ ∨ v.close k = ⟨[], [], [], v.O ++ [closeM (v.M ++ [closeA (v.A ++ [closeC v.C])])]⟩ := by
    unfold V.close
    repeat' split
    · exact .inl rfl
    · exact .inr (.inl rfl)
    · exact .inr (.inr (.inl rfl))
    · exact .inr (.inr (.inr rfl))
  unfold V.step
  have hpc : ∀ p ∈ v.C, 1 ≤ p.2.1 := fun p hp => h.pos p (by simp [hp])
  have hpm : ∀ p ∈ v.M, 1 ≤ p.2.1 := fun p hp => h.pos p (by simp [hp])
  have hpo : ∀ p ∈ v.O, 1 ≤ p.2.1 := fun p hp => h.pos p (by simp [hp])
  have hpa : ∀ p ∈ v.A, 1 ≤ p.2.1 := fun p hp => h.pos p (by simp [hp])
  have hlp : 1 ≤ (letP i).2.1 := Nat.le_refl _
  rcases hv with e | e | e | e <;> rw [e]
  · refine ⟨by simp, hL _ h.c, h.a, h.m, h.o, fun p hp => ?_, by rw [cnts_snoc, hlc]; simp only; omega⟩
    simp only [List.mem_append, List.mem_singleton] at hp
    rcases hp with (((hp | hp) | hp) | hp) | hp
    · exact hpc p hp
    · rw [hp]; exact hlp
    · exact hpa p hp
    · exact hpm p hp
    · exact hpo p hp
  · refine ⟨by simp, hL _ (by simp), hA, h.m, h.o, fun p hp => ?_, by simp only [cnts_snoc, hlc, eC, c0]; omega⟩
    simp only [List.mem_append, List.mem_singleton, List.not_mem_nil, false_or] at hp
    rcases hp with ((hp | hp | hp) | hp) | hp
    · rw [hp]; exact hlp
    · exact hpa p hp
    · rw [hp]; exact c4
    · exact hpm p hp
    · exact hpo p hp
  · refine ⟨by simp, hL _ (by simp), by simp, hM, h.o, fun p hp => ?_, by simp only [cnts_snoc, hlc, eA, c0]; omega⟩
    simp only [List.mem_append, List.mem_singleton, List.not_mem_nil, false_or, or_false] at hp
    rcases hp with (hp | hp | hp) | hp
    · rw [hp]; exact hlp
    · exact hpm p hp
    · rw [hp]; exact a4
    · exact hpo p hp
  · refine ⟨by simp, hL _ (by simp), by simp, by simp, ?_, fun p hp => ?_, by simp only [cnts_snoc, hlc, eM, c0]; omega⟩
    · intro p hp
      rcases List.mem_append.1 hp with hp | hp
      · exact h.o p hp
      · rw [List.mem_singleton.1 hp]; exact ⟨m1, m2, m3⟩
    · simp only [List.mem_append, List.mem_singleton, List.not_mem_nil, false_or, or_false] at hp
      rcases hp with hp | hp | hp
      · rw [hp]; exact hlp
      · exact hpo p hp
      · rw [hp]; exact m4
/-- the values that are put together last -/
def V.all (v : V) : List (Option RE) := vals (v.close 0).O
theorem levels_read {v : V} {n : Nat} (h : Good v n) (hn : n ≤ 13) (hl : v.text.length ≤ 65536) : readW v.text = (some (RE.anyL v.all), 0, 0) ∧ RE.nfO v.all ∧ RE.sizeOs v.all ≤ 8 * n ∧ v.all.length ≤ n := by
  obtain ⟨c1, c2, c3, c4⟩ := close_c h
  have hA : ∀ p ∈ v.A ++ [closeC v.C], RdE PS.cat PS.stC p.1 p.2.1 0 p.2.2 ∧ RE.nf p.2.2 ∧ p.2.2.size ≤ 3 * p.2.1 := fun p hp => by
    rcases List.mem_append.1 hp with hp | hp
    · exact h.a p hp
    · rw [List.mem_singleton.1 hp]; exact ⟨c1, c2, c3⟩
  have hAp : ∀ p ∈ v.A ++ [closeC v.C], 1 ≤ p.2.1 := fun p hp => by
    rcases List.mem_append.1 hp with hp | hp
    · exact h.pos p (by simp [hp])
    · rw [List.mem_singleton.1 hp]; exact c4
  obtain ⟨a1, a2, a3, a4⟩ := close_a (by simp) hA hAp
  have hM : ∀ p ∈ v.M ++ [closeA (v.A ++ [closeC v.C])], RdE PS.and PS.stA p.1 p.2.1 0 p.2.2 ∧ RE.nf p.2.2 ∧ p.2.2.size ≤ 6 * p.2.1 := fun p hp => by
    rcases List.mem_append.1 hp with hp | hp
    · exact h.m p hp
    · rw [List.mem_singleton.1 hp]; exact ⟨a1, a2, a3⟩
  have hMp : ∀ p ∈ v.M ++ [closeA (v.A ++ [closeC v.C])], 1 ≤ p.2.1 := fun p hp => by
    rcases List.mem_append.1 hp with hp | hp
    · exact h.pos p (by simp [hp])
    · rw [List.mem_singleton.1 hp]; exact a4
  obtain ⟨m1, m2, m3, m4⟩ := close_m (by simp) hM hMp
  have hO : ∀ p ∈ v.O ++ [closeM (v.M ++ [closeA (v.A ++ [closeC v.C])])], (RdE PS.minus PS.stM p.1 p.2.1 0 p.2.2 ∧ RE.nf p.2.2 ∧ p.2.2.size ≤ 7 * p.2.1) ∧ 1 ≤ p.2.1 := fun p hp => by
    rcases List.mem_append.1 hp with hp | hp
    · exact ⟨h.o p hp, h.pos p (by simp [hp])⟩
    · rw [List.mem_singleton.1 hp]; exact ⟨⟨m1, m2, m3⟩, m4⟩
  have hcnt := h.cnt
  have eA : (closeA (v.A ++ [closeC v.C])).2.1 = cnts v.A + cnts v.C := cnts_snoc _ _
  have eM : (closeM (v.M ++ [closeA (v.A ++ [closeC v.C])])).2.1 = cnts v.M + (cnts v.A + cnts v.C) := by
    show cnts _ = _
    rw [cnts_snoc, eA]
  have eO : cnts (v.O ++ [closeM (v.M ++ [closeA (v.A ++ [closeC v.C])])]) = n := by rw [cnts_snoc, eM]; omega
  have eT : joinB 124 (v.O ++ [closeM (v.M ++ [closeA (v.A ++ [closeC v.C])])]) = v.text := by
    unfold V.text
    rw [joinB_snoc]
    show ends 124 v.O ++ joinB 45 _ = _
    rw [joinB_snoc]
    show ends 124 v.O ++ (ends 45 v.M ++ joinB 38 _) = _
    rw [joinB_snoc]; rfl
  have eV : v.all = vals (v.O ++ [closeM (v.M ++ [closeA (v.A ++ [closeC v.C])])]) := rfl
  have hne : v.O ++ [closeM (v.M ++ [closeA (v.A ++ [closeC v.C])])] ≠ [] := by simp
  have hl2 : (joinB 124 (v.O ++ [closeM (v.M ++ [closeA (v.A ++ [closeC v.C])])])).length ≤ 65536 := by rw [eT]; exact hl
  rw [eV, ← eT]
  clear hl eV eT
  generalize v.O ++ [closeM (v.M ++ [closeA (v.A ++ [closeC v.C])])] = L at *
  obtain ⟨s1, s2⟩ := sizeOs_vals L 7 fun p hp => ⟨(hO p hp).1.2.2, (hO p hp).2⟩
  have hnf : RE.nfO (vals L) := nfO_vals fun p hp => (hO p hp).1.2.1
  have hvl : (vals L).length = L.length := by simp [vals]
  have hsz := RE.size_anyL (vals L)
  refine ⟨?_, hnf, by omega, by omega⟩
  cases L with
  | nil => exact absurd rfl hne
  | cons p l => exact PS.read_of (PS.or_run 0 p l fun c hc => (hO c hc).1.1) (by omega) (by omega) (by omega) hl2
end TL
end Go.Proofs.YtpajpjocakhcdaaGreatDoor
