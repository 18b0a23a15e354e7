/-
  The reader of expressions, plain: how deep it is behind each part.
-/
import Derived.Test.YtpajpjocakhcdaaGreatDoorPsI
set_option linter.unusedSimpArgs false
set_option linter.unusedVariables false
set_option maxRecDepth 100000
set_option linter.unnecessarySimpa false
namespace Go.Proofs.YtpajpjocakhcdaaGreatDoor
namespace PS
/-- no less deep than ahead, and not too deep -/
def Dk (a b : PS) : Prop := a.deep ≤ b.deep ∧ b.deep ≤ 61
theorem Dk.of {a b : PS} (h : b.deep = a.deep) (ha : a.deep ≤ 60) : Dk a b := ⟨by omega, by omega⟩
theorem fail_deep (a : PS) (e : Nat) : (a.fail e).deep = a.deep := rfl
theorem take_deep (a : PS) (b : UInt8) : (a.take b).1.deep = a.deep := (take_same a b).2.2.1
theorem bump_deep (a : PS) (r : RE) : (a.bump r).deep = a.deep := by unfold bump; simp only; split <;> rfl
theorem atom_dk {d : Nat} (f : PS → PS × Option RE) (hf : ∀ d', d' + 1 = d → ∀ a, At d' a → Dk a (f a).1) (a : PS) (ha : At d a) : Dk a (atom f a).1 := by
  obtain ⟨he, hn, hd⟩ := ha
  unfold atom
  simp only
  split
  · exact Dk.of rfl (by omega)
  rename_i hle
  have hle : a.nodes + 1 ≤ 1000 := Nat.le_of_not_lt hle
  generalize hst : ({ a with nodes := a.nodes + 1 } : PS).skip = st at *
  have se : st.e = 0 := by rw [← hst]; exact he
  have sn : st.nodes = a.nodes + 1 := by rw [← hst]; rfl
  have sd : st.deep = a.deep := by rw [← hst]; rfl
  clear hst
  split
  · split
    · exact ⟨by show a.deep ≤ st.deep + 1; omega, by show st.deep + 1 ≤ 61; omega⟩
    rename_i hdp
    have hdp : st.deep + 1 ≤ 60 := Nat.le_of_not_lt hdp
    obtain ⟨t1, t2, t3, _⟩ := take_same (({ st with deep := st.deep + 1 } : PS).adv 1) 41
    have t1 : ((({ st with deep := st.deep + 1 } : PS).adv 1).take 41).1.e = 0 := t1.trans se
    have t2 : ((({ st with deep := st.deep + 1 } : PS).adv 1).take 41).1.nodes = a.nodes + 1 := t2.trans sn
    have t3 : ((({ st with deep := st.deep + 1 } : PS).adv 1).take 41).1.deep = a.deep + 1 := t3.trans (by show st.deep + 1 = _; rw [sd])
    generalize (({ st with deep := st.deep + 1 } : PS).adv 1).take 41 = t at *
    split
    · exact ⟨by show a.deep ≤ t.1.deep - 1; omega, by show t.1.deep - 1 ≤ 61; omega⟩
    · obtain ⟨d', rfl⟩ : ∃ d', d' + 1 = d := ⟨d - 1, by omega⟩
      have hr := hf d' rfl t.1 ⟨t1, by omega, by omega⟩
      have key : ∀ st3 : PS, st3.deep = (f t.1).1.deep → Dk a { st3 with deep := st3.deep - 1 } := fun st3 h => by
        obtain ⟨h1, h2⟩ := hr
        exact ⟨by show a.deep ≤ st3.deep - 1; omega, by show st3.deep - 1 ≤ 61; omega⟩
      split
      · exact key _ (take_deep _ _)
      · exact key _ (take_deep _ _)
  split
  · obtain ⟨_, g4⟩ := set_run (a := st.adv 1) se
    exact Dk.of (g4.2.trans sd) (by omega)
  split
  · exact Dk.of sd (by omega)
  · exact Dk.of ((one_same st).1.trans sd) (by omega)
theorem postGo_deep : ∀ (f : Nat) (st : PS) (r : Option RE), (postGo f st r).1.deep = st.deep := by
  intro f
  induction f with
  | zero => intro st r; rfl
  | succ f ih =>
    intro st r
    rw [postGo]
    split
    · rfl
    simp only
    split
    · rw [ih, bump_deep, take_deep]
    split
    · rw [ih, bump_deep, take_deep, take_deep]
    split
    · rw [ih, bump_deep, take_deep, take_deep, take_deep]
    · show (((st.take 42).1.take 43).1.take 63).1.deep = _
      rw [take_deep, take_deep, take_deep]
theorem post_dk {d : Nat} (f : PS → PS × Option RE) (hf : ∀ d', d' + 1 = d → ∀ a, At d' a → Dk a (f a).1) (a : PS) (ha : At d a) : Dk a (post f a).1 := by
  have := atom_dk f hf a ha
  unfold post
  simp only
  unfold Dk at this ⊢
  rw [postGo_deep]; exact this
theorem Dk.next {d c : Nat} {a st : PS} {r : PS × Option RE} (h : Dk a st) (he : At d st) (ha : At d a) (hr : Dk st r.1) : Dk a r.1 := ⟨Nat.le_trans h.1 hr.1, hr.2⟩
theorem catGo_dk {d : Nat} {f : PS → PS × Option RE} (hg : ∀ d', d' + 1 = d → Gd d' f) (hf : ∀ d', d' + 1 = d → ∀ a, At d' a → Dk a (f a).1) {a : PS} (ha : At d a) :
    ∀ (n : Nat) (st : PS) (acc : List (Option RE)), Dk a st → (st.e = 0 → At d st) → Dk a (catGo f n st acc).1 := by
  intro n
  induction n with
  | zero => intro st acc h hat; exact h
  | succ n ih =>
    intro st acc h hat
    by_cases he : st.e = 0
    · rw [catGo, if_neg (by omega)]
      split
      · exact h
      · have hs : At d st.skip := hat he
        have hr := post_res hg st.skip hs
        have hd := post_dk f hf st.skip hs
        exact ih _ _ ⟨Nat.le_trans h.1 hd.1, hd.2⟩ fun e => hr.at hs e
    · rw [catGo_bad _ _ _ _ he]; exact h
theorem cat_dk {d : Nat} {f : PS → PS × Option RE} (hg : ∀ d', d' + 1 = d → Gd d' f) (hf : ∀ d', d' + 1 = d → ∀ a, At d' a → Dk a (f a).1) (a : PS) (ha : At d a) : Dk a (cat f a).1 :=
  catGo_dk hg hf ha _ _ _ (post_dk f hf a ha) fun e => (post_res hg a ha).at ha e
theorem listGo_dk {d c : Nat} {g : PS → PS × RE} (hg : ∀ a, At d a → Res c a ((g a).1, some (g a).2)) (hd : ∀ a, At d a → Dk a (g a).1) (b : UInt8) (F : List (Option RE) → RE) {a : PS} (ha : At d a) :
    ∀ (n : Nat) (st : PS) (acc : List (Option RE)), Dk a st → (st.e = 0 → At d st) → Dk a (listGo g b F n st acc).1 := by
  intro n
  induction n with
  | zero => intro st acc h hat; exact h
  | succ n ih =>
    intro st acc h hat
    by_cases he : st.e = 0
    · rw [listGo, if_neg (by omega)]
      simp only
      have ht : At d (st.take b).1 := (hat he).take b
      split
      · have hr := hg _ ht
        have h2 := hd _ ht
        exact ih _ _ ⟨Nat.le_trans h.1 (by have := h2.1; rw [take_deep] at this; exact this), h2.2⟩ fun e => hr.at ht e
      · show Dk a (st.take b).1
        unfold Dk; rw [take_deep]; exact h
    · rw [listGo_bad _ _ _ _ _ _ he]; exact h
theorem list_dk {d c : Nat} {g : PS → PS × RE} (hg : ∀ a, At d a → Res c a ((g a).1, some (g a).2)) (hd : ∀ a, At d a → Dk a (g a).1) (b : UInt8) (F : List (Option RE) → RE) (a : PS) (ha : At d a) : Dk a (list g b F a).1 :=
  listGo_dk hg hd b F ha _ _ _ (hd a ha) fun e => (hg a ha).at ha e
theorem and_dk {d : Nat} {f : PS → PS × Option RE} (hg : ∀ d', d' + 1 = d → Gd d' f) (hf : ∀ d', d' + 1 = d → ∀ a, At d' a → Dk a (f a).1) (a : PS) (ha : At d a) : Dk a (and f a).1 :=
  list_dk (cat_res hg) (cat_dk hg hf) 38 RE.bothL a ha
theorem minusGo_dk {d : Nat} {f : PS → PS × Option RE} (hg : ∀ d', d' + 1 = d → Gd d' f) (hf : ∀ d', d' + 1 = d → ∀ a, At d' a → Dk a (f a).1) {a : PS} (ha : At d a) :
    ∀ (n : Nat) (st : PS) (r : RE), Dk a st → (st.e = 0 → At d st) → Dk a (minusGo f n st r).1 := by
  intro n
  induction n with
  | zero => intro st acc h hat; exact h
  | succ n ih =>
    intro st acc h hat
    by_cases he : st.e = 0
    · rw [minusGo, if_neg (by omega)]
      simp only
      have ht : At d (st.take 45).1 := (hat he).take 45
      split
      · have hr := and_res hg _ ht
        have h2 := and_dk hg hf _ ht
        exact ih _ _ ⟨Nat.le_trans h.1 (by have := h2.1; rw [take_deep] at this; exact this), h2.2⟩ fun e => hr.at ht e
      · show Dk a (st.take 45).1
        unfold Dk; rw [take_deep]; exact h
    · rw [minusGo_bad _ _ _ _ he]; exact h
theorem minus_dk {d : Nat} {f : PS → PS × Option RE} (hg : ∀ d', d' + 1 = d → Gd d' f) (hf : ∀ d', d' + 1 = d → ∀ a, At d' a → Dk a (f a).1) (a : PS) (ha : At d a) : Dk a (minus f a).1 :=
  minusGo_dk hg hf ha _ _ _ (and_dk hg hf a ha) fun e => (and_res hg a ha).at ha e
theorem orS_dk {d : Nat} {f : PS → PS × Option RE} (hg : ∀ d', d' + 1 = d → Gd d' f) (hf : ∀ d', d' + 1 = d → ∀ a, At d' a → Dk a (f a).1) (a : PS) (ha : At d a) : Dk a (orS f a).1 :=
  list_dk (minus_res hg) (minus_dk hg hf) 124 RE.anyL a ha
theorem orN_fst (d : Nat) (a : PS) : (orN (d + 1) a).1 = (orS (orN d) a).1 := rfl
theorem orN_dk : ∀ d a, At d a → Dk a (orN (d + 1) a).1 := by
  intro d
  induction d with
  | zero =>
    intro a ha
    rw [orN_fst]
    exact orS_dk (d := 0) (f := orN 0) (fun d' h => absurd h (by omega)) (fun d' h => absurd h (by omega)) a ha
  | succ d ih =>
    intro a ha
    rw [orN_fst]
    exact orS_dk (d := d + 1) (f := orN (d + 1)) (fun d' h => (show d = d' by omega) ▸ orN_res d) (fun d' h => (show d = d' by omega) ▸ ih) a ha
end PS
end Go.Proofs.YtpajpjocakhcdaaGreatDoor
