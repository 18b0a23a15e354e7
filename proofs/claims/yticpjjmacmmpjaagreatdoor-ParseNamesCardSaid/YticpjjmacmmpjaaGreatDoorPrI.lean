/-
  Names with signs between, parsed, plain; ParseDeep, plain.
-/
import Derived.Test.YticpjjmacmmpjaaGreatDoorPrM
import Derived.Test.YticpjjmacmmpjaaGreatDoorLxK
set_option linter.unusedSimpArgs false
set_option linter.unusedVariables false
set_option maxRecDepth 100000
set_option linter.unnecessarySimpa false
namespace Go.Proofs.YticpjjmacmmpjaaGreatDoor
namespace PR
theorem bind_ok {A B : Type} (a : A) (ts : List LT) (c : Nat) (f : A → List LT → Nat → Res B) : (Res.ok a ts c).bind f = f a ts c := rfl
/-- a name, as a token -/
structure NameTk (t : LT) : Prop where
  kind : t.kind = 1
  name : LX.nameB t.text = true
theorem opOf_name {s : List UInt8} (h : LX.nameB s = true) : opOf s = none := by
  have hr : LX.resB s = false := by
    unfold LX.nameB at h
    simp only [Bool.and_eq_true, Bool.not_eq_true'] at h
    exact h.1.2
  have hne : s ≠ [] := by
    unfold LX.nameB at h
    simp only [Bool.and_eq_true, Bool.not_eq_true'] at h
    intro e
    rw [e] at h
    simp at h
  have key : ∀ f o, o + f ≤ 18 → 2 ≤ o → opGo s f o = none := by
    intro f
    induction f with
    | zero => intro o _ _; rfl
    | succ f ih =>
      intro o h1 h2
      have hw : TA.word o ≠ s := by
        intro e
        have hall : ∀ o, o < 18 → 2 ≤ o → TA.word o = [] ∨ LX.resB (TA.word o) = true := by decide
        rcases hall o (by omega) h2 with h3 | h3
        · exact hne (by rw [← e]; exact h3)
        · rw [e, hr] at h3; cases h3
      rw [opGo, if_neg hw]
      exact ih (o + 1) (by omega) (by omega)
  exact key 16 2 (by omega) (by omega)
theorem hd_cons (t : LT) (ts : List LT) : hd (t :: ts) = t := rfl
theorem stp_cons (t : LT) (ts : List LT) (h : t.kind ≠ 0) : stp (t :: ts) = ts := by unfold stp; rw [hd_cons, if_neg h]; rfl
theorem nm_name {t : LT} (h : NameTk t) (ts : List LT) (c : Nat) : nm (t :: ts) c = .ok t ts c := by
  unfold nm
  rw [hd_cons, if_pos ⟨h.kind, h.name⟩, stp_cons t ts (by rw [h.kind]; decide)]
theorem nmT_name {t : LT} (h : NameTk t) (ts : List LT) (c : Nat) : nmT (t :: ts) c = if 1000 < c + 1 then .bad 3 t.at_ else .ok (nameT t) ts (c + 1) := by
  unfold nmT
  rw [nm_name h]
  show (cnt t.at_ ts c).bind _ = _
  unfold cnt
  split <;> rfl
theorem word_name {t : LT} (h : NameTk t) (g : Nat) (rec : List LT → Nat → Res TA) (ts : List LT) (c : Nat) : word g rec (t :: ts) c = if 1000 < c + 1 then .bad 3 t.at_ else .ok (nameT t) ts (c + 1) := by
  unfold word
  rw [hd_cons, opOf_name h.name]
  exact nmT_name h ts c
theorem atom_name {t : LT} (h : NameTk t) (g : Nat) (rec : List LT → Nat → Res TA) (ts : List LT) (c : Nat) : atom g rec (t :: ts) c = if 1000 < c + 1 then .bad 3 t.at_ else .ok (nameT t) ts (c + 1) := by
  unfold atom
  rw [hd_cons, if_pos h.kind]
  exact word_name h g rec ts c
/-- is the token at hand no such sign? -/
def noSg (b : UInt8) (ts : List LT) : Prop := isT ts 2 [b] = false
theorem starGo_stop {ts : List LT} (h : noSg 42 ts) (n : Nat) (t : TA) (c : Nat) : starGo n t ts c = .ok t ts c := by
  cases n with
  | zero => rfl
  | succ n => rw [starGo, if_neg (by rw [h]; simp)]
theorem chGo_stop {sg : UInt8} {ts : List LT} (h : noSg sg ts) (o : Nat) (nx : List LT → Nat → Res TA) (n : Nat) (t : TA) (c : Nat) : chGo sg o nx n t ts c = .ok t ts c := by
  cases n with
  | zero => rfl
  | succ n => rw [chGo, if_neg (by rw [h]; simp)]
/-- a part that is read as one name, whatever is behind it, but some signs -/
def NameP (P : List LT → Prop) (nx : List LT → Nat → Res TA) : Prop := ∀ (t : LT) (ts : List LT) (c : Nat), NameTk t → P ts → nx (t :: ts) c = if 1000 < c + 1 then .bad 3 t.at_ else .ok (nameT t) ts (c + 1)
theorem star_nameP (g : Nat) (rec : List LT → Nat → Res TA) : NameP (noSg 42) (star g rec) := fun t ts c h hp => by
  unfold star
  rw [atom_name h]
  split
  · rfl
  · exact starGo_stop hp _ _ _
theorem chL_nameP {P : List LT → Prop} {nx : List LT → Nat → Res TA} (hn : NameP P nx) (sg : UInt8) (o : Nat) : NameP (fun ts => P ts ∧ noSg sg ts) (chL sg o nx) := fun t ts c h hp => by
  unfold chL
  rw [hn t ts c h hp.1]
  split
  · rfl
  · exact chGo_stop hp.2 _ _ _ _ _
/-- .. of each level -/
theorem chN_nameP (g : Nat) (rec : List LT → Nat → Res TA) : NameP (noSg 42) (chN g rec 0) ∧ NameP (fun ts => noSg 42 ts ∧ noSg 59 ts) (chN g rec 1) ∧ NameP (fun ts => (noSg 42 ts ∧ noSg 59 ts) ∧ noSg 46 ts) (chN g rec 2) ∧ NameP (fun ts => ((noSg 42 ts ∧ noSg 59 ts) ∧ noSg 46 ts) ∧ noSg 124 ts) (chN g rec 3) := by
  have h0 := star_nameP g rec
  have h1 := chL_nameP (nx := chN g rec 0) h0 (sgn 2) (opc 2)
  have h2 := chL_nameP (nx := chN g rec 1) h1 (sgn 1) (opc 1)
  have h3 := chL_nameP (nx := chN g rec 2) h2 (sgn 0) (opc 0)
  exact ⟨h0, h1, h2, h3⟩
theorem chain_nameP (k : Nat) : NameP (fun ts => ((noSg 42 ts ∧ noSg 59 ts) ∧ noSg 46 ts) ∧ noSg 124 ts) (chain k) := by
  cases k with
  | zero => exact (chN_nameP 0 _).2.2.2
  | succ k => exact (chN_nameP (k + 1) _).2.2.2
theorem noSg_kind {b : UInt8} {t : LT} {ts : List LT} (h : t.kind ≠ 2) : noSg b (t :: ts) := by
  unfold noSg isT
  rw [hd_cons]
  have : (t.kind == 2) = false := by simpa using h
  rw [this]; rfl
theorem noSg_other {b d : UInt8} {t : LT} {ts : List LT} (h : t.text = [d]) (hd' : d ≠ b) : noSg b (t :: ts) := by
  unfold noSg isT
  rw [hd_cons, h]
  have : (([d] : List UInt8) == [b]) = false := by simpa using hd'
  rw [this, Bool.and_false]
/-! ### ParseDeep -/
def xT (p : Nat) : LT := ⟨1, [120], none, p⟩
def endT (p : Nat) : LT := ⟨0, [], none, p⟩
theorem x_name (p : Nat) : NameTk (xT p) := ⟨rfl, by show LX.nameB [120] = true; decide⟩
/-- names and dots between them -/
def dotT : Nat → Nat → List LT
  | p, 0 => [endT p]
  | p, j + 1 => ⟨2, [46], none, p⟩ :: xT (p + 1) :: dotT (p + 2) j
theorem dot_go (nx : List LT → Nat → Res TA) (hn : NameP (fun ts => noSg 42 ts ∧ noSg 59 ts) nx) : ∀ (j n : Nat) (t : TA) (p : Nat), (dotT p j).length ≤ n → p % 2 = 1 → p ≤ 999 →
    (p + 2 * j ≤ 999 → ∃ t', chGo 46 8 nx n t (dotT p j) p = .ok t' [endT (p + 2 * j)] (p + 2 * j)) ∧ (999 < p + 2 * j → chGo 46 8 nx n t (dotT p j) p = .bad 3 1000) := by
  intro j
  induction j with
  | zero =>
    intro n t p hn2 hp1 hp2
    refine ⟨fun _ => ⟨t, ?_⟩, fun h => by omega⟩
    exact chGo_stop (noSg_kind (by show (0 : Nat) ≠ 2; decide)) _ _ _ _ _
  | succ j ih =>
    intro n t p hn2 hp1 hp2
    obtain ⟨n, rfl⟩ : ∃ n', n = n' + 1 := ⟨n - 1, by simp [dotT] at hn2; omega⟩
    have hl : (dotT (p + 2) j).length ≤ n := by simp [dotT] at hn2; omega
    have e1 : chGo 46 8 nx (n + 1) t (dotT p (j + 1)) p = (nx (xT (p + 1) :: dotT (p + 2) j) (p + 1)).bind fun y ts2 c => chGo 46 8 nx n (TA.node 0 8 (p : Nat) [] none [] [] [t, y]) ts2 c := by
      rw [dotT, chGo, if_pos (by rfl), stp_cons _ _ (by show (2 : Nat) ≠ 0; decide)]
      unfold cnt
      rw [if_neg (by omega)]
      rfl
    have hno : noSg 42 (dotT (p + 2) j) ∧ noSg 59 (dotT (p + 2) j) := by
      cases j with
      | zero => exact ⟨noSg_kind (by show (0 : Nat) ≠ 2; decide), noSg_kind (by show (0 : Nat) ≠ 2; decide)⟩
      | succ j => exact ⟨noSg_other (d := 46) rfl (by decide), noSg_other (d := 46) rfl (by decide)⟩
    have e2 := hn (xT (p + 1)) (dotT (p + 2) j) (p + 1) (x_name _) hno
    rw [e1, e2]
    by_cases hb : 1000 < p + 1 + 1
    · rw [if_pos hb]
      refine ⟨fun h => by omega, fun _ => ?_⟩
      show Res.bad 3 (p + 1) = _
      have : p = 999 := by omega
      rw [this]
    · rw [if_neg hb]
      have hih := ih n (TA.node 0 8 (p : Nat) [] none [] [] [t, nameT (xT (p + 1))]) (p + 2) hl (by omega) (by omega)
      have ea : p + 2 * (j + 1) = p + 2 + 2 * j := by omega
      rw [ea]
      exact hih
/-- a program of names and dots -/
theorem prog_dots (j : Nat) : (1 + 2 * j ≤ 999 → ∃ r ts c, prog (xT 0 :: dotT 1 j) = .ok r ts c) ∧ (999 < 1 + 2 * j → prog (xT 0 :: dotT 1 j) = .bad 3 1000) := by
  have e0 : prog (xT 0 :: dotT 1 j) = (chain 60 (xT 0 :: dotT 1 j) 0).bind fun b ts c => if (hd ts).kind = 0 then .ok ([], b) ts c else form ts := by
    unfold prog
    rw [show (xT 0 :: dotT 1 j).length = (dotT 1 j).length + 1 from rfl, progGo, if_neg (by show ¬ (false = true); decide)]
  obtain ⟨_, hn1, _⟩ := chN_nameP 60 (chain 59)
  have hno : noSg 42 (dotT 1 j) ∧ noSg 59 (dotT 1 j) := by
    cases j with
    | zero => exact ⟨noSg_kind (by show (0 : Nat) ≠ 2; decide), noSg_kind (by show (0 : Nat) ≠ 2; decide)⟩
    | succ j => exact ⟨noSg_other (d := 46) rfl (by decide), noSg_other (d := 46) rfl (by decide)⟩
  have e1 : chN 60 (chain 59) 1 (xT 0 :: dotT 1 j) 0 = .ok (nameT (xT 0)) (dotT 1 j) 1 := by rw [hn1 _ _ _ (x_name 0) hno]; rfl
  have e2 : chN 60 (chain 59) 2 (xT 0 :: dotT 1 j) 0 = chGo 46 8 (chN 60 (chain 59) 1) (dotT 1 j).length (nameT (xT 0)) (dotT 1 j) 1 := by
    show chL (sgn 1) (opc 1) (chN 60 (chain 59) 1) _ _ = _
    unfold chL
    rw [e1]; rfl
  have hg := dot_go (chN 60 (chain 59) 1) hn1 j (dotT 1 j).length (nameT (xT 0)) 1 (Nat.le_refl _) (by decide) (by decide)
  have e3 : chain 60 (xT 0 :: dotT 1 j) 0 = (chN 60 (chain 59) 2 (xT 0 :: dotT 1 j) 0).bind fun t ts c => chGo 124 7 (chN 60 (chain 59) 2) ts.length t ts c := rfl
  constructor
  · intro h
    obtain ⟨t', ht⟩ := hg.1 h
    have e4 : chain 60 (xT 0 :: dotT 1 j) 0 = .ok t' [endT (1 + 2 * j)] (1 + 2 * j) := by
      rw [e3, e2, ht]
      exact chGo_stop (noSg_kind (by show (0 : Nat) ≠ 2; decide)) _ _ _ _ _
    rw [e0, e4]
    exact ⟨_, _, _, rfl⟩
  · intro h
    rw [e0, e3, e2, hg.2 h]; rfl
/-- names bound, one behind the other -/
def letsT : Nat → Nat → List LT
  | p, 0 => [xT p, endT (p + 1)]
  | p, j + 1 => ⟨1, letW, none, p⟩ :: xT (p + 4) :: ⟨2, [61], none, p + 5⟩ :: xT (p + 6) :: ⟨1, inW, none, p + 8⟩ :: letsT (p + 11) j
theorem lets_go : ∀ (j n : Nat) (ls : List LetT) (p : Nat), (letsT p j).length ≤ n → ls.length ≤ 200 → 
    (ls.length + j ≤ 200 → ∃ r ts c, progGo n ls (letsT p j) ls.length = .ok r ts c) ∧ (200 < ls.length + j → progGo n ls (letsT p j) ls.length = .bad 3 (p + 11 * (200 - ls.length))) := by
  intro j
  induction j with
  | zero =>
    intro n ls p hn hl
    obtain ⟨n, rfl⟩ : ∃ n', n = n' + 1 := ⟨n - 1, by simp [letsT] at hn; omega⟩
    refine ⟨fun _ => ?_, fun h => by omega⟩
    have e1 : chain 60 [xT p, endT (p + 1)] ls.length = .ok (nameT (xT p)) [endT (p + 1)] (ls.length + 1) := by
      have := chain_nameP 60 (xT p) [endT (p + 1)] ls.length (x_name p) ⟨⟨⟨noSg_kind (by show (0 : Nat) ≠ 2; decide), noSg_kind (by show (0 : Nat) ≠ 2; decide)⟩, noSg_kind (by show (0 : Nat) ≠ 2; decide)⟩, noSg_kind (by show (0 : Nat) ≠ 2; decide)⟩
      rw [this, if_neg (by omega)]
    rw [letsT, progGo, if_neg (by show ¬ (false = true); decide), e1]
    exact ⟨_, _, _, rfl⟩
  | succ j ih =>
    intro n ls p hn hl
    obtain ⟨n, rfl⟩ : ∃ n', n = n' + 1 := ⟨n - 1, by simp [letsT] at hn; omega⟩
    have hln : (letsT (p + 11) j).length ≤ n := by simp [letsT] at hn; omega
    have e0 : progGo (n + 1) ls (letsT p (j + 1)) ls.length = if ls.length = 200 then .bad 3 p else progGo n (ls ++ [⟨[120], p + 4, nameT (xT (p + 6))⟩]) (letsT (p + 11) j) (ls.length + 1) := by
      rw [letsT, progGo, if_pos (by rfl), stp_cons _ _ (by show (1 : Nat) ≠ 0; decide)]
      by_cases h2 : ls.length = 200
      · rw [if_pos h2, if_pos h2]; rfl
      · rw [if_neg h2, if_neg h2, nm_name (x_name _)]
        have e1 : chain 60 (xT (p + 6) :: ⟨1, inW, none, p + 8⟩ :: letsT (p + 11) j) ls.length = .ok (nameT (xT (p + 6))) (⟨1, inW, none, p + 8⟩ :: letsT (p + 11) j) (ls.length + 1) := by
          have := chain_nameP 60 (xT (p + 6)) (⟨1, inW, none, p + 8⟩ :: letsT (p + 11) j) ls.length (x_name _) ⟨⟨⟨noSg_kind (by show (1 : Nat) ≠ 2; decide), noSg_kind (by show (1 : Nat) ≠ 2; decide)⟩, noSg_kind (by show (1 : Nat) ≠ 2; decide)⟩, noSg_kind (by show (1 : Nat) ≠ 2; decide)⟩
          rw [this, if_neg (by omega)]
        rw [bind_ok]
        unfold want
        rw [if_pos (by rfl), stp_cons _ _ (by show (2 : Nat) ≠ 0; decide), bind_ok, e1, bind_ok]
        rw [if_pos (by rfl), stp_cons _ _ (by show (1 : Nat) ≠ 0; decide)]
        rfl
    rw [e0]
    by_cases h2 : ls.length = 200
    · rw [if_pos h2]
      refine ⟨fun h => by omega, fun _ => ?_⟩
      rw [h2, Nat.sub_self, Nat.mul_zero, Nat.add_zero]
    · rw [if_neg h2]
      have hih := ih n (ls ++ [⟨[120], p + 4, nameT (xT (p + 6))⟩]) (p + 11) hln (by simp; omega)
      simp only [List.length_append, List.length_singleton] at hih
      refine ⟨fun h => hih.1 (by omega), fun h => ?_⟩
      rw [hih.2 (by omega)]
      congr 1; omega
end PR
end Go.Proofs.YticpjjmacmmpjaaGreatDoor
