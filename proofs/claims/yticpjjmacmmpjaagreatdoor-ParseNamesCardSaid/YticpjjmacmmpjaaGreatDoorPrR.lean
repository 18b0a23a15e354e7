/-
  ParseNames, plain: the texts, and what the parser says of them.
-/
import Derived.Test.YticpjjmacmmpjaaGreatDoorPrI
set_option linter.unusedSimpArgs false
set_option linter.unusedVariables false
set_option maxRecDepth 100000
set_option linter.unnecessarySimpa false
namespace Go.Proofs.YticpjjmacmmpjaaGreatDoor
namespace PR
/-- the words of the language -/
def nmW : List (List UInt8) := [[108, 101, 116], [105, 110], [99, 111, 112, 121], [107, 101, 121], [99, 111, 110, 115, 116], [100, 101, 108], [105, 110, 115], [115, 119, 97, 112], [105, 110, 118], [100, 105, 99, 116], [108, 101, 102, 116], [114, 105, 103, 104, 116], [107, 101, 101, 112], [110, 111, 114, 109]]
theorem nmW_kernel : ∀ i, i < 14 → (parseW ([107, 101, 121, 32] ++ nmW.getD i [] ++ [32, 47, 97, 47])).2 = (2, 4) ∧ (parseW ([108, 101, 116, 32] ++ nmW.getD i [] ++ [32, 61, 32, 47, 97, 47, 32, 105, 110, 32, 120])).2 = (2, 4) := by decide +kernel
theorem nameF_all : ∀ n, LX.nameF false n = true → ∀ c ∈ n, LX.letter c false = true
  | [], _ => by simp
  | c :: n, h => by
    rw [LX.nameF, Bool.and_eq_true] at h
    intro d hd
    rcases List.mem_cons.1 hd with rfl | hd
    · exact h.1
    · exact nameF_all n h.2 d hd
theorem name_open {s : List UInt8} (h : LX.nameB s = true) : ∃ b n, s = b :: n ∧ LX.letter b true = true ∧ (∀ c ∈ n, LX.letter c false = true) ∧ n.length < 30 := by
  unfold LX.nameB at h
  simp only [Bool.and_eq_true, Bool.not_eq_true', decide_eq_true_eq] at h
  obtain ⟨⟨⟨h1, h2⟩, _⟩, h3⟩ := h
  cases s with
  | nil => simp at h1
  | cons b n =>
    rw [LX.nameF, Bool.and_eq_true] at h3
    exact ⟨b, n, rfl, h3.1, nameF_all n h3.2, by simp at h2; omega⟩
theorem lexes_nm {s : List UInt8} (h : LX.nameB s = true) (p : Nat) (r : List UInt8) (ts : List LT) (h4 : ∀ c, r.head? = some c → LX.letter c false = false) (hl : LX.Lexes (p + s.length) r ts) : LX.Lexes p (s ++ r) (⟨1, s, none, p⟩ :: ts) := by
  obtain ⟨b, n, rfl, h1, h2, h3⟩ := name_open h
  exact LX.Lexes.name p b n r ts h1 h2 h3 h4 hl
/-- the text of a name -/
def nmT3 (s : List UInt8) : List UInt8 := [108, 101, 116, 32] ++ (s ++ ([32, 61, 32, 99, 111, 112, 121, 32] ++ (s ++ ([32, 105, 110, 32, 107, 101, 121, 32] ++ (s ++ ([32] ++ (s ++ ([32, 124, 32] ++ s))))))))
def copyW : List UInt8 := [99, 111, 112, 121]
def keyW : List UInt8 := [107, 101, 121]
theorem head32 {r : List UInt8} : ∀ c, (32 :: r : List UInt8).head? = some c → LX.letter c false = false := by
  intro c hc
  simp at hc; subst hc; decide
theorem nm_lexes {s : List UInt8} (h : LX.nameB s = true) : ∃ a b c d e f g i j k : Nat, LX.Lexes 0 (nmT3 s) [⟨1, letW, none, 0⟩, ⟨1, s, none, 4⟩, ⟨2, [61], none, a⟩, ⟨1, copyW, none, b⟩, ⟨1, s, none, c⟩, ⟨1, inW, none, d⟩, ⟨1, keyW, none, e⟩, ⟨1, s, none, f⟩, ⟨1, s, none, g⟩, ⟨2, [124], none, i⟩, ⟨1, s, none, j⟩, ⟨0, [], none, k⟩] := by
  obtain ⟨z1, hz1⟩ : ∃ z, z = 4 + s.length := ⟨_, rfl⟩
  obtain ⟨z2, hz2⟩ : ∃ z, z = z1 + 8 + s.length := ⟨_, rfl⟩
  obtain ⟨z3, hz3⟩ : ∃ z, z = z2 + 8 + s.length := ⟨_, rfl⟩
  obtain ⟨z4, hz4⟩ : ∃ z, z = z3 + 1 + s.length := ⟨_, rfl⟩
  have h1 := lexes_nm h (z4 + 3) [] _ (by simp) (LX.Lexes.fin _)
  rw [List.append_nil] at h1
  have h2 := LX.Lexes.gap (z4 + 2) 32 _ _ (.inl rfl) h1
  have h3 := LX.Lexes.sign (z4 + 1) 124 _ _ (by decide) h2
  have h4 := LX.Lexes.gap z4 32 _ _ (.inl rfl) h3
  rw [hz4] at h4
  have h5 := lexes_nm h (z3 + 1) _ _ head32 h4
  have h6 := LX.Lexes.gap z3 32 _ _ (.inl rfl) h5
  rw [hz3] at h6
  have h7 := lexes_nm h (z2 + 8) _ _ head32 h6
  have h8 := LX.Lexes.gap (z2 + 7) 32 _ _ (.inl rfl) h7
  have h9 := LX.Lexes.name (z2 + 4) 107 [101, 121] _ _ (by decide) (by decide) (by decide) head32 h8
  have h10 := LX.Lexes.gap (z2 + 3) 32 _ _ (.inl rfl) h9
  have h11 := LX.Lexes.name (z2 + 1) 105 [110] _ _ (by decide) (by decide) (by decide) head32 h10
  have h12 := LX.Lexes.gap z2 32 _ _ (.inl rfl) h11
  rw [hz2] at h12
  have h13 := lexes_nm h (z1 + 8) _ _ head32 h12
  have h14 := LX.Lexes.gap (z1 + 7) 32 _ _ (.inl rfl) h13
  have h15 := LX.Lexes.name (z1 + 3) 99 [111, 112, 121] _ _ (by decide) (by decide) (by decide) head32 h14
  have h16 := LX.Lexes.gap (z1 + 2) 32 _ _ (.inl rfl) h15
  have h17 := LX.Lexes.sign (z1 + 1) 61 _ _ (by decide) h16
  have h18 := LX.Lexes.gap z1 32 _ _ (.inl rfl) h17
  rw [hz1] at h18
  have h19 := lexes_nm h 4 _ _ head32 h18
  have h20 := LX.Lexes.gap 3 32 _ _ (.inl rfl) h19
  exact ⟨_, _, _, _, _, _, _, _, _, _, LX.Lexes.name 0 108 [101, 116] _ _ (by decide) (by decide) (by decide) head32 h20⟩
variable {g : Nat} {rec : List LT → Nat → Res TA} {ts rest : List LT} {c c' : Nat} {t : TA}
theorem chN0_of (ha : atom g rec ts c = .ok t rest c') (h42 : noSg 42 rest) : chN g rec 0 ts c = .ok t rest c' := by
  show star g rec ts c = _
  unfold star
  rw [ha, bind_ok]
  exact starGo_stop h42 _ _ _
theorem chN1_of (ha : chN g rec 0 ts c = .ok t rest c') (h59 : noSg 59 rest) : chN g rec 1 ts c = .ok t rest c' := by
  show chL (sgn 2) (opc 2) (chN g rec 0) ts c = _
  unfold chL
  rw [ha, bind_ok]
  exact chGo_stop h59 _ _ _ _ _
theorem chN2_of (ha : chN g rec 1 ts c = .ok t rest c') (h46 : noSg 46 rest) : chN g rec 2 ts c = .ok t rest c' := by
  show chL (sgn 1) (opc 1) (chN g rec 1) ts c = _
  unfold chL
  rw [ha, bind_ok]
  exact chGo_stop h46 _ _ _ _ _
theorem chN3_of (ha : chN g rec 2 ts c = .ok t rest c') (h124 : noSg 124 rest) : chN g rec 3 ts c = .ok t rest c' := by
  show chL (sgn 0) (opc 0) (chN g rec 2) ts c = _
  unfold chL
  rw [ha, bind_ok]
  exact chGo_stop h124 _ _ _ _ _
def copyT (s : List UInt8) (a d : Nat) : TA := TA.node 0 2 (a : Nat) [] none [] [] [nameT ⟨1, s, none, d⟩]
def keyT (s : List UInt8) (a d : Nat) : TA := TA.node 0 3 (a : Nat) s none [] [] [nameT ⟨1, s, none, d⟩]
theorem atom_copy {s : List UInt8} (h : LX.nameB s = true) (a d n : Nat) (rest : List LT) (hn : n + 2 ≤ 1000) : atom g rec (⟨1, copyW, none, a⟩ :: ⟨1, s, none, d⟩ :: rest) n = .ok (copyT s a d) rest (n + 2) := by
  have e1 : atom g rec (⟨1, copyW, none, a⟩ :: ⟨1, s, none, d⟩ :: rest) n = plain 2 a (⟨1, s, none, d⟩ :: rest) n := rfl
  have e2 : arg (⟨1, s, none, d⟩ :: rest) (n + 1) = .ok (none, [nameT ⟨1, s, none, d⟩]) rest (n + 1 + 1) := by
    unfold arg
    rw [if_neg (by show ¬ ((1 : Nat) = 4); decide), nmT_name ⟨rfl, h⟩, if_neg (by omega), bind_ok]
  have e3 : plain 2 a (⟨1, s, none, d⟩ :: rest) n = (cnt a (⟨1, s, none, d⟩ :: rest) n).bind fun _ ts c => (arg ts c).bind fun ra ts c => .ok (TA.node 0 2 (a : Nat) [] ra.1 [] [] ra.2) ts c := rfl
  rw [e1, e3, show cnt a (⟨1, s, none, d⟩ :: rest) n = .ok () (⟨1, s, none, d⟩ :: rest) (n + 1) from if_neg (by omega), bind_ok, e2, bind_ok]
  rfl
theorem atom_key {s : List UInt8} (h : LX.nameB s = true) (a b d n : Nat) (rest : List LT) (hn : n + 2 ≤ 1000) : atom g rec (⟨1, keyW, none, a⟩ :: ⟨1, s, none, b⟩ :: ⟨1, s, none, d⟩ :: rest) n = .ok (keyT s a d) rest (n + 2) := by
  have e1 : atom g rec (⟨1, keyW, none, a⟩ :: ⟨1, s, none, b⟩ :: ⟨1, s, none, d⟩ :: rest) n = plain 3 a (⟨1, s, none, b⟩ :: ⟨1, s, none, d⟩ :: rest) n := rfl
  have e2 : arg (⟨1, s, none, d⟩ :: rest) (n + 1) = .ok (none, [nameT ⟨1, s, none, d⟩]) rest (n + 1 + 1) := by
    unfold arg
    rw [if_neg (by show ¬ ((1 : Nat) = 4); decide), nmT_name ⟨rfl, h⟩, if_neg (by omega), bind_ok]
  have e3 : plain 3 a (⟨1, s, none, b⟩ :: ⟨1, s, none, d⟩ :: rest) n = (cnt a (⟨1, s, none, b⟩ :: ⟨1, s, none, d⟩ :: rest) n).bind fun _ ts c => ((nm ts c).bind fun n ts c => .ok n.text ts c).bind fun n ts c => (arg ts c).bind fun ra ts c => .ok (TA.node 0 3 (a : Nat) n ra.1 [] [] ra.2) ts c := rfl
  rw [e1, e3, show cnt a (⟨1, s, none, b⟩ :: ⟨1, s, none, d⟩ :: rest) n = .ok () (⟨1, s, none, b⟩ :: ⟨1, s, none, d⟩ :: rest) (n + 1) from if_neg (by omega), bind_ok, nm_name ⟨rfl, h⟩, bind_ok, bind_ok, e2, bind_ok]
  rfl
theorem nm_parse {s : List UInt8} (h : LX.nameB s = true) : ∃ b c e g i j : Nat, parseW (nmT3 s) = (some ([⟨s, 4, copyT s b c⟩], TA.node 0 7 (i : Nat) [] none [] [] [keyT s e g, nameT ⟨1, s, none, j⟩]), 0, 0) := by
  obtain ⟨a, b, c, d, e, f, g, i, j, k, hlx⟩ := nm_lexes h
  have hlen : s.length ≤ 30 := by
    obtain ⟨b, n, rfl, _, _, h3⟩ := name_open h
    simp; omega
  have hl := lexW_of hlx (by simp [nmT3]; omega)
  refine ⟨b, c, e, g, i, j, ?_⟩
  unfold parseW
  rw [hl]
  simp only [ne_eq, not_true_eq_false, if_false]
  have k1 : ∀ {b : UInt8} {t : LT} {ts : List LT}, t.kind ≠ 2 → noSg b (t :: ts) := fun h => noSg_kind h
  -- copy s
  have hc : chain 60 (⟨1, copyW, none, b⟩ :: ⟨1, s, none, c⟩ :: [⟨1, inW, none, d⟩, ⟨1, keyW, none, e⟩, ⟨1, s, none, f⟩, ⟨1, s, none, g⟩, ⟨2, [124], none, i⟩, ⟨1, s, none, j⟩, ⟨0, [], none, k⟩]) 0 = .ok (copyT s b c) [⟨1, inW, none, d⟩, ⟨1, keyW, none, e⟩, ⟨1, s, none, f⟩, ⟨1, s, none, g⟩, ⟨2, [124], none, i⟩, ⟨1, s, none, j⟩, ⟨0, [], none, k⟩] 2 :=
    chN3_of (chN2_of (chN1_of (chN0_of (atom_copy h b c 0 _ (by decide)) (noSg_kind (by show (1 : Nat) ≠ 2; decide))) (noSg_kind (by show (1 : Nat) ≠ 2; decide))) (noSg_kind (by show (1 : Nat) ≠ 2; decide))) (noSg_kind (by show (1 : Nat) ≠ 2; decide))
  -- key s s
  have hk2 : chN 60 (chain 59) 2 (⟨1, keyW, none, e⟩ :: ⟨1, s, none, f⟩ :: ⟨1, s, none, g⟩ :: [⟨2, [124], none, i⟩, ⟨1, s, none, j⟩, ⟨0, [], none, k⟩]) 2 = .ok (keyT s e g) [⟨2, [124], none, i⟩, ⟨1, s, none, j⟩, ⟨0, [], none, k⟩] 4 :=
    chN2_of (chN1_of (chN0_of (atom_key h e f g 2 _ (by decide)) (noSg_other (d := 124) rfl (by decide))) (noSg_other (d := 124) rfl (by decide))) (noSg_other (d := 124) rfl (by decide))
  -- s
  have hs2 : chN 60 (chain 59) 2 [⟨1, s, none, j⟩, ⟨0, [], none, k⟩] 5 = .ok (nameT ⟨1, s, none, j⟩) [⟨0, [], none, k⟩] 6 := by
    have := (chN_nameP 60 (chain 59)).2.2.1 ⟨1, s, none, j⟩ [⟨0, [], none, k⟩] 5 ⟨rfl, h⟩ ⟨⟨noSg_kind (by show (0 : Nat) ≠ 2; decide), noSg_kind (by show (0 : Nat) ≠ 2; decide)⟩, noSg_kind (by show (0 : Nat) ≠ 2; decide)⟩
    rw [this, if_neg (by decide)]
  have hb : chain 60 (⟨1, keyW, none, e⟩ :: ⟨1, s, none, f⟩ :: ⟨1, s, none, g⟩ :: [⟨2, [124], none, i⟩, ⟨1, s, none, j⟩, ⟨0, [], none, k⟩]) 2 = .ok (TA.node 0 7 (i : Nat) [] none [] [] [keyT s e g, nameT ⟨1, s, none, j⟩]) [⟨0, [], none, k⟩] 6 := by
    show chL (sgn 0) (opc 0) (chN 60 (chain 59) 2) _ _ = _
    unfold chL
    rw [hk2, bind_ok, show [(⟨2, [124], none, i⟩ : LT), ⟨1, s, none, j⟩, ⟨0, [], none, k⟩].length = 2 + 1 from rfl, chGo, if_pos (by rfl), stp_cons _ _ (by show (2 : Nat) ≠ 0; decide)]
    rw [show ∀ p, cnt p [(⟨1, s, none, j⟩ : LT), ⟨0, [], none, k⟩] 4 = .ok () [⟨1, s, none, j⟩, ⟨0, [], none, k⟩] 5 from fun p => if_neg (by decide), bind_ok, hs2, bind_ok]
    exact chGo_stop (noSg_kind (by show (0 : Nat) ≠ 2; decide)) _ _ _ _ _
  have hprog : prog [⟨1, letW, none, 0⟩, ⟨1, s, none, 4⟩, ⟨2, [61], none, a⟩, ⟨1, copyW, none, b⟩, ⟨1, s, none, c⟩, ⟨1, inW, none, d⟩, ⟨1, keyW, none, e⟩, ⟨1, s, none, f⟩, ⟨1, s, none, g⟩, ⟨2, [124], none, i⟩, ⟨1, s, none, j⟩, ⟨0, [], none, k⟩] = .ok ([⟨s, 4, copyT s b c⟩], TA.node 0 7 (i : Nat) [] none [] [] [keyT s e g, nameT ⟨1, s, none, j⟩]) [⟨0, [], none, k⟩] 6 := by
    show progGo 12 [] _ 0 = _
    rw [progGo, if_pos (by rfl), if_neg (by show ¬ ((0 : Nat) = 200); decide), stp_cons _ _ (by show (1 : Nat) ≠ 0; decide), nm_name ⟨rfl, h⟩, bind_ok]
    unfold want
    rw [if_pos (by rfl), stp_cons _ _ (by show (2 : Nat) ≠ 0; decide), bind_ok, hc, bind_ok, if_pos (by rfl), stp_cons _ _ (by show (1 : Nat) ≠ 0; decide)]
    rw [progGo, if_neg (by show ¬ (false = true); decide), hb, bind_ok, if_pos (by rfl)]
    rfl
  rw [hprog]
end PR
end Go.Proofs.YticpjjmacmmpjaaGreatDoor
