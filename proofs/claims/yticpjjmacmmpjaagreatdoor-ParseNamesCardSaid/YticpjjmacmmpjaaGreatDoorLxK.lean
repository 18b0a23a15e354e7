/-
  Texts made of tokens, one behind the other, with gaps between: what the lexer makes of them, plain.
-/
import Derived.Test.YticpjjmacmmpjaaGreatDoorLxR
import Derived.Test.YticpjjmacmmpjaaGreatDoorLxY
set_option linter.unusedSimpArgs false
set_option linter.unusedVariables false
set_option maxRecDepth 100000
set_option linter.unnecessarySimpa false
namespace Go.Proofs.YticpjjmacmmpjaaGreatDoor
namespace LX
/-- from a place on, those tokens -/
inductive Lexes : Nat → List UInt8 → List LT → Prop
  | fin (p : Nat) : Lexes p [] [⟨0, [], none, p⟩]
  | gap (p : Nat) (c : UInt8) (r : List UInt8) (ts : List LT) (hc : c = 32 ∨ c = 9 ∨ c = 10 ∨ c = 13) (h : Lexes (p + 1) r ts) : Lexes p (c :: r) ts
  | rem (p : Nat) (m r : List UInt8) (ts : List LT) (hm : ∀ c ∈ m, c ≠ 10) (h : Lexes (p + (m.length + 2)) r ts) : Lexes p (35 :: (m ++ 10 :: r)) ts
  | name (p : Nat) (b : UInt8) (n r : List UInt8) (ts : List LT) (h1 : letter b true = true) (h2 : ∀ c ∈ n, letter c false = true) (h3 : n.length < 30) (h4 : ∀ c, r.head? = some c → letter c false = false) (h : Lexes (p + (n.length + 1)) r ts) : Lexes p (b :: (n ++ r)) (⟨1, b :: n, none, p⟩ :: ts)
  | sign (p : Nat) (c : UInt8) (r : List UInt8) (ts : List LT) (hc : signs.contains c = true) (h : Lexes (p + 1) r ts) : Lexes p (c :: r) (⟨2, [c], none, p⟩ :: ts)
  | text (p : Nat) (q r out : List UInt8) (ts : List LT) (h1 : untilN 34 (q ++ 34 :: r) = some q.length) (h2 : ∀ i, qGo (q.length + 1) q i [] = (out, none)) (h : Lexes (p + (q.length + 2)) r ts) : Lexes p (34 :: (q ++ 34 :: r)) (⟨3, out, none, p⟩ :: ts)
  | expr (p : Nat) (e r : List UInt8) (x : RE) (ts : List LT) (h1 : untilN 47 (e ++ 47 :: r) = some e.length) (h2 : readW e = (some x, 0, 0)) (h : Lexes (p + (e.length + 2)) r ts) : Lexes p (47 :: (e ++ 47 :: r)) (⟨4, [], some x, p⟩ :: ts)
theorem letter_sub {b : UInt8} (h : letter b true = true) : letter b false = true := by
  unfold letter at h ⊢
  simp only [Bool.not_true, Bool.false_and, Bool.or_false] at h
  rw [h]; rfl
theorem letter_gap {b : UInt8} (h : letter b true = true) : ¬ (b = 32 ∨ b = 9 ∨ b = 10 ∨ b = 13) ∧ b ≠ 35 := by
  constructor
  · rintro (rfl | rfl | rfl | rfl) <;> revert h <;> decide
  · rintro rfl; revert h; decide
theorem nameN_eq : ∀ (n r : List UInt8), (∀ c ∈ n, letter c false = true) → (∀ c, r.head? = some c → letter c false = false) → nameN (n ++ r) = n.length
  | [], [], _, _ => rfl
  | [], c :: r, _, h => by
    have := h c rfl
    show nameN (c :: r) = 0
    rw [nameN, if_neg (by rw [this]; simp)]
  | c :: n, r, h1, h2 => by
    show nameN (c :: (n ++ r)) = _
    rw [nameN, if_pos (h1 c (by simp)), nameN_eq n r (fun c hc => h1 c (by simp [hc])) h2]
    rfl
theorem skipS_rem : ∀ (m r : List UInt8), (∀ c ∈ m, c ≠ 10) → skipS true (m ++ 10 :: r) = skipS false r + (m.length + 1)
  | [], r, _ => by show skipS true (10 :: r) = _; rw [skipS, if_pos rfl]; simp
  | c :: m, r, h => by
    show skipS true (c :: (m ++ 10 :: r)) = _
    rw [skipS, if_neg (h c (by simp)), skipS_rem m r (fun c hc => h c (by simp [hc]))]
    simp; omega
theorem token_nil {s : List UInt8} {a : Nat} (h : s.drop a = []) : token s a = (⟨0, [], none, a⟩, 0, a) := by unfold token; rw [h]
theorem token_cons {s : List UInt8} {a : Nat} {b : UInt8} {r : List UInt8} (h : s.drop a = b :: r) : token s a =
    if letter b true then
      if 30 < nameN (b :: r) then (⟨1, (b :: r).take (nameN (b :: r)), none, a⟩, 3, a) else (⟨1, (b :: r).take (nameN (b :: r)), none, a⟩, 0, a + nameN (b :: r))
    else if signs.contains b then (⟨2, [b], none, a⟩, 0, a + 1)
    else if b = 34 then quoted s a r
    else if b = 47 then expr s a r
    else (⟨0, [], none, a⟩, 2, a) := by unfold token; rw [h]
theorem allGo_same {s : List UInt8} {p q : Nat} (h : next s p = next s q) (f : Nat) (out : List LT) : allGo s (f + 1) p out = allGo s (f + 1) q out := by
  rw [allGo, allGo, h]
theorem drop_more {s r : List UInt8} {p : Nat} {l : List UInt8} (h : s.drop p = l ++ r) : s.drop (p + l.length) = r := by
  rw [← List.drop_drop, h, List.drop_left]
theorem allGo_tok {s : List UInt8} {p q : Nat} {t : LT} (h : next s p = (t, 0, q)) (hk : t.kind ≠ 0) (f : Nat) (out : List LT) : allGo s (f + 1) p out = allGo s f q (out ++ [t]) := by
  rw [allGo, h, if_neg (by simp), if_neg hk]
theorem sign_no {c : UInt8} (h : signs.contains c = true) : letter c true = false ∧ ¬ (c = 32 ∨ c = 9 ∨ c = 10 ∨ c = 13) ∧ c ≠ 35 := by
  have hc : c = 40 ∨ c = 41 ∨ c = 44 ∨ c = 46 ∨ c = 59 ∨ c = 124 ∨ c = 42 ∨ c = 61 := by
    unfold signs at h
    simpa [List.contains_cons] using h
  rcases hc with rfl | rfl | rfl | rfl | rfl | rfl | rfl | rfl <;> decide
theorem Lexes.run {p : Nat} {r : List UInt8} {ts : List LT} (h : Lexes p r ts) : ∀ (s : List UInt8) (f : Nat) (out : List LT), s.drop p = r → r.length < f → allGo s f p out = (out ++ ts, 0, 0) := by
  induction h with
  | fin p =>
    intro s f out hd hf
    obtain ⟨f, rfl⟩ : ∃ f', f = f' + 1 := ⟨f - 1, by omega⟩
    have hn : next s p = (⟨0, [], none, p⟩, 0, p) := by
      unfold next; rw [hd]; exact token_nil hd
    rw [allGo, hn, if_neg (by simp), if_pos rfl]
  | gap p c r ts hc h ih =>
    intro s f out hd hf
    obtain ⟨f, rfl⟩ : ∃ f', f = f' + 1 := ⟨f - 1, by omega⟩
    have hd1 : s.drop (p + 1) = r := drop_more (l := [c]) hd
    have hn : next s p = next s (p + 1) := by
      unfold next; rw [hd, hd1, skipS, if_pos hc]; congr 1; omega
    rw [allGo_same hn]
    exact ih s (f + 1) out hd1 (by simp at hf; omega)
  | rem p m r ts hm h ih =>
    intro s f out hd hf
    obtain ⟨f, rfl⟩ : ∃ f', f = f' + 1 := ⟨f - 1, by omega⟩
    have hd1 : s.drop (p + (m.length + 2)) = r := by
      have := drop_more (s := s) (p := p) (l := 35 :: (m ++ [10])) (r := r) (by rw [hd]; simp)
      rw [← this]; congr 1; simp
    have hn : next s p = next s (p + (m.length + 2)) := by
      unfold next
      rw [hd, hd1, skipS, if_neg (by decide), if_pos rfl, skipS_rem m r hm]
      congr 1; omega
    rw [allGo_same hn]
    exact ih s (f + 1) out hd1 (by simp at hf; omega)
  | name p b n r ts h1 h2 h3 h4 h ih =>
    intro s f out hd hf
    obtain ⟨f, rfl⟩ : ∃ f', f = f' + 1 := ⟨f - 1, by omega⟩
    have hd1 : s.drop (p + (n.length + 1)) = r := by
      have := drop_more (s := s) (p := p) (l := b :: n) (r := r) (by rw [hd]; simp)
      rw [← this]; rfl
    have hnm : nameN (b :: (n ++ r)) = n.length + 1 := nameN_eq (b :: n) r (fun c hc => by
      rcases List.mem_cons.1 hc with rfl | hc
      · exact letter_sub h1
      · exact h2 c hc) h4
    have hn : next s p = (⟨1, b :: n, none, p⟩, 0, p + (n.length + 1)) := by
      unfold next
      obtain ⟨g1, g2⟩ := letter_gap h1
      rw [hd, skipS, if_neg g1, if_neg g2, Nat.add_zero, token_cons hd, if_pos h1, hnm, if_neg (by omega)]
      congr 2
      show (b :: (n ++ r)).take (n.length + 1) = b :: n
      simp
    rw [allGo_tok hn (by simp), ih s f _ hd1 (by simp at hf; omega)]
    simp
  | sign p c r ts hc h ih =>
    intro s f out hd hf
    obtain ⟨f, rfl⟩ : ∃ f', f = f' + 1 := ⟨f - 1, by omega⟩
    have hd1 : s.drop (p + 1) = r := drop_more (l := [c]) hd
    obtain ⟨g0, g1, g2⟩ := sign_no hc
    have hn : next s p = (⟨2, [c], none, p⟩, 0, p + 1) := by
      unfold next
      rw [hd, skipS, if_neg g1, if_neg g2, Nat.add_zero, token_cons hd, if_neg (by rw [g0]; simp), if_pos hc]
    rw [allGo_tok hn (by simp), ih s f _ hd1 (by simp at hf; omega)]
    simp
  | text p q r o ts h1 h2 h ih =>
    intro s f out hd hf
    obtain ⟨f, rfl⟩ : ∃ f', f = f' + 1 := ⟨f - 1, by omega⟩
    have hd1 : s.drop (p + (q.length + 2)) = r := by
      have := drop_more (s := s) (p := p) (l := 34 :: (q ++ [34])) (r := r) (by rw [hd]; simp)
      rw [← this]; congr 1; simp
    have hn : next s p = (⟨3, o, none, p⟩, 0, p + (q.length + 2)) := by
      unfold next
      rw [hd, skipS, if_neg (by decide), if_neg (by decide), Nat.add_zero, token_cons hd, if_neg (by decide), if_neg (by decide), if_pos rfl]
      unfold LX.quoted
      rw [h1]
      simp only [List.take_left, h2]
      rfl
    rw [allGo_tok hn (by simp), ih s f _ hd1 (by simp at hf; omega)]
    simp
  | expr p e r x ts h1 h2 h ih =>
    intro s f out hd hf
    obtain ⟨f, rfl⟩ : ∃ f', f = f' + 1 := ⟨f - 1, by omega⟩
    have hd1 : s.drop (p + (e.length + 2)) = r := by
      have := drop_more (s := s) (p := p) (l := 47 :: (e ++ [47])) (r := r) (by rw [hd]; simp)
      rw [← this]; congr 1; simp
    have hn : next s p = (⟨4, [], some x, p⟩, 0, p + (e.length + 2)) := by
      unfold next
      rw [hd, skipS, if_neg (by decide), if_neg (by decide), Nat.add_zero, token_cons hd, if_neg (by decide), if_neg (by decide), if_neg (by decide), if_pos rfl]
      unfold LX.expr
      rw [h1]
      simp only [List.take_left, h2, if_true]
      rfl
    rw [allGo_tok hn (by simp), ih s f _ hd1 (by simp at hf; omega)]
    simp
end LX
/-- what the lexer makes of such a text -/
theorem lexW_of {s : List UInt8} {ts : List LT} (h : LX.Lexes 0 s ts) (hs : s.length ≤ 65536) : lexW s = (ts, 0, 0) := by
  unfold lexW
  rw [if_neg (by omega), h.run s (s.length + 1) [] (by simp) (by omega)]
  simp
end Go.Proofs.YticpjjmacmmpjaaGreatDoor
