/-
  The lexer, plain.
-/
import Derived.Test.YticpjjmacmmpjaaGreatDoorRtE
set_option linter.unusedSimpArgs false
set_option linter.unusedVariables false
set_option maxRecDepth 100000
set_option linter.unnecessarySimpa false
namespace Go.Proofs.YticpjjmacmmpjaaGreatDoor
/-- a token: what it is, its text, its expression, where it stands -/
structure LT where
  kind : Nat
  text : List UInt8
  re : Option RE
  at_ : Nat
namespace LX
def letter (c : UInt8) (first : Bool) : Bool := (97 ≤ c && c ≤ 122) || c == 95 || (!first && (48 ≤ c && c ≤ 57))
/-- ( ) , . ; | * = -/
def signs : List UInt8 := [40, 41, 44, 46, 59, 124, 42, 61]
/-- what stands for itself in quotes -/
def plainQ : List UInt8 := [40, 41, 91, 93, 124, 38, 45, 42, 43, 63, 46, 32]
/-- how far a byte stands that isn't written otherwise -/
def untilN (b : UInt8) : List UInt8 → Option Nat
  | [] => none
  | [c] => if c = b then some 0 else none
  | c :: d :: r => if c = b then some 0 else if c = 92 then (untilN b r).map (· + 2) else (untilN b (d :: r)).map (· + 1)
/-- gaps and remarks: how many bytes; within a remark? -/
def skipS : Bool → List UInt8 → Nat
  | _, [] => 0
  | false, c :: r => if c = 32 ∨ c = 9 ∨ c = 10 ∨ c = 13 then skipS false r + 1 else if c = 35 then skipS true r + 1 else 0
  | true, c :: r => if c = 10 then skipS false r + 1 else skipS true r + 1
/-- the bytes of a name -/
def nameN : List UInt8 → Nat
  | [] => 0
  | c :: r => if letter c false then nameN r + 1 else 0
/-- an expression's one byte -/
def single1 (o : Option RE) : Option Nat :=
  match o with
  | none => none
  | some x => if x.op = 2 ∧ x.set.len = 1 then some x.set.least else none
def single (r : Option RE × Nat × Nat) : Option Nat := single1 r.1
def qStep (c : UInt8) (r : List UInt8) : Nat := if c = 92 then (if r.head? = some 120 then 4 else 2) else 1
/-- what is between quotes: its bytes, and where it can't go on -/
def qGo : Nat → List UInt8 → Nat → List UInt8 → List UInt8 × Option Nat
  | 0, _, _, out => (out, none)
  | _ + 1, [], _, out => (out, none)
  | f + 1, c :: r, i, out =>
    if c ≠ 92 ∧ plainQ.contains c = true then qGo f r (i + 1) (out ++ [c])
    else match single (readW ((c :: r).take (qStep c r))) with
      | none => (out, some i)
      | some b => qGo f ((c :: r).drop (qStep c r)) (i + qStep c r) (out ++ [b.toUInt8])
/-- a text in quotes, behind the first one -/
def quoted (s : List UInt8) (a : Nat) (r : List UInt8) : LT × Nat × Nat :=
  match untilN 34 r with
  | none => (⟨3, [], none, a⟩, 2, s.length)
  | some k => match qGo (k + 1) (r.take k) (a + 1) [] with
    | (out, none) => (⟨3, out, none, a⟩, 0, a + k + 2)
    | (_, some i) => (⟨3, [], none, a⟩, 2, i)
/-- an expression between two slashes, behind the first one -/
def expr (s : List UInt8) (a : Nat) (r : List UInt8) : LT × Nat × Nat :=
  match untilN 47 r with
  | none => (⟨4, [], none, a⟩, 2, s.length)
  | some k => if (readW (r.take k)).2.1 = 0 then (⟨4, [], (readW (r.take k)).1, a⟩, 0, a + k + 2) else (⟨4, [], none, a⟩, (readW (r.take k)).2.1, a + 1 + (readW (r.take k)).2.2)
/-- the next token, from a place where none of a gap is left; the error, and where the lexer is behind it -/
def token (s : List UInt8) (a : Nat) : LT × Nat × Nat :=
  match s.drop a with
  | [] => (⟨0, [], none, a⟩, 0, a)
  | b :: r =>
    if letter b true then
      if 30 < nameN (b :: r) then (⟨1, (b :: r).take (nameN (b :: r)), none, a⟩, 3, a) else (⟨1, (b :: r).take (nameN (b :: r)), none, a⟩, 0, a + nameN (b :: r))
    else if signs.contains b then (⟨2, [b], none, a⟩, 0, a + 1)
    else if b = 34 then quoted s a r
    else if b = 47 then expr s a r
    else (⟨0, [], none, a⟩, 2, a)
def next (s : List UInt8) (at_ : Nat) : LT × Nat × Nat := token s (at_ + skipS false (s.drop at_))
def allGo (s : List UInt8) : Nat → Nat → List LT → List LT × Nat × Nat
  | 0, at_, _ => ([], 2, at_)
  | f + 1, at_, out =>
    if (next s at_).2.1 ≠ 0 then ([], (next s at_).2.1, (next s at_).2.2)
    else if (next s at_).1.kind = 0 then (out ++ [(next s at_).1], 0, 0)
    else allGo s f (next s at_).2.2 (out ++ [(next s at_).1])
end LX
/-- the tokens of a text; the error, and where it is -/
def lexW (s : List UInt8) : List LT × Nat × Nat := if 65536 < s.length then ([], 3, 0) else LX.allGo s (s.length + 1) 0 []
namespace LX
theorem untilN_lt {b : UInt8} : ∀ (n : Nat) (l : List UInt8) (k : Nat), l.length ≤ n → untilN b l = some k → k < l.length ∧ l.getD k 0 = b := by
  intro n
  induction n with
  | zero =>
    intro l k hn h
    have : l = [] := List.length_eq_zero_iff.1 (by omega)
    subst this
    simp [untilN] at h
  | succ n ih =>
    intro l k hn h
    match l, hn, h with
    | [], _, h => simp [untilN] at h
    | [c], _, h =>
      rw [untilN] at h
      split at h
      · rename_i hc
        cases h
        exact ⟨by simp, hc⟩
      · cases h
    | c :: d :: r, hn, h =>
      rw [untilN] at h
      split at h
      · rename_i hc
        cases h
        exact ⟨by simp, hc⟩
      · split at h
        · obtain ⟨j, hj, rfl⟩ := Option.map_eq_some_iff.1 h
          obtain ⟨h1, h2⟩ := ih r j (by simp at hn; omega) hj
          exact ⟨by simp; omega, by simpa using h2⟩
        · obtain ⟨j, hj, rfl⟩ := Option.map_eq_some_iff.1 h
          obtain ⟨h1, h2⟩ := ih (d :: r) j (by simp at hn ⊢; omega) hj
          exact ⟨by simp at h1 ⊢; omega, by simpa using h2⟩
theorem skipS_le (l : List UInt8) : ∀ c, skipS c l ≤ l.length := by
  induction l with
  | nil => intro c; cases c <;> simp [skipS]
  | cons a r ih =>
    intro c
    have h1 := ih true
    have h2 := ih false
    cases c <;> rw [skipS] <;> (repeat' split) <;> simp <;> omega
theorem nameN_le (l : List UInt8) : nameN l ≤ l.length := by
  induction l with
  | nil => simp [nameN]
  | cons a r ih => rw [nameN]; split <;> simp <;> omega
end LX
end Go.Proofs.YticpjjmacmmpjaaGreatDoor
