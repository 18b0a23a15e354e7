/-
  Expressions as they are written, walked through the program.
-/
import Derived.Test.YticpjjmacmmpjaaGreatDoorTxK
import Derived.Test.YticpjjmacmmpjaaGreatDoorReN
import Derived.Test.YticpjjmacmmpjaaGreatDoorReMade
set_option linter.unusedSimpArgs false
set_option linter.unusedVariables false
set_option maxRecDepth 100000
set_option linter.unnecessarySimpa false
namespace Go.Proofs.YticpjjmacmmpjaaGreatDoor
open Go.RowKit
theorem BS.least_lt (s : BS) : s.least < 256 := by
  unfold BS.least
  split
  · rename_i h; have := ctz_lt _ h; omega
  · split
    · rename_i h; have := ctz_lt _ h; omega
    · split
      · rename_i h; have := ctz_lt _ h; omega
      · split
        · rename_i h; have := ctz_lt _ h; omega
        · omega
namespace RE
/-- how closely an expression's parts hold together -/
def lvl (o : Nat) : Nat := if o = 4 then 0 else if o = 7 then 1 else if o = 6 then 2 else if o = 3 then 3 else if o = 5 then 4 else 5
mutual
/-- an expression as it is written -/
def ofW : RE → List UInt8
  | node o s ks => if o = 1 then [40, 41] else if o = 2 then classW s else if o = 3 then Lib.join (insW 4 ks) [] else if o = 4 then Lib.join (insW 1 ks) [124] else if o = 6 then Lib.join (insW 3 ks) [38] else if o = 7 then butW ks else if o = 5 then starW ks else [91, 93]
def insW (at_ : Nat) : List RE → List (List UInt8)
  | [] => []
  | k :: ks => (if lvl k.op < at_ then [40] ++ ofW k ++ [41] else ofW k) :: insW at_ ks
def butW : List RE → List UInt8
  | [] => []
  | [_] => []
  | a :: b :: _ => (if lvl a.op < 1 then [40] ++ ofW a ++ [41] else ofW a) ++ [45] ++ (if lvl b.op < 2 then [40] ++ ofW b ++ [41] else ofW b)
def starW : List RE → List UInt8
  | [] => []
  | a :: _ => (if lvl a.op < 5 then [40] ++ ofW a ++ [41] else ofW a) ++ [42]
end
/-- .. within one of a level -/
def inW (at_ : Nat) (r : RE) : List UInt8 := if lvl r.op < at_ then [40] ++ ofW r ++ [41] else ofW r
theorem insW_map (at_ : Nat) (l : List RE) : insW at_ l = l.map (inW at_) := by
  induction l with
  | nil => rfl
  | cons a l ih => simp [insW, ih, inW]
/-- a text may be nil, too -/
def ofO : Option RE → List UInt8
  | none => [91, 93]
  | some r => ofW r
theorem join_len_le (l : List (List UInt8)) (sep : List UInt8) : (Lib.join l sep).length ≤ (l.map fun x => x.length + sep.length).sum := by
  cases l with
  | nil => simp [Lib.join]
  | cons x r =>
    rw [Lib.join_cons]
    have : (Lib.joinTail sep r).length = (r.map fun x => x.length + sep.length).sum := by
      unfold Lib.joinTail
      induction r with
      | nil => simp
      | cons y r ih => simp at ih ⊢; omega
    simp [this]
end RE
theorem BS.runs_len (s : BS) : s.runs.length ≤ 256 := s.runsFrom_len 0
theorem classW_len (s : BS) : (classW s).length ≤ 2400 := by
  have key : ∀ t : BS, (runsW t.runs).length ≤ 2304 := fun t => by
    have h1 := runsW_len t.runs
    have h2 := t.runs_len
    omega
  unfold classW
  split
  · have := byteW_len s.least; omega
  · split
    · simp
    · unfold setW
      have h1 := key s
      have h2 := key (notS s)
      split <;> simp <;> omega
namespace RE
mutual
theorem ofW_len : (r : RE) → (ofW r).length + 3 ≤ 2404 * size r
  | node o s ks => by
    have h4 := insW_len 4 ks
    have h1 := insW_len 1 ks
    have h3 := insW_len 3 ks
    have hb := butW_len ks
    have hs := starW_len ks
    have hc := classW_len s
    have j4 := join_len_le (insW 4 ks) []
    have j1 := join_len_le (insW 1 ks) [124]
    have j3 := join_len_le (insW 3 ks) [38]
    have e : ∀ (l : List (List UInt8)) (sep : List UInt8), sep.length ≤ 1 → (l.map fun x => x.length + sep.length).sum ≤ (l.map fun x => x.length + 1).sum := by
      intro l sep h
      induction l with
      | nil => simp
      | cons x l ih => simp; omega
    have e4 := e (insW 4 ks) [] (by simp)
    have e1 := e (insW 1 ks) [124] (by simp)
    have e3 := e (insW 3 ks) [38] (by simp)
    rw [ofW, size]
    repeat' split
    all_goals (try simp only [List.length_cons, List.length_nil])
    all_goals omega
theorem insW_len (at_ : Nat) : (l : List RE) → ((insW at_ l).map fun x => x.length + 1).sum ≤ 2404 * sizes l
  | [] => by simp [insW, sizes]
  | k :: l => by
    have h1 := ofW_len k
    have h2 := insW_len at_ l
    simp only [insW, List.map_cons, List.sum_cons, sizes]
    split <;> (try simp only [List.length_append, List.length_cons, List.length_nil]) <;> omega
theorem butW_len : (l : List RE) → (butW l).length ≤ 2404 * sizes l
  | [] => by simp [butW]
  | [_] => by simp [butW]
  | a :: b :: _ => by
    have h1 := ofW_len a
    have h2 := ofW_len b
    simp only [butW, List.length_append, List.length_cons, List.length_nil, sizes]
    split <;> split <;> (try simp only [List.length_append, List.length_cons, List.length_nil]) <;> omega
theorem starW_len : (l : List RE) → (starW l).length ≤ 2404 * sizes l
  | [] => by simp [starW]
  | a :: _ => by
    have h1 := ofW_len a
    simp only [starW, List.length_append, List.length_cons, List.length_nil, sizes]
    split <;> (try simp only [List.length_append, List.length_cons, List.length_nil]) <;> omega
end
end RE
end Go.Proofs.YticpjjmacmmpjaaGreatDoor
