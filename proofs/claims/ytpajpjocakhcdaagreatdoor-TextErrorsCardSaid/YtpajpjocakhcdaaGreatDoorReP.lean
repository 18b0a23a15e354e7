/-
  Expressions as trees: what is known of each (whether the text of no bytes is one of its texts, the text by which it is told apart, its size), and what the calls that make them make. Plain Lean: no program stands in it.
-/
import Derived.Test.YtpajpjocakhcdaaGreatDoorSetP
import Derived.Lib.Join
set_option linter.unusedSimpArgs false
set_option linter.unusedVariables false
set_option maxRecDepth 100000
set_option linter.unnecessarySimpa false
namespace Go.Proofs.YtpajpjocakhcdaaGreatDoor

/-- a digit to the base 36 -/
def dg36 (k : Nat) : UInt8 := if k < 10 then (48 + k).toUInt8 else (87 + k).toUInt8
/-- a number to the base 36 -/
def fmt36 (u : Nat) : List UInt8 := if h : u < 36 then [dg36 u] else fmt36 (u / 36) ++ [dg36 (u % 36)]
termination_by u
theorem fmt36_lt {u : Nat} (h : u < 36) : fmt36 u = [dg36 u] := by rw [fmt36, dif_pos h]
theorem fmt36_ge {u : Nat} (h : ¬ u < 36) : fmt36 u = fmt36 (u / 36) ++ [dg36 (u % 36)] := by rw [fmt36, dif_neg h]
theorem fmt36_len : ∀ (k u : Nat), u < 36 ^ (k + 1) → (fmt36 u).length ≤ k + 1
  | 0, u, h => by rw [fmt36_lt (by simpa using h)]; simp
  | k + 1, u, h => by
    by_cases hu : u < 36
    · rw [fmt36_lt hu]; simp
    · rw [fmt36_ge hu, List.length_append]
      have := fmt36_len k (u / 36) (by rw [Nat.pow_succ] at h; omega)
      simp; omega

inductive RE where
  | node (op : Nat) (set : BS) (kids : List RE)
namespace RE
def op : RE → Nat | node o _ _ => o
def set : RE → BS | node _ s _ => s
def kids : RE → List RE | node _ _ k => k
mutual
def size : RE → Nat | node _ _ ks => 1 + sizes ks
def sizes : List RE → Nat | [] => 0 | k :: ks => size k + sizes ks
end
mutual
/-- is the text of no bytes one of an expression's? -/
def null : RE → Bool | node o _ ks => if o = 1 ∨ o = 5 then true else if o = 3 ∨ o = 6 then nullAll ks else if o = 4 then nullAny ks else if o = 7 then nullBut ks else false
def nullAll : List RE → Bool | [] => true | k :: ks => null k && nullAll ks
def nullAny : List RE → Bool | [] => false | k :: ks => null k || nullAny ks
def nullBut : List RE → Bool | [] => false | k :: ks => null k && !nullAny ks
end
def words36 (s : BS) : List (List UInt8) := [fmt36 s.a.toNat, fmt36 s.b.toNat, fmt36 s.c.toNat, fmt36 s.d.toNat]
/-- the parts of the text by which an expression is told apart -/
def parts (o : Nat) (s : BS) (keys : List (List UInt8)) : List (List UInt8) := [(48 + o).toUInt8] :: ((if o = 2 then words36 s else []) ++ keys)
mutual
def key : RE → List UInt8 | node o s ks => [40] ++ Lib.join (parts o s (keys ks)) [32] ++ [41]
def keys : List RE → List (List UInt8) | [] => [] | k :: ks => key k :: keys ks
end
theorem keys_map (l : List RE) : keys l = l.map key := by induction l with | nil => rfl | cons a l ih => simp [keys, ih]
theorem sizes_append (l l' : List RE) : sizes (l ++ l') = sizes l + sizes l' := by
  induction l with
  | nil => simp [sizes]
  | cons a l ih => simp [sizes, ih]; omega
theorem nullAll_eq (l : List RE) : nullAll l = l.all null := by induction l with | nil => rfl | cons a l ih => simp [nullAll, ih]
theorem nullAny_eq (l : List RE) : nullAny l = l.any null := by induction l with | nil => rfl | cons a l ih => simp [nullAny, ih]
def nothing : RE := node 0 BS.none []
def empty : RE := node 1 BS.none []
/-- of one byte of a set -/
def one (s : BS) : RE := if s = BS.none then nothing else node 2 s []
/-- the kids of those of an op in their places -/
def flat1 (o : Nat) : Option RE → List RE
  | none => [nothing]
  | some r => if r.op = o then r.kids else [r]
def flat (o : Nat) (l : List (Option RE)) : List RE := l.flatMap (flat1 o)
def seqL (all : List RE) : RE := match all with
  | [] => empty
  | [x] => x
  | _ => node 3 BS.none all
/-- one behind the other -/
def thenL (l : List (Option RE)) : RE :=
  if ((flat 3 l).filter fun r => r.op != 1).any (fun r => r.op == 0) then nothing else seqL ((flat 3 l).filter fun r => r.op != 1)
def many : Option RE → RE
  | none => empty
  | some r => if r.op = 0 ∨ r.op = 1 then empty else if r.op = 5 then r else node 5 BS.none [r]
def ofBytes (bs : List Nat) : BS := bs.foldl BS.add BS.none
def word (bs : List Nat) : RE := thenL (bs.map fun b => some (one (BS.none.add b)))
end RE
end Go.Proofs.YtpajpjocakhcdaaGreatDoor
