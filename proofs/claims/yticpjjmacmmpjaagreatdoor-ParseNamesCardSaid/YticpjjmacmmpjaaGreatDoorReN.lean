/-
  Expressions in their normal form: what the calls that make expressions make is in it, and what is in it is made again of its parts. Plain Lean: no program stands in it.
-/
import Derived.Test.YticpjjmacmmpjaaGreatDoorSetP
import Derived.Lib.Join
import Derived.Sort.LotA
set_option linter.unusedSimpArgs false
set_option linter.unusedVariables false
set_option maxRecDepth 100000
set_option linter.unnecessarySimpa false
namespace Go.Proofs.YticpjjmacmmpjaaGreatDoor

/-- a digit to the base 36 -/
def dg36 (k : Nat) : UInt8 := if k < 10 then (48 + k).toUInt8 else (87 + k).toUInt8
/-- a number to the base 36 -/
def fmt36 (u : Nat) : List UInt8 := if h : u < 36 then [dg36 u] else fmt36 (u / 36) ++ [dg36 (u % 36)]
termination_by u
theorem fmt36_lt {u : Nat} (h : u < 36) : fmt36 u = [dg36 u] := by rw [fmt36, dif_pos h]
theorem fmt36_ge {u : Nat} (h : ¬ u < 36) : fmt36 u = fmt36 (u / 36) ++ [dg36 (u % 36)] := by rw [fmt36, dif_neg h]
theorem fmt36_len : ∀ (k u : Nat), u < 36 ^ (k + 1) → (fmt36 u).length ≤ k + 1
  | 0, u, h => by rw [fmt36_lt (by simpa using h)]; simp
  | k + 1, u, h => by
    by_cases hu : u < 36
    · rw [fmt36_lt hu]; simp
    · rw [fmt36_ge hu, List.length_append]
      have := fmt36_len k (u / 36) (by rw [Nat.pow_succ] at h; omega)
      simp; omega

inductive RE where
  | node (op : Nat) (set : BS) (kids : List RE)
namespace RE
def op : RE → Nat | node o _ _ => o
def set : RE → BS | node _ s _ => s
def kids : RE → List RE | node _ _ k => k
mutual
def size : RE → Nat | node _ _ ks => 1 + sizes ks
def sizes : List RE → Nat | [] => 0 | k :: ks => size k + sizes ks
end
mutual
/-- is the text of no bytes one of an expression's? -/
def null : RE → Bool | node o _ ks => if o = 1 ∨ o = 5 then true else if o = 3 ∨ o = 6 then nullAll ks else if o = 4 then nullAny ks else if o = 7 then nullBut ks else false
def nullAll : List RE → Bool | [] => true | k :: ks => null k && nullAll ks
def nullAny : List RE → Bool | [] => false | k :: ks => null k || nullAny ks
def nullBut : List RE → Bool | [] => false | k :: ks => null k && !nullAny ks
end
def words36 (s : BS) : List (List UInt8) := [fmt36 s.a.toNat, fmt36 s.b.toNat, fmt36 s.c.toNat, fmt36 s.d.toNat]
/-- the parts of the text by which an expression is told apart -/
def parts (o : Nat) (s : BS) (keys : List (List UInt8)) : List (List UInt8) := [(48 + o).toUInt8] :: ((if o = 2 then words36 s else []) ++ keys)
mutual
def key : RE → List UInt8 | node o s ks => [40] ++ Lib.join (parts o s (keys ks)) [32] ++ [41]
def keys : List RE → List (List UInt8) | [] => [] | k :: ks => key k :: keys ks
end
theorem keys_map (l : List RE) : keys l = l.map key := by induction l with | nil => rfl | cons a l ih => simp [keys, ih]
theorem sizes_append (l l' : List RE) : sizes (l ++ l') = sizes l + sizes l' := by
  induction l with
  | nil => simp [sizes]
  | cons a l ih => simp [sizes, ih]; omega
theorem nullAll_eq (l : List RE) : nullAll l = l.all null := by induction l with | nil => rfl | cons a l ih => simp [nullAll, ih]
theorem nullAny_eq (l : List RE) : nullAny l = l.any null := by induction l with | nil => rfl | cons a l ih => simp [nullAny, ih]
def nothing : RE := node 0 BS.none []
def empty : RE := node 1 BS.none []
/-- of one byte of a set -/
def one (s : BS) : RE := if s = BS.none then nothing else node 2 s []
/-- the kids of those of an op in their places -/
def flat1 (o : Nat) : Option RE → List RE
  | none => [nothing]
  | some r => if r.op = o then r.kids else [r]
def flat (o : Nat) (l : List (Option RE)) : List RE := l.flatMap (flat1 o)
def seqL (all : List RE) : RE := match all with
  | [] => empty
  | [x] => x
  | _ => node 3 BS.none all
/-- one behind the other -/
def thenL (l : List (Option RE)) : RE :=
  if ((flat 3 l).filter fun r => r.op != 1).any (fun r => r.op == 0) then nothing else seqL ((flat 3 l).filter fun r => r.op != 1)
def many : Option RE → RE
  | none => empty
  | some r => if r.op = 0 ∨ r.op = 1 then empty else if r.op = 5 then r else node 5 BS.none [r]
def ofBytes (bs : List Nat) : BS := bs.foldl BS.add BS.none
def word (bs : List Nat) : RE := thenL (bs.map fun b => some (one (BS.none.add b)))
end RE
end Go.Proofs.YticpjjmacmmpjaaGreatDoor
namespace Go.Proofs.YticpjjmacmmpjaaGreatDoor
def undg (c : UInt8) : Nat := if c.toNat < 58 then c.toNat - 48 else c.toNat - 87
theorem undg_dg : ∀ k, k < 36 → undg (dg36 k) = k := by decide
theorem dg36_ne : ∀ k, k < 36 → dg36 k ≠ 32 ∧ dg36 k ≠ 41 := by decide
def val36 (l : List UInt8) : Nat := l.foldl (fun n c => 36 * n + undg c) 0
theorem val36_fmt (u : Nat) : val36 (fmt36 u) = u := by
  induction u using Nat.strongRecOn with
  | ind u ih =>
    by_cases h : u < 36
    · rw [fmt36_lt h]; simp [val36, undg_dg u h]
    · rw [fmt36_ge h, val36, List.foldl_append]
      have := ih (u / 36) (by omega)
      rw [val36] at this
      rw [this, List.foldl_cons, List.foldl_nil, undg_dg _ (by omega)]; omega
theorem fmt36_inj {u v : Nat} (h : fmt36 u = fmt36 v) : u = v := by rw [← val36_fmt u, ← val36_fmt v, h]
theorem fmt36_ne (u : Nat) : ∀ c ∈ fmt36 u, c ≠ 32 ∧ c ≠ 41 := by
  induction u using Nat.strongRecOn with
  | ind u ih =>
    intro c hc
    by_cases h : u < 36
    · rw [fmt36_lt h] at hc; simp at hc; subst hc; exact dg36_ne u h
    · rw [fmt36_ge h] at hc
      simp at hc
      rcases hc with hc | hc
      · exact ih _ (by omega) c hc
      · subst hc; exact dg36_ne _ (by omega)
/-- what comes ahead of the first of two bytes is one -/
theorem ahead_inj {d e : List UInt8} {c c' : UInt8} {x y : List UInt8} (hd : ∀ b ∈ d, b ≠ 32 ∧ b ≠ 41) (he : ∀ b ∈ e, b ≠ 32 ∧ b ≠ 41) (hc : c = 32 ∨ c = 41) (hc' : c' = 32 ∨ c' = 41) (h : d ++ c :: x = e ++ c' :: y) : d = e ∧ c = c' ∧ x = y := by
  induction d generalizing e with
  | nil =>
    cases e with
    | nil => simp at h; exact ⟨rfl, h⟩
    | cons b e =>
      simp at h
      have := he b (by simp)
      rcases hc with rfl | rfl
      · exact absurd h.1.symm this.1
      · exact absurd h.1.symm this.2
  | cons a d ih =>
    cases e with
    | nil =>
      simp at h
      have := hd a (by simp)
      rcases hc' with rfl | rfl
      · exact absurd h.1 this.1
      · exact absurd h.1 this.2
    | cons b e =>
      simp at h
      obtain ⟨h1, h2, h3⟩ := ih (fun b hb => hd b (by simp [hb])) (fun b hb => he b (by simp [hb])) h.2
      exact ⟨by rw [h.1, h1], h2, h3⟩
namespace RE
mutual
def wf : RE → Prop | node o s ks => o < 8 ∧ (o ≠ 2 → s = BS.none) ∧ wfs ks
def wfs : List RE → Prop | [] => True | k :: ks => wf k ∧ wfs ks
end
theorem wfs_iff (l : List RE) : wfs l ↔ ∀ r ∈ l, wf r := by
  induction l with
  | nil => simp [wfs]
  | cons a l ih => simp [wfs, ih]
/-- the parts, each behind a blank, and what ends them -/
def tailK (l : List (List UInt8)) (z : List UInt8) : List UInt8 := match l with | [] => 41 :: z | k :: l => 32 :: (k ++ tailK l z)
theorem join_tail (p : List UInt8) (l : List (List UInt8)) (z : List UInt8) : Lib.join (p :: l) [32] ++ 41 :: z = p ++ tailK l z := by
  induction l generalizing p with
  | nil => simp [Lib.join, tailK]
  | cons a l ih =>
    rw [tailK, ← ih a]
    simp [Lib.join]
theorem key_eq (o : Nat) (s : BS) (ks : List RE) (z : List UInt8) : key (node o s ks) ++ z = 40 :: (48 + o).toUInt8 :: tailK ((if o = 2 then words36 s else []) ++ keys ks) z := by
  have := join_tail [(48 + o).toUInt8] ((if o = 2 then words36 s else []) ++ keys ks) z
  simp only [key, parts]
  simp only [List.append_assoc, List.cons_append, List.nil_append] at this ⊢
  rw [this]
theorem tailK_head (l : List (List UInt8)) (z : List UInt8) : ∃ c y, tailK l z = c :: y ∧ (c = 32 ∨ c = 41) := by
  cases l with
  | nil => exact ⟨41, z, rfl, .inr rfl⟩
  | cons k l => exact ⟨32, _, rfl, .inl rfl⟩
theorem word_inj {u v : Nat} {l l' : List (List UInt8)} {x y : List UInt8} (h : tailK (fmt36 u :: l) x = tailK (fmt36 v :: l') y) : u = v ∧ tailK l x = tailK l' y := by
  obtain ⟨c, z, hz, hc⟩ := tailK_head l x
  obtain ⟨c', z', hz', hc'⟩ := tailK_head l' y
  simp only [tailK, hz, hz', List.cons.injEq, true_and] at h
  obtain ⟨h1, h2, h3⟩ := ahead_inj (fmt36_ne u) (fmt36_ne v) hc hc' h
  exact ⟨fmt36_inj h1, by rw [hz, hz', h2, h3]⟩
theorem op_inj : ∀ o, o < 8 → ∀ o', o' < 8 → (48 + o).toUInt8 = (48 + o').toUInt8 → o = o' := by decide
mutual
theorem key_inj' : (r r' : RE) → (x y : List UInt8) → wf r → wf r' → key r ++ x = key r' ++ y → r = r' ∧ x = y
  | node o s ks, node o' s' ks', x, y, h, h', e => by
    simp only [wf] at h h'
    rw [key_eq, key_eq] at e
    simp only [List.cons.injEq, true_and] at e
    obtain ⟨e1, e2⟩ := e
    obtain rfl := op_inj o h.1 o' h'.1 e1
    by_cases ho : o = 2
    · simp only [ho, if_true, words36, List.cons_append, List.nil_append] at e2
      obtain ⟨a1, e2⟩ := word_inj e2
      obtain ⟨a2, e2⟩ := word_inj e2
      obtain ⟨a3, e2⟩ := word_inj e2
      obtain ⟨a4, e2⟩ := word_inj e2
      obtain ⟨h1, h2⟩ := keys_inj' ks ks' x y h.2.2 h'.2.2 e2
      obtain ⟨sa, sb, sc, sd⟩ := s
      obtain ⟨ta, tb, tc, td⟩ := s'
      have b1 : sa = ta := BitVec.eq_of_toNat_eq a1
      have b2 : sb = tb := BitVec.eq_of_toNat_eq a2
      have b3 : sc = tc := BitVec.eq_of_toNat_eq a3
      have b4 : sd = td := BitVec.eq_of_toNat_eq a4
      rw [b1, b2, b3, b4, h1]; exact ⟨rfl, h2⟩
    · simp only [if_neg ho, List.nil_append] at e2
      obtain ⟨h1, h2⟩ := keys_inj' ks ks' x y h.2.2 h'.2.2 e2
      rw [h1, h.2.1 ho, h'.2.1 ho]; exact ⟨rfl, h2⟩
theorem keys_inj' : (l l' : List RE) → (x y : List UInt8) → wfs l → wfs l' → tailK (keys l) x = tailK (keys l') y → l = l' ∧ x = y
  | [], [], x, y, _, _, e => by simp [keys, tailK] at e; exact ⟨rfl, e⟩
  | [], _ :: _, x, y, _, _, e => by simp [keys, tailK] at e
  | _ :: _, [], x, y, _, _, e => by simp [keys, tailK] at e
  | k :: l, k' :: l', x, y, h, h', e => by
    simp only [keys, tailK, List.cons.injEq, true_and] at e
    simp only [wfs] at h h'
    obtain ⟨h1, h2⟩ := key_inj' k k' _ _ h.1 h'.1 e
    obtain ⟨h3, h4⟩ := keys_inj' l l' x y h.2 h'.2 h2
    exact ⟨by rw [h1, h3], h4⟩
end
theorem key_inj {r r' : RE} (h : wf r) (h' : wf r') (e : key r = key r') : r = r' := (key_inj' r r' [] [] h h' (by simpa using e)).1
theorem tailK_len (l : List (List UInt8)) (z : List UInt8) : (tailK l z).length = 1 + (l.map fun k => k.length + 1).sum + z.length := by
  induction l with
  | nil => simp [tailK]; omega
  | cons k l ih => simp [tailK, ih]; omega
theorem words36_len (s : BS) : ((words36 s).map fun k => k.length + 1).sum ≤ 56 := by
  have h := fun x : BitVec 64 => fmt36_len 12 x.toNat (by have := x.isLt; omega)
  have h1 := h s.a; have h2 := h s.b; have h3 := h s.c; have h4 := h s.d
  simp [words36]; omega
mutual
theorem key_len : (r : RE) → (key r).length + 1 ≤ 64 * size r
  | node o s ks => by
    have e := congrArg List.length (key_eq o s ks [])
    simp only [List.append_nil, List.length_cons, tailK_len, List.map_append, List.sum_append, List.length_nil] at e
    have h := keys_len ks
    have hw := words36_len s
    rw [size]
    by_cases ho : o = 2
    · simp only [ho, if_true] at e; subst ho; omega
    · simp only [if_neg ho, List.map_nil, List.sum_nil] at e; omega
theorem keys_len : (l : List RE) → ((keys l).map fun k => k.length + 1).sum ≤ 64 * sizes l
  | [] => by simp [keys, sizes]
  | k :: l => by
    have h1 := key_len k
    have h2 := keys_len l
    simp only [keys, List.map_cons, List.sum_cons, sizes]; omega
end
theorem join_len (o : Nat) (s : BS) (ks : List RE) : (Lib.join (parts o s (keys ks)) [32]).length + 3 ≤ 64 * (1 + sizes ks) := by
  have h := key_len (node o s ks)
  simp only [key, size, List.length_append, List.length_cons, List.length_nil] at h
  omega
theorem size_pos : (r : RE) → 1 ≤ size r
  | node _ _ _ => by simp [size]
theorem len_sizes (l : List RE) : l.length ≤ sizes l := by
  induction l with
  | nil => simp
  | cons a l ih => have := size_pos a; simp [sizes]; omega
theorem sizes_take (l : List RE) (k : Nat) : sizes (l.take k) ≤ sizes l := by
  conv => rhs; rw [← List.take_append_drop k l, sizes_append]
  omega
theorem take_snoc (l : List RE) (k : Nat) (h : k < l.length) : l.take (k + 1) = l.take k ++ [l.getD k nothing] := by
  rw [List.take_succ_eq_append_getElem h]; simp [List.getD, h]
theorem keys_append (l l' : List RE) : keys (l ++ l') = keys l ++ keys l' := by simp [keys_map]
theorem parts_snoc (o : Nat) (s : BS) (ks : List (List UInt8)) (k : List UInt8) : parts o s (ks ++ [k]) = parts o s ks ++ [k] := by simp [parts]
end RE
end Go.Proofs.YticpjjmacmmpjaaGreatDoor
namespace Go.Proofs.YticpjjmacmmpjaaGreatDoor
namespace RE
def ins (r : RE) : List RE → List RE
  | [] => [r]
  | x :: xs => if r.key < x.key then r :: x :: xs else if x.key < r.key then x :: ins r xs else x :: xs
/-- in order, each once -/
def uniq (l : List RE) : List RE := l.foldr ins []
def Strict (l : List RE) : Prop := l.Pairwise fun a b => a.key < b.key
theorem key_tri {a b : RE} (ha : wf a) (hb : wf b) (h1 : ¬ a.key < b.key) (h2 : ¬ b.key < a.key) : a = b := key_inj ha hb (List.le_antisymm (List.not_lt.1 h2) (List.not_lt.1 h1))
theorem mem_ins {r r' : RE} {l : List RE} (hr : wf r) (hl : ∀ x ∈ l, wf x) : r' ∈ ins r l ↔ r' = r ∨ r' ∈ l := by
  induction l with
  | nil => simp [ins]
  | cons x xs ih =>
    simp only [ins]
    split
    · simp
    · split
      · have := ih (fun y hy => hl y (by simp [hy]))
        simp only [List.mem_cons, this]
        constructor
        · rintro (h | h | h) <;> simp [h]
        · rintro (h | h | h) <;> simp [h]
      · rename_i h1 h2
        have := key_tri hr (hl x (by simp)) h1 h2
        subst this
        simp
theorem strict_ins {r : RE} {l : List RE} (hr : wf r) (hl : ∀ x ∈ l, wf x) (h : Strict l) : Strict (ins r l) := by
  induction l with
  | nil => simp [ins, Strict]
  | cons x xs ih =>
    have h' := List.pairwise_cons.1 h
    simp only [ins]
    split
    · rename_i h1
      refine List.pairwise_cons.2 ⟨fun y hy => ?_, h⟩
      rcases List.mem_cons.1 hy with rfl | hy
      · exact h1
      · exact List.lt_trans h1 (h'.1 y hy)
    · split
      · rename_i h2
        refine List.pairwise_cons.2 ⟨fun y hy => ?_, ih (fun y hy => hl y (by simp [hy])) h'.2⟩
        rcases (mem_ins hr (fun y hy => hl y (by simp [hy]))).1 hy with rfl | hy
        · exact h2
        · exact h'.1 y hy
      · exact h
theorem uniq_spec {l : List RE} (hl : ∀ x ∈ l, wf x) : Strict (uniq l) ∧ ∀ r, r ∈ uniq l ↔ r ∈ l := by
  induction l with
  | nil => simp [uniq, Strict]
  | cons x xs ih =>
    obtain ⟨h1, h2⟩ := ih (fun y hy => hl y (by simp [hy]))
    have hw : ∀ y ∈ uniq xs, wf y := fun y hy => hl y (by simp [(h2 y).1 hy])
    have hx := hl x (by simp)
    refine ⟨strict_ins hx hw h1, fun r => ?_⟩
    show r ∈ ins x (uniq xs) ↔ _
    rw [mem_ins hx hw, h2]; simp
theorem strict_unique : ∀ {l l' : List RE}, Strict l → Strict l' → (∀ r, r ∈ l ↔ r ∈ l') → l = l'
  | [], [], _, _, _ => rfl
  | [], x :: xs, _, _, h => absurd ((h x).2 (by simp)) (by simp)
  | x :: xs, [], _, _, h => absurd ((h x).1 (by simp)) (by simp)
  | x :: xs, y :: ys, h1, h2, h => by
    have a1 := List.pairwise_cons.1 h1
    have a2 := List.pairwise_cons.1 h2
    have hxy : x = y := by
      rcases List.mem_cons.1 ((h x).1 (by simp)) with e | hx
      · exact e
      · rcases List.mem_cons.1 ((h y).2 (by simp)) with e | hy
        · exact e.symm
        · exact absurd (List.lt_trans (a2.1 x hx) (a1.1 y hy)) (List.lt_irrefl _)
    subst hxy
    congr 1
    refine strict_unique a1.2 a2.2 fun r => ?_
    constructor
    · intro hr
      rcases List.mem_cons.1 ((h r).1 (by simp [hr])) with e | hr'
      · subst e; exact absurd (a1.1 r hr) (List.lt_irrefl _)
      · exact hr'
    · intro hr
      rcases List.mem_cons.1 ((h r).2 (by simp [hr])) with e | hr'
      · subst e; exact absurd (a2.1 r hr) (List.lt_irrefl _)
      · exact hr'
theorem uniq_of {m l : List RE} (hm : Strict m) (hl : ∀ x ∈ l, wf x) (h : ∀ r, r ∈ m ↔ r ∈ l) : m = uniq l :=
  strict_unique hm (uniq_spec hl).1 fun r => (h r).trans ((uniq_spec hl).2 r).symm
theorem uniq_self {l : List RE} (hl : ∀ x ∈ l, wf x) (h : Strict l) : uniq l = l := (uniq_of h hl fun _ => Iff.rfl).symm
theorem uniq_len (l : List RE) : (uniq l).length ≤ l.length := by
  have hi : ∀ (r : RE) (l : List RE), (ins r l).length ≤ l.length + 1 := by
    intro r l
    induction l with
    | nil => simp [ins]
    | cons x xs ih => simp only [ins]; split; · simp
                      · split <;> simp; omega
  induction l with
  | nil => simp [uniq]
  | cons x xs ih => have := hi x (uniq xs); simp only [uniq, List.foldr_cons, List.length_cons] at *; omega
theorem uniq_sizes (l : List RE) : sizes (uniq l) ≤ sizes l := by
  have hi : ∀ (r : RE) (l : List RE), sizes (ins r l) ≤ size r + sizes l := by
    intro r l
    induction l with
    | nil => simp [ins, sizes]
    | cons x xs ih => simp only [ins]; split; · simp [sizes]
                      · split <;> simp only [sizes] <;> omega
  induction l with
  | nil => simp [uniq, sizes]
  | cons x xs ih => have := hi x (uniq xs); simp only [uniq, List.foldr_cons, sizes] at *; omega
/-- of a row in order, those that aren't as the one ahead: in order, each once -/
theorem uniq_kept (n : Nat) (r : Nat → RE) (kp : Nat → Bool) (hw : ∀ j, j < n → wf (r j)) (hs : ∀ i j, i < j → j < n → ¬ (r j).key < (r i).key) (h0 : kp 0 = true) (hk : ∀ j, 0 < j → j < n → kp j = !decide ((r j).key = (r (j - 1)).key)) :
    ((List.range n).filter kp).map r = uniq ((List.range n).map r) := by
  have hle : ∀ i j, i ≤ j → j < n → ¬ (r j).key < (r i).key := fun i j hij hj => by
    rcases Nat.lt_or_ge i j with h | h
    · exact hs i j h hj
    · obtain rfl : i = j := by omega
      exact List.lt_irrefl _
  refine uniq_of ?_ (by simpa using hw) ?_
  · have hp : ((List.range n).filter kp).Pairwise fun i j => i < j := List.Pairwise.filter _ List.pairwise_lt_range
    refine List.pairwise_map.2 (hp.imp_of_mem fun {i j} hi hj hij => ?_)
    have hj' := List.mem_filter.1 hj
    have hjn : j < n := by simpa using hj'.1
    have hkj := hj'.2
    rw [hk j (by omega) hjn] at hkj
    have hne : (r j).key ≠ (r (j - 1)).key := by simpa using hkj
    have h1 := hle i (j - 1) (by omega) (by omega)
    have h2 := hs (j - 1) j (by omega) hjn
    by_cases h : (r (j - 1)).key < (r j).key
    · exact List.lt_of_le_of_lt (List.not_lt.1 h1) h
    · exact absurd (List.le_antisymm (List.not_lt.1 h) (List.not_lt.1 h2)) hne
  · intro x
    constructor
    · intro hx
      obtain ⟨j, hj, rfl⟩ := List.mem_map.1 hx
      exact List.mem_map.2 ⟨j, (List.mem_filter.1 hj).1, rfl⟩
    · intro hx
      obtain ⟨j, hj, rfl⟩ := List.mem_map.1 hx
      have hjn : j < n := by simpa using hj
      have key : ∀ j, j < n → r j ∈ ((List.range n).filter kp).map r := by
        intro j
        induction j with
        | zero => intro h; exact List.mem_map.2 ⟨0, List.mem_filter.2 ⟨by simpa using h, h0⟩, rfl⟩
        | succ j ih =>
          intro h
          cases hkj : kp (j + 1) with
          | true => exact List.mem_map.2 ⟨j + 1, List.mem_filter.2 ⟨by simpa using h, hkj⟩, rfl⟩
          | false =>
            rw [hk (j + 1) (by omega) h] at hkj
            have he : (r (j + 1)).key = (r j).key := by simpa using hkj
            rw [key_inj (hw _ h) (hw j (by omega)) he]
            exact ih (by omega)
      exact key j hjn
/-- what is joined: the sets of those of one byte made one -/
def joinGo (f : BS → BS → BS) : List RE → List RE → Option RE → List RE
  | [], out, none => uniq out
  | [], out, some x => uniq (out ++ [x])
  | r :: rs, out, x => if r.op ≠ 2 then joinGo f rs (out ++ [r]) x else match x with
    | none => joinGo f rs out (some r)
    | some y => if (one (f y.set r.set)).op = 0 then out ++ [one (f y.set r.set)] else joinGo f rs out (some (one (f y.set r.set)))
def joinL (o : Nat) (f : BS → BS → BS) (l : List (Option RE)) : List RE := joinGo f (flat o l) [] none
def orS (s t : BS) : BS := ⟨s.a ||| t.a, s.b ||| t.b, s.c ||| t.c, s.d ||| t.d⟩
def andS (s t : BS) : BS := ⟨s.a &&& t.a, s.b &&& t.b, s.c &&& t.c, s.d &&& t.d⟩
def minusS (s t : BS) : BS := ⟨s.a &&& ~~~t.a, s.b &&& ~~~t.b, s.c &&& ~~~t.c, s.d &&& ~~~t.d⟩
/-- of one of them -/
def anyOf (all : List RE) : RE := match all with
  | [] => nothing
  | [x] => x
  | _ => node 4 BS.none all
def anyL (l : List (Option RE)) : RE := anyOf ((joinL 4 orS l).filter fun r => r.op != 0)
/-- of all of them -/
def bothOf (all : List RE) : RE := match all with
  | [] => many (some (one BS.all))
  | [x] => x
  | _ => node 6 BS.none all
def bothL (l : List (Option RE)) : RE := if (joinL 6 andS l).any (fun r => r.op == 0) then nothing else bothOf (joinL 6 andS l)
def keyO : Option RE → List UInt8
  | none => []
  | some r => r.key
/-- of one, but not of another one -/
def but (a b : Option RE) : RE := match a with
  | none => nothing
  | some x => if x.op = 0 then nothing else if keyO (some x) = keyO b then nothing else match b with
    | none => x
    | some y => if y.op = 0 then x else if x.op = 2 ∧ y.op = 2 then one (minusS x.set y.set) else node 7 BS.none [x, y]
def sizeO : Option RE → Nat
  | none => 0
  | some r => r.size
end RE
end Go.Proofs.YticpjjmacmmpjaaGreatDoor
namespace Go.Proofs.YticpjjmacmmpjaaGreatDoor
namespace RE
/-- what a node asks of its parts -/
def nfTop (o : Nat) (s : BS) (ks : List RE) : Prop :=
  o < 8 ∧ (o ≠ 2 → s = BS.none) ∧ (o = 2 → s ≠ BS.none) ∧ (o ≤ 2 → ks = []) ∧
  (o = 3 → 2 ≤ ks.length ∧ ∀ k ∈ ks, k.op ≠ 0 ∧ k.op ≠ 1 ∧ k.op ≠ 3) ∧
  (o = 4 → 2 ≤ ks.length ∧ (∀ k ∈ ks, k.op ≠ 0 ∧ k.op ≠ 4) ∧ Strict ks ∧ ∀ x ∈ ks, ∀ y ∈ ks, x.op = 2 → y.op = 2 → x = y) ∧
  (o = 5 → ∃ k, ks = [k] ∧ k.op ≠ 0 ∧ k.op ≠ 1 ∧ k.op ≠ 5) ∧
  (o = 6 → 2 ≤ ks.length ∧ (∀ k ∈ ks, k.op ≠ 0 ∧ k.op ≠ 6) ∧ Strict ks ∧ ∀ x ∈ ks, ∀ y ∈ ks, x.op = 2 → y.op = 2 → x = y) ∧
  (o = 7 → ∃ a b, ks = [a, b] ∧ a.op ≠ 0 ∧ b.op ≠ 0 ∧ a ≠ b ∧ ¬ (a.op = 2 ∧ b.op = 2))
mutual
def nf : RE → Prop | node o s ks => nfTop o s ks ∧ nfs ks
def nfs : List RE → Prop | [] => True | k :: ks => nf k ∧ nfs ks
end
theorem nfs_iff (l : List RE) : nfs l ↔ ∀ r ∈ l, nf r := by
  induction l with
  | nil => simp [nfs]
  | cons a l ih => simp [nfs, ih]
theorem nf_node {o : Nat} {s : BS} {ks : List RE} : nf (node o s ks) ↔ nfTop o s ks ∧ ∀ k ∈ ks, nf k := by rw [nf, nfs_iff]
mutual
theorem nf_wf : (r : RE) → nf r → wf r
  | node o s ks, h => by
    rw [nf] at h
    exact ⟨h.1.1, h.1.2.1, nfs_wfs ks h.2⟩
theorem nfs_wfs : (l : List RE) → nfs l → wfs l
  | [], _ => trivial
  | k :: ks, h => ⟨nf_wf k h.1, nfs_wfs ks h.2⟩
end
theorem nf_kids {r : RE} (h : nf r) : ∀ k ∈ r.kids, nf k := by cases r; exact (nf_node.1 h).2
theorem nf_top {r : RE} (h : nf r) : nfTop r.op r.set r.kids := by cases r; exact (nf_node.1 h).1
theorem nf_ne {r : RE} (h : nf r) (ho : r.op = 3 ∨ r.op = 4 ∨ r.op = 6) : r.kids ≠ [] := by
  have ht := nf_top h
  rintro e
  unfold nfTop at ht
  rw [e] at ht
  rcases ho with ho | ho | ho <;> simp [ho] at ht
theorem nf_nothing : nf nothing := nf_node.2 ⟨by simp [nfTop], by simp⟩
theorem nf_empty : nf empty := nf_node.2 ⟨by simp [nfTop], by simp⟩
theorem nf_one (s : BS) : nf (one s) := by
  unfold one
  split
  · exact nf_nothing
  · rename_i h; exact nf_node.2 ⟨by simp [nfTop, h], by simp⟩
theorem one_op' (s : BS) : (one s).op = if s = BS.none then 0 else 2 := by unfold one; split <;> rfl
/-- expressions that may be nil are in their normal form -/
def nfO (l : List (Option RE)) : Prop := ∀ r, some r ∈ l → nf r
theorem flat1_some (o : Nat) (r : RE) : flat1 o (some r) = if r.op = o then r.kids else [r] := rfl
theorem nf_flat1 (o : Nat) (x : Option RE) (h : ∀ r, x = some r → nf r) : ∀ r ∈ flat1 o x, nf r := by
  cases x with
  | none => intro r hr; have : r = nothing := by simpa [flat1] using hr
            subst this; exact nf_nothing
  | some y =>
    intro r hr
    rw [flat1_some] at hr
    split at hr
    · exact nf_kids (h y rfl) r hr
    · have : r = y := by simpa using hr
      subst this; exact h r rfl
theorem nf_flat {o : Nat} {l : List (Option RE)} (h : nfO l) : ∀ r ∈ flat o l, nf r := by
  intro r hr
  obtain ⟨x, hx, hr⟩ := List.mem_flatMap.1 hr
  exact nf_flat1 o x (fun y hy => h y (by rw [← hy]; exact hx)) r hr
theorem flat_op {o : Nat} (ho : o = 3 ∨ o = 4 ∨ o = 6) {l : List (Option RE)} (h : nfO l) : ∀ r ∈ flat o l, r.op ≠ o := by
  intro r hr0
  obtain ⟨x, hx, hr⟩ := List.mem_flatMap.1 hr0
  cases x with
  | none =>
    have : r = nothing := by simpa [flat1] using hr
    subst this
    show 0 ≠ o
    omega
  | some y =>
    rw [flat1_some] at hr
    have ht := nf_top (h y hx)
    split at hr
    · rename_i hy
      unfold nfTop at ht
      rcases ho with rfl | rfl | rfl
      · exact ((ht.2.2.2.2.1 hy).2 r hr).2.2
      · exact ((ht.2.2.2.2.2.1 hy).2.1 r hr).2
      · exact ((ht.2.2.2.2.2.2.2.1 hy).2.1 r hr).2
    · rename_i hy
      have : r = y := by simpa using hr
      subst this; exact hy
theorem flat_ne {o : Nat} (ho : o = 3 ∨ o = 4 ∨ o = 6) {l : List (Option RE)} (h : nfO l) : ∀ r, some r ∈ l → r.op = o → r.kids ≠ [] := fun r hr hro => nf_ne (h r hr) (by omega)
theorem nf_seqL {all : List RE} (h : ∀ k ∈ all, nf k) (hop : ∀ k ∈ all, k.op ≠ 0 ∧ k.op ≠ 1 ∧ k.op ≠ 3) : nf (seqL all) := by
  unfold seqL
  split
  · exact nf_empty
  · exact h _ (by simp)
  · rename_i h0 h1
    have : 2 ≤ all.length := by
      match all, h0, h1 with
      | [], h0, _ => exact absurd rfl h0
      | [x], _, h1 => exact absurd rfl (h1 x)
      | x :: y :: z, _, _ => simp
    exact nf_node.2 ⟨by simp [nfTop, this]; exact fun k hk => ⟨(hop k hk).1, (hop k hk).2.1, (hop k hk).2.2⟩, h⟩
theorem nf_thenL {l : List (Option RE)} (h : nfO l) : nf (thenL l) := by
  unfold thenL
  split
  · exact nf_nothing
  · rename_i h0
    refine nf_seqL (fun k hk => nf_flat h k (List.mem_filter.1 hk).1) fun k hk => ?_
    have h1 := List.mem_filter.1 hk
    refine ⟨fun e => h0 (List.any_eq_true.2 ⟨k, hk, by simp [e]⟩), by simpa using h1.2, flat_op (.inl rfl) h k h1.1⟩
theorem nf_many {x : Option RE} (h : ∀ r, x = some r → nf r) : nf (many x) := by
  cases x with
  | none => exact nf_empty
  | some r =>
    unfold many
    dsimp only
    split
    · exact nf_empty
    · split
      · exact h r rfl
      · rename_i h1 h2
        exact nf_node.2 ⟨by simp [nfTop]; omega, by simpa using h r rfl⟩
theorem but_inj {a b : RE} (ha : nf a) (hb : nf b) : keyO (some a) = keyO (some b) ↔ a = b := ⟨fun h => key_inj (nf_wf a ha) (nf_wf b hb) h, fun h => by rw [h]⟩
theorem nf_but {a b : Option RE} (ha : ∀ r, a = some r → nf r) (hb : ∀ r, b = some r → nf r) : nf (but a b) := by
  cases a with
  | none => exact nf_nothing
  | some x =>
    unfold but
    dsimp only
    split
    · exact nf_nothing
    · split
      · exact nf_nothing
      · cases b with
        | none => exact ha x rfl
        | some y =>
          dsimp only
          split
          · exact ha x rfl
          · split
            · exact nf_one _
            · rename_i h1 h2 h3 h4
              refine nf_node.2 ⟨?_, ?_⟩
              · unfold nfTop
                refine ⟨by omega, fun _ => rfl, by omega, by omega, by omega, by omega, by omega, by omega, fun _ => ⟨x, y, rfl, h1, h3, fun e => h2 (by rw [e]), h4⟩⟩
              · intro k hk
                simp only [List.mem_cons, List.not_mem_nil, or_false] at hk
                rcases hk with rfl | rfl
                · exact ha _ rfl
                · exact hb _ rfl
theorem nf_set {r : RE} (h : nf r) (h2 : r.op = 2) : r.set ≠ BS.none := (nf_top h).2.2.1 h2
/-- what is known of what was joined so far -/
def JOk (o : Nat) (out : List RE) (x : Option RE) : Prop := (∀ r ∈ out, nf r ∧ r.op ≠ o ∧ r.op ≠ 2) ∧ ∀ y, x = some y → nf y ∧ y.op = 2
theorem joinGo_nf {o : Nat} (ho : o = 4 ∨ o = 6) (f : BS → BS → BS) : ∀ (l out : List RE) (x : Option RE), (∀ r ∈ l, nf r ∧ r.op ≠ o) → JOk o out x →
    (∃ m s t, joinGo f l out x = m ++ [nothing] ∧ (∀ r ∈ m, nf r) ∧ s ≠ BS.none ∧ t ≠ BS.none ∧ f s t = BS.none) ∨ (Strict (joinGo f l out x) ∧ ∀ r ∈ joinGo f l out x, nf r ∧ r.op ≠ o ∧ ∀ r' ∈ joinGo f l out x, r.op = 2 → r'.op = 2 → r = r')
  | [], out, x, _, h => by
    right
    have key : ∀ m : List RE, (∀ r ∈ m, nf r ∧ r.op ≠ o) → (∀ r ∈ m, ∀ r' ∈ m, r.op = 2 → r'.op = 2 → r = r') →
        Strict (uniq m) ∧ ∀ r ∈ uniq m, nf r ∧ r.op ≠ o ∧ ∀ r' ∈ uniq m, r.op = 2 → r'.op = 2 → r = r' := fun m hm h2 => by
      have hw : ∀ r ∈ m, wf r := fun r hr => nf_wf r (hm r hr).1
      obtain ⟨h3, h4⟩ := uniq_spec hw
      exact ⟨h3, fun r hr => ⟨(hm r ((h4 r).1 hr)).1, (hm r ((h4 r).1 hr)).2, fun r' hr' => h2 r ((h4 r).1 hr) r' ((h4 r').1 hr')⟩⟩
    cases x with
    | none =>
      simp only [joinGo]
      exact key out (fun r hr => ⟨(h.1 r hr).1, (h.1 r hr).2.1⟩) fun r hr r' hr' e => absurd e (h.1 r hr).2.2
    | some y =>
      simp only [joinGo]
      obtain ⟨hy, hy2⟩ := h.2 y rfl
      refine key _ (fun r hr => ?_) fun r hr r' hr' e e' => ?_
      · rcases List.mem_append.1 hr with hr | hr
        · exact ⟨(h.1 r hr).1, (h.1 r hr).2.1⟩
        · rw [List.mem_singleton.1 hr]; exact ⟨hy, by omega⟩
      · rcases List.mem_append.1 hr with hr | hr
        · exact absurd e (h.1 r hr).2.2
        · rcases List.mem_append.1 hr' with hr' | hr'
          · exact absurd e' (h.1 r' hr').2.2
          · rw [List.mem_singleton.1 hr, List.mem_singleton.1 hr']
  | r :: rs, out, x, hl, h => by
    have hr := hl r (by simp)
    have hrs : ∀ r ∈ rs, nf r ∧ r.op ≠ o := fun y hy => hl y (by simp [hy])
    by_cases h2 : r.op = 2
    · cases x with
      | none =>
        simp only [joinGo, h2]
        simpa using joinGo_nf ho f rs out (some r) hrs ⟨h.1, fun y hy => by cases hy; exact ⟨hr.1, h2⟩⟩
      | some y =>
        by_cases h0 : (one (f y.set r.set)).op = 0
        · left
          have hn : f y.set r.set = BS.none := by
            rw [one_op'] at h0
            by_cases e : f y.set r.set = BS.none
            · exact e
            · rw [if_neg e] at h0; omega
          have e : joinGo f (r :: rs) out (some y) = out ++ [nothing] := by
            have e1 : one (f y.set r.set) = nothing := by unfold one; rw [if_pos hn]
            simp [joinGo, h2, e1, show nothing.op = 0 from rfl]
          rw [e]
          exact ⟨out, y.set, r.set, rfl, fun r hr => (h.1 r hr).1, nf_set (h.2 y rfl).1 (h.2 y rfl).2, nf_set hr.1 h2, hn⟩
        · have e : joinGo f (r :: rs) out (some y) = joinGo f rs out (some (one (f y.set r.set))) := by simp [joinGo, h2, h0]
          rw [e]
          refine joinGo_nf ho f rs out _ hrs ⟨h.1, fun z hz => ?_⟩
          cases hz
          refine ⟨nf_one _, ?_⟩
          rw [one_op'] at h0 ⊢
          split at h0
          · omega
          · rename_i e; rw [if_neg e]
    · simp only [joinGo, ne_eq, h2, not_false_eq_true, if_true]
      refine joinGo_nf ho f rs (out ++ [r]) x hrs ⟨fun y hy => ?_, h.2⟩
      rcases List.mem_append.1 hy with hy | hy
      · exact h.1 y hy
      · rw [List.mem_singleton.1 hy]; exact ⟨hr.1, hr.2, h2⟩
theorem orS_none {s t : BS} (h : orS s t = BS.none) : s = BS.none := by
  obtain ⟨a, b, c, d⟩ := s
  obtain ⟨a', b', c', d'⟩ := t
  have e : ∀ x y : BitVec 64, x ||| y = 0 → x = 0 := fun x y h => by
    apply BitVec.eq_of_getLsbD_eq
    intro i hi
    have := congrArg (fun z : BitVec 64 => z.getLsbD i) h
    simp at this
    simp [this.1]
  simp only [orS, BS.none, BS.mk.injEq] at h ⊢
  exact ⟨e _ _ h.1, e _ _ h.2.1, e _ _ h.2.2.1, e _ _ h.2.2.2⟩
theorem nf_joinL {o : Nat} (ho : o = 4 ∨ o = 6) (f : BS → BS → BS) {l : List (Option RE)} (h : nfO l) : ∀ r ∈ joinL o f l, nf r := by
  have := joinGo_nf ho f (flat o l) [] none (fun r hr => ⟨nf_flat h r hr, flat_op (by omega) h r hr⟩) ⟨by simp, by simp⟩
  intro r hr
  unfold joinL at hr
  rcases this with ⟨m, _, _, e, hm, _⟩ | ⟨_, h2⟩
  · rw [e] at hr
    rcases List.mem_append.1 hr with hr | hr
    · exact hm r hr
    · rw [List.mem_singleton.1 hr]; exact nf_nothing
  · exact (h2 r hr).1
theorem two_le {all : List RE} (h0 : all ≠ []) (h1 : ∀ x, all ≠ [x]) : 2 ≤ all.length := by
  match all, h0, h1 with
  | [], h0, _ => exact absurd rfl h0
  | [x], _, h1 => exact absurd rfl (h1 x)
  | x :: y :: z, _, _ => simp
theorem nf_anyOf {all : List RE} (h : ∀ k ∈ all, nf k ∧ k.op ≠ 0 ∧ k.op ≠ 4) (hs : Strict all) (h2 : ∀ x ∈ all, ∀ y ∈ all, x.op = 2 → y.op = 2 → x = y) : nf (anyOf all) := by
  unfold anyOf
  split
  · exact nf_nothing
  · exact (h _ (by simp)).1
  · rename_i h0 h1
    have hl := two_le (fun e => h0 e) (fun x e => h1 x e)
    refine nf_node.2 ⟨?_, fun k hk => (h k hk).1⟩
    unfold nfTop
    exact ⟨by omega, fun _ => rfl, by omega, by omega, by omega, fun _ => ⟨hl, fun k hk => (h k hk).2, hs, h2⟩, by omega, by omega, by omega⟩
theorem nf_bothOf {all : List RE} (h : ∀ k ∈ all, nf k ∧ k.op ≠ 0 ∧ k.op ≠ 6) (hs : Strict all) (h2 : ∀ x ∈ all, ∀ y ∈ all, x.op = 2 → y.op = 2 → x = y) : nf (bothOf all) := by
  unfold bothOf
  split
  · exact nf_many fun r hr => by cases hr; exact nf_one _
  · exact (h _ (by simp)).1
  · rename_i h0 h1
    have hl := two_le (fun e => h0 e) (fun x e => h1 x e)
    refine nf_node.2 ⟨?_, fun k hk => (h k hk).1⟩
    unfold nfTop
    exact ⟨by omega, fun _ => rfl, by omega, by omega, by omega, by omega, by omega, fun _ => ⟨hl, fun k hk => (h k hk).2, hs, h2⟩, by omega⟩
theorem joinL_or_spec {l : List (Option RE)} (h : nfO l) : Strict (joinL 4 orS l) ∧ ∀ r ∈ joinL 4 orS l, nf r ∧ r.op ≠ 4 ∧ ∀ r' ∈ joinL 4 orS l, r.op = 2 → r'.op = 2 → r = r' := by
  have hl : ∀ r ∈ flat 4 l, nf r ∧ r.op ≠ 4 := fun r hr => ⟨nf_flat h r hr, flat_op (by omega) h r hr⟩
  rcases joinGo_nf (.inl rfl) orS (flat 4 l) [] none hl ⟨by simp, by simp⟩ with ⟨_, _, _, _, _, hs, _, he⟩ | h2
  · exact absurd (orS_none he) hs
  · exact h2
theorem Strict.filter {l : List RE} (h : Strict l) (p : RE → Bool) : Strict (l.filter p) := List.Pairwise.filter _ h
theorem nf_anyL {l : List (Option RE)} (h : nfO l) : nf (anyL l) := by
  obtain ⟨h1, h2⟩ := joinL_or_spec h
  refine nf_anyOf (fun k hk => ?_) (h1.filter _) fun x hx y hy => (h2 x (List.mem_filter.1 hx).1).2.2 y (List.mem_filter.1 hy).1
  have hk' := List.mem_filter.1 hk
  exact ⟨(h2 k hk'.1).1, by simpa using hk'.2, (h2 k hk'.1).2.1⟩
theorem nf_bothL {l : List (Option RE)} (h : nfO l) : nf (bothL l) := by
  unfold bothL
  split
  · exact nf_nothing
  · rename_i h0
    have hl : ∀ r ∈ flat 6 l, nf r ∧ r.op ≠ 6 := fun r hr => ⟨nf_flat h r hr, flat_op (by omega) h r hr⟩
    have hop : ∀ r ∈ joinL 6 andS l, r.op ≠ 0 := fun r hr e => h0 (List.any_eq_true.2 ⟨r, hr, by simp [e]⟩)
    rcases joinGo_nf (.inr rfl) andS (flat 6 l) [] none hl ⟨by simp, by simp⟩ with ⟨m, _, _, e, _⟩ | ⟨h1, h2⟩
    · exact absurd rfl (hop nothing (by unfold joinL; rw [e]; simp))
    · exact nf_bothOf (fun k hk => ⟨(h2 k hk).1, hop k hk, (h2 k hk).2.1⟩) h1 fun x hx => (h2 x hx).2.2
theorem joinGo_sizes (f : BS → BS → BS) : ∀ (l out : List RE) (x : Option RE), sizes (joinGo f l out x) ≤ sizes l + sizes out + sizeO x
  | [], out, none => by simp only [joinGo, sizes, sizeO]; have := uniq_sizes out; omega
  | [], out, some y => by simp only [joinGo, sizes, sizeO]; have := uniq_sizes (out ++ [y]); rw [sizes_append] at this; simp only [sizes] at this; omega
  | r :: rs, out, x => by
    have hr := size_pos r
    have hone : ∀ s, (one s).size = 1 := fun s => by unfold one; split <;> simp [nothing, size, sizes]
    by_cases h2 : r.op = 2
    · cases x with
      | none =>
        have := joinGo_sizes f rs out (some r)
        simp only [joinGo, h2, sizes, sizeO] at this ⊢
        simp only [ne_eq, not_true_eq_false, if_false]; omega
      | some y =>
        by_cases h0 : (one (f y.set r.set)).op = 0
        · have := hone (f y.set r.set)
          simp only [joinGo, h2, h0, ne_eq, not_true_eq_false, if_false, if_true, sizes_append, sizes, sizeO]; omega
        · have := joinGo_sizes f rs out (some (one (f y.set r.set)))
          have := hone (f y.set r.set)
          have := size_pos y
          simp only [joinGo, h2, h0, ne_eq, not_true_eq_false, if_false, sizes, sizeO] at *; omega
    · have := joinGo_sizes f rs (out ++ [r]) x
      simp only [joinGo, ne_eq, h2, not_false_eq_true, if_true, sizes_append, sizes] at this ⊢; omega
theorem joinL_sizes (o : Nat) (f : BS → BS → BS) (l : List (Option RE)) : sizes (joinL o f l) ≤ sizes (flat o l) := by
  have := joinGo_sizes f (flat o l) [] none
  simpa [joinL, sizes, sizeO] using this
theorem sizes_filter (l : List RE) (p : RE → Bool) : sizes (l.filter p) ≤ sizes l := by
  induction l with
  | nil => simp
  | cons a l ih => rw [List.filter_cons]; split <;> simp only [sizes] <;> omega
theorem one_size' (s : BS) : (one s).size = 1 := by unfold one; split <;> simp [nothing, size, sizes]
def sizeOs (l : List (Option RE)) : Nat := (l.map fun x => 1 + sizeO x).sum
theorem sizes_flat (o : Nat) (l : List (Option RE)) : sizes (flat o l) ≤ sizeOs l := by
  induction l with
  | nil => simp [flat, sizes, sizeOs]
  | cons x l ih =>
    have h1 : sizes (flat1 o x) ≤ 1 + sizeO x := by
      cases x with
      | none => simp [flat1, sizes, nothing, size, sizeO]
      | some r =>
        rw [flat1_some]
        split
        · cases r; simp [kids, sizeO, size]; omega
        · simp [sizes, sizeO]
    simp only [flat, List.flatMap_cons, sizes_append, sizeOs, List.map_cons, List.sum_cons] at ih ⊢
    omega
theorem size_thenL (l : List (Option RE)) : (thenL l).size ≤ 1 + sizeOs l := by
  have h1 := sizes_flat 3 l
  have h2 := sizes_filter (flat 3 l) fun r => r.op != 1
  unfold thenL
  split
  · simp [nothing, size, sizes]
  · generalize (flat 3 l).filter (fun r => r.op != 1) = F at *
    unfold seqL
    split
    · simp [empty, size, sizes]
    · simp [sizes] at h2; omega
    · simp only [size]; omega
theorem size_anyL (l : List (Option RE)) : (anyL l).size ≤ 1 + sizeOs l := by
  have h1 := sizes_flat 4 l
  have h2 := sizes_filter (joinL 4 orS l) fun r => r.op != 0
  have h3 := joinL_sizes 4 orS l
  unfold anyL
  generalize (joinL 4 orS l).filter (fun r => r.op != 0) = F at *
  unfold anyOf
  split
  · simp [nothing, size, sizes]
  · simp [sizes] at h2; omega
  · simp only [size]; omega
theorem size_many (x : Option RE) : (many x).size ≤ 1 + sizeO x := by
  cases x with
  | none => simp [many, empty, size, sizes]
  | some r =>
    unfold many
    dsimp only
    split
    · simp [empty, size, sizes]
    · split <;> simp [sizeO, size, sizes]
theorem size_bothL (l : List (Option RE)) : (bothL l).size ≤ 2 + sizeOs l := by
  have h1 := sizes_flat 6 l
  have h3 := joinL_sizes 6 andS l
  unfold bothL
  split
  · simp [nothing, size, sizes]; omega
  · generalize joinL 6 andS l = F at *
    unfold bothOf
    split
    · have := size_many (some (one BS.all))
      have h : (one BS.all).size = 1 := one_size' _
      simp only [sizeO] at this; omega
    · simp [sizes] at h3; omega
    · simp only [size]; omega
theorem size_but (a b : Option RE) : (but a b).size ≤ 1 + sizeO a + sizeO b := by
  cases a with
  | none => simp [but, nothing, size, sizes]; omega
  | some x =>
    unfold but
    dsimp only
    split
    · simp [nothing, size, sizes]; omega
    · split
      · simp [nothing, size, sizes]; omega
      · cases b with
        | none => simp [sizeO]
        | some y =>
          dsimp only
          split
          · simp [sizeO]; omega
          · split
            · have := one_size' (minusS x.set y.set); omega
            · simp [sizeO, size, sizes]; omega
end RE
end Go.Proofs.YticpjjmacmmpjaaGreatDoor
