/-
  Expressions put together: lists of expressions in order, each once; the sets of those of one byte made one; what the calls that make expressions of several make. Plain Lean: no program stands in it.
-/
import Derived.Test.YtpajpjocakhcdaaGreatDoorReK
import Derived.Sort.LotA
set_option linter.unusedSimpArgs false
set_option linter.unusedVariables false
set_option maxRecDepth 100000
set_option linter.unnecessarySimpa false
namespace Go.Proofs.YtpajpjocakhcdaaGreatDoor
namespace RE
def ins (r : RE) : List RE → List RE
  | [] => [r]
  | x :: xs => if r.key < x.key then r :: x :: xs else if x.key < r.key then x :: ins r xs else x :: xs
/-- in order, each once -/
def uniq (l : List RE) : List RE := l.foldr ins []
def Strict (l : List RE) : Prop := l.Pairwise fun a b => a.key < b.key
theorem key_tri {a b : RE} (ha : wf a) (hb : wf b) (h1 : ¬ a.key < b.key) (h2 : ¬ b.key < a.key) : a = b := key_inj ha hb (List.le_antisymm (List.not_lt.1 h2) (List.not_lt.1 h1))
theorem mem_ins {r r' : RE} {l : List RE} (hr : wf r) (hl : ∀ x ∈ l, wf x) : r' ∈ ins r l ↔ r' = r ∨ r' ∈ l := by
  induction l with
  | nil => simp [ins]
  | cons x xs ih =>
    simp only [ins]
    split
    · simp
    · split
      · have := ih (fun y hy => hl y (by simp [hy]))
        simp only [List.mem_cons, this]
        constructor
        · rintro (h | h | h) <;> simp [h]
        · rintro (h | h | h) <;> simp [h]
      · rename_i h1 h2
        have := key_tri hr (hl x (by simp)) h1 h2
        subst this
        simp
theorem strict_ins {r : RE} {l : List RE} (hr : wf r) (hl : ∀ x ∈ l, wf x) (h : Strict l) : Strict (ins r l) := by
  induction l with
  | nil => simp [ins, Strict]
  | cons x xs ih =>
    have h' := List.pairwise_cons.1 h
    simp only [ins]
    split
    · rename_i h1
      refine List.pairwise_cons.2 ⟨fun y hy => ?_, h⟩
      rcases List.mem_cons.1 hy with rfl | hy
      · exact h1
      · exact List.lt_trans h1 (h'.1 y hy)
    · split
      · rename_i h2
        refine List.pairwise_cons.2 ⟨fun y hy => ?_, ih (fun y hy => hl y (by simp [hy])) h'.2⟩
        rcases (mem_ins hr (fun y hy => hl y (by simp [hy]))).1 hy with rfl | hy
        · exact h2
        · exact h'.1 y hy
      · exact h
theorem uniq_spec {l : List RE} (hl : ∀ x ∈ l, wf x) : Strict (uniq l) ∧ ∀ r, r ∈ uniq l ↔ r ∈ l := by
  induction l with
  | nil => simp [uniq, Strict]
  | cons x xs ih =>
    obtain ⟨h1, h2⟩ := ih (fun y hy => hl y (by simp [hy]))
    have hw : ∀ y ∈ uniq xs, wf y := fun y hy => hl y (by simp [(h2 y).1 hy])
    have hx := hl x (by simp)
    refine ⟨strict_ins hx hw h1, fun r => ?_⟩
    show r ∈ ins x (uniq xs) ↔ _
    rw [mem_ins hx hw, h2]; simp
theorem strict_unique : ∀ {l l' : List RE}, Strict l → Strict l' → (∀ r, r ∈ l ↔ r ∈ l') → l = l'
  | [], [], _, _, _ => rfl
  | [], x :: xs, _, _, h => absurd ((h x).2 (by simp)) (by simp)
  | x :: xs, [], _, _, h => absurd ((h x).1 (by simp)) (by simp)
  | x :: xs, y :: ys, h1, h2, h => by
    have a1 := List.pairwise_cons.1 h1
    have a2 := List.pairwise_cons.1 h2
    have hxy : x = y := by
      rcases List.mem_cons.1 ((h x).1 (by simp)) with e | hx
      · exact e
      · rcases List.mem_cons.1 ((h y).2 (by simp)) with e | hy
        · exact e.symm
        · exact absurd (List.lt_trans (a2.1 x hx) (a1.1 y hy)) (List.lt_irrefl _)
    subst hxy
    congr 1
    refine strict_unique a1.2 a2.2 fun r => ?_
    constructor
    · intro hr
      rcases List.mem_cons.1 ((h r).1 (by simp [hr])) with e | hr'
      · subst e; exact absurd (a1.1 r hr) (List.lt_irrefl _)
      · exact hr'
    · intro hr
      rcases List.mem_cons.1 ((h r).2 (by simp [hr])) with e | hr'
      · subst e; exact absurd (a2.1 r hr) (List.lt_irrefl _)
      · exact hr'
theorem uniq_of {m l : List RE} (hm : Strict m) (hl : ∀ x ∈ l, wf x) (h : ∀ r, r ∈ m ↔ r ∈ l) : m = uniq l :=
  strict_unique hm (uniq_spec hl).1 fun r => (h r).trans ((uniq_spec hl).2 r).symm
theorem uniq_self {l : List RE} (hl : ∀ x ∈ l, wf x) (h : Strict l) : uniq l = l := (uniq_of h hl fun _ => Iff.rfl).symm
theorem uniq_len (l : List RE) : (uniq l).length ≤ l.length := by
  have hi : ∀ (r : RE) (l : List RE), (ins r l).length ≤ l.length + 1 := by
    intro r l
    induction l with
    | nil => simp [ins]
    | cons x xs ih => simp only [ins]; split; · simp
                      · split <;> simp; omega
  induction l with
  | nil => simp [uniq]
  | cons x xs ih => have := hi x (uniq xs); simp only [uniq, List.foldr_cons, List.length_cons] at *; omega
theorem uniq_sizes (l : List RE) : sizes (uniq l) ≤ sizes l := by
  have hi : ∀ (r : RE) (l : List RE), sizes (ins r l) ≤ size r + sizes l := by
    intro r l
    induction l with
    | nil => simp [ins, sizes]
    | cons x xs ih => simp only [ins]; split; · simp [sizes]
                      · split <;> simp only [sizes] <;> omega
  induction l with
  | nil => simp [uniq, sizes]
  | cons x xs ih => have := hi x (uniq xs); simp only [uniq, List.foldr_cons, sizes] at *; omega
/-- of a row in order, those that aren't as the one ahead: in order, each once -/
theorem uniq_kept (n : Nat) (r : Nat → RE) (kp : Nat → Bool) (hw : ∀ j, j < n → wf (r j)) (hs : ∀ i j, i < j → j < n → ¬ (r j).key < (r i).key) (h0 : kp 0 = true) (hk : ∀ j, 0 < j → j < n → kp j = !decide ((r j).key = (r (j - 1)).key)) :
    ((List.range n).filter kp).map r = uniq ((List.range n).map r) := by
  have hle : ∀ i j, i ≤ j → j < n → ¬ (r j).key < (r i).key := fun i j hij hj => by
    rcases Nat.lt_or_ge i j with h | h
    · exact hs i j h hj
    · obtain rfl : i = j := by omega
      exact List.lt_irrefl _
  refine uniq_of ?_ (by simpa using hw) ?_
  · have hp : ((List.range n).filter kp).Pairwise fun i j => i < j := List.Pairwise.filter _ List.pairwise_lt_range
    refine List.pairwise_map.2 (hp.imp_of_mem fun {i j} hi hj hij => ?_)
    have hj' := List.mem_filter.1 hj
    have hjn : j < n := by simpa using hj'.1
    have hkj := hj'.2
    rw [hk j (by omega) hjn] at hkj
    have hne : (r j).key ≠ (r (j - 1)).key := by simpa using hkj
    have h1 := hle i (j - 1) (by omega) (by omega)
    have h2 := hs (j - 1) j (by omega) hjn
    by_cases h : (r (j - 1)).key < (r j).key
    · exact List.lt_of_le_of_lt (List.not_lt.1 h1) h
    · exact absurd (List.le_antisymm (List.not_lt.1 h) (List.not_lt.1 h2)) hne
  · intro x
    constructor
    · intro hx
      obtain ⟨j, hj, rfl⟩ := List.mem_map.1 hx
      exact List.mem_map.2 ⟨j, (List.mem_filter.1 hj).1, rfl⟩
    · intro hx
      obtain ⟨j, hj, rfl⟩ := List.mem_map.1 hx
      have hjn : j < n := by simpa using hj
      have key : ∀ j, j < n → r j ∈ ((List.range n).filter kp).map r := by
        intro j
        induction j with
        | zero => intro h; exact List.mem_map.2 ⟨0, List.mem_filter.2 ⟨by simpa using h, h0⟩, rfl⟩
        | succ j ih =>
          intro h
          cases hkj : kp (j + 1) with
          | true => exact List.mem_map.2 ⟨j + 1, List.mem_filter.2 ⟨by simpa using h, hkj⟩, rfl⟩
          | false =>
            rw [hk (j + 1) (by omega) h] at hkj
            have he : (r (j + 1)).key = (r j).key := by simpa using hkj
            rw [key_inj (hw _ h) (hw j (by omega)) he]
            exact ih (by omega)
      exact key j hjn
/-- what is joined: the sets of those of one byte made one -/
def joinGo (f : BS → BS → BS) : List RE → List RE → Option RE → List RE
  | [], out, none => uniq out
  | [], out, some x => uniq (out ++ [x])
  | r :: rs, out, x => if r.op ≠ 2 then joinGo f rs (out ++ [r]) x else match x with
    | none => joinGo f rs out (some r)
    | some y => if (one (f y.set r.set)).op = 0 then out ++ [one (f y.set r.set)] else joinGo f rs out (some (one (f y.set r.set)))
def joinL (o : Nat) (f : BS → BS → BS) (l : List (Option RE)) : List RE := joinGo f (flat o l) [] none
def orS (s t : BS) : BS := ⟨s.a ||| t.a, s.b ||| t.b, s.c ||| t.c, s.d ||| t.d⟩
def andS (s t : BS) : BS := ⟨s.a &&& t.a, s.b &&& t.b, s.c &&& t.c, s.d &&& t.d⟩
def minusS (s t : BS) : BS := ⟨s.a &&& ~~~t.a, s.b &&& ~~~t.b, s.c &&& ~~~t.c, s.d &&& ~~~t.d⟩
/-- of one of them -/
def anyOf (all : List RE) : RE := match all with
  | [] => nothing
  | [x] => x
  | _ => node 4 BS.none all
def anyL (l : List (Option RE)) : RE := anyOf ((joinL 4 orS l).filter fun r => r.op != 0)
/-- of all of them -/
def bothOf (all : List RE) : RE := match all with
  | [] => many (some (one BS.all))
  | [x] => x
  | _ => node 6 BS.none all
def bothL (l : List (Option RE)) : RE := if (joinL 6 andS l).any (fun r => r.op == 0) then nothing else bothOf (joinL 6 andS l)
def keyO : Option RE → List UInt8
  | none => []
  | some r => r.key
/-- of one, but not of another one -/
def but (a b : Option RE) : RE := match a with
  | none => nothing
  | some x => if x.op = 0 then nothing else if keyO (some x) = keyO b then nothing else match b with
    | none => x
    | some y => if y.op = 0 then x else if x.op = 2 ∧ y.op = 2 then one (minusS x.set y.set) else node 7 BS.none [x, y]
def sizeO : Option RE → Nat
  | none => 0
  | some r => r.size
end RE
end Go.Proofs.YtpajpjocakhcdaaGreatDoor
