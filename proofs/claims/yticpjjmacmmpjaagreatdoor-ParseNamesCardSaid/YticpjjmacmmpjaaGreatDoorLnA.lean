/-
  Terms as trees, each node with the block that it lies in: how they lie in memory, how they are written, and what else is asked of them.
-/
import Derived.Test.YticpjjmacmmpjaaGreatDoorLnT
import Derived.Test.YticpjjmacmmpjaaGreatDoorTxW
set_option linter.unusedSimpArgs false
set_option linter.unusedVariables false
set_option maxRecDepth 100000
set_option linter.unnecessarySimpa false
namespace Go.Proofs.YticpjjmacmmpjaaGreatDoor
open Go.RowKit
inductive TA where
  | node (b op : Nat) (at_ : Int) (name : List UInt8) (re : Option RE) (text back : List UInt8) (kids : List TA)
namespace TA
def b : TA → Nat | node b _ _ _ _ _ _ _ => b
def op : TA → Nat | node _ o _ _ _ _ _ _ => o
def at_ : TA → Int | node _ _ a _ _ _ _ _ => a
def name : TA → List UInt8 | node _ _ _ n _ _ _ _ => n
def re : TA → Option RE | node _ _ _ _ r _ _ _ => r
def text : TA → List UInt8 | node _ _ _ _ _ t _ _ => t
def back : TA → List UInt8 | node _ _ _ _ _ _ t _ => t
def kids : TA → List TA | node _ _ _ _ _ _ _ k => k
def none : TA := node 0 0 0 [] Option.none [] [] []
mutual
def size : TA → Nat | node _ _ _ _ _ _ _ ks => 1 + sizes ks
def sizes : List TA → Nat | [] => 0 | k :: ks => size k + sizes ks
end
mutual
/-- what a term weighs: its text is no longer -/
def wt : TA → Nat | node _ _ _ n r t k ks => 100 + n.length + 2404 * (1 + RE.sizeO r) + 4 * t.length + 4 * k.length + wts ks
def wts : List TA → Nat | [] => 0 | k :: ks => wt k + wts ks
end
mutual
def ok : TA → Prop | node _ o _ _ r _ _ ks => (o < 18 ∧ (∀ x, r = some x → RE.nf x) ∧ (o = 10 ∨ o = 12 ∨ o = 13 ∨ o = 14 ∨ o = 15 → ks ≠ [])) ∧ oks ks
def oks : List TA → Prop | [] => True | k :: ks => ok k ∧ oks ks
end
theorem oks_iff (l : List TA) : oks l ↔ ∀ r ∈ l, ok r := by
  induction l with
  | nil => simp [oks]
  | cons a l ih => simp [oks, ih]
theorem mem_wts {l : List TA} {r : TA} (h : r ∈ l) : r.wt ≤ wts l := by
  induction l with
  | nil => simp at h
  | cons a l ih =>
    rcases List.mem_cons.1 h with rfl | h
    · simp [wts]
    · have := ih h; simp [wts]; omega
theorem mem_sizes {l : List TA} {r : TA} (h : r ∈ l) : r.size ≤ sizes l := by
  induction l with
  | nil => simp at h
  | cons a l ih =>
    rcases List.mem_cons.1 h with rfl | h
    · simp [sizes]
    · have := ih h; simp [sizes]; omega
theorem size_eq (t : TA) : t.size = 1 + sizes t.kids := by cases t; rfl
theorem wt_eq (t : TA) : t.wt = 100 + t.name.length + 2404 * (1 + RE.sizeO t.re) + 4 * t.text.length + 4 * t.back.length + wts t.kids := by cases t; rfl
theorem ok_kids {t : TA} (h : ok t) : ∀ k ∈ t.kids, ok k := by cases t; exact (oks_iff _).1 h.2
theorem ok_top {t : TA} (h : ok t) : t.op < 18 ∧ (∀ x, t.re = some x → RE.nf x) ∧ (t.op = 10 ∨ t.op = 12 ∨ t.op = 13 ∨ t.op = 14 ∨ t.op = 15 → t.kids ≠ []) := by cases t; exact h.1
theorem size_wt : (t : TA) → t.size ≤ t.wt
  | node _ _ _ _ _ _ _ ks => by
    have key : ∀ l : List TA, (∀ t ∈ l, t.size ≤ t.wt) → sizes l ≤ wts l := by
      intro l
      induction l with
      | nil => intro _; simp [sizes, wts]
      | cons a l ih => intro h; have h1 := h a (by simp); have h2 := ih fun t ht => h t (by simp [ht]); simp [sizes, wts]; omega
    have := key ks fun t ht => size_wt t
    simp only [size, wt]; omega
/-- how closely a term's parts hold together -/
def lvl (o : Nat) : Nat := if o = 7 then 0 else if o = 8 then 1 else if o = 11 then 2 else if o = 9 then 3 else 4
/-- an op's word -/
def word (o : Nat) : List UInt8 := wordT (o : Int)
mutual
/-- a term as it is written -/
def str : TA → List UInt8
  | node _ o _ n r t k ks =>
    if o = 0 then n else if o = 1 then [47] ++ RE.ofO r ++ [47] else if o = 2 ∨ o = 16 then word o ++ [32] ++ arg r ks
    else if o = 3 then [107, 101, 121, 32] ++ n ++ [32] ++ arg r ks
    else if o = 4 then [99, 111, 110, 115, 116, 32] ++ arg r ks ++ [32] ++ quoteW t ++ [32] ++ quoteW k
    else if o = 5 then [100, 101, 108, 32] ++ arg r ks ++ [32] ++ quoteW k
    else if o = 17 then [110, 111, 114, 109, 32] ++ arg r ks ++ [32] ++ quoteW t
    else if o = 6 then [105, 110, 115, 32] ++ quoteW t
    else if o = 7 then pair [32, 124, 32] 0 ks else if o = 8 then pair [32, 46, 32] 1 ks else if o = 11 then pair [32, 59, 32] 2 ks
    else if o = 9 then star ks else word o ++ [40] ++ Lib.join (strs ks) [44, 32] ++ [41]
def arg (r : Option RE) : List TA → List UInt8
  | [] => [47] ++ RE.ofO r ++ [47]
  | [k] => str k
  | _ :: _ :: _ => [47] ++ RE.ofO r ++ [47]
def pair (sign : List UInt8) (l : Nat) : List TA → List UInt8
  | [] => [40, 41]
  | [_] => [40, 41]
  | [x, y] => (if lvl x.op < l then [40] ++ str x ++ [41] else str x) ++ sign ++ (if lvl y.op < l + 1 then [40] ++ str y ++ [41] else str y)
  | _ :: _ :: _ :: _ => [40, 41]
def star : List TA → List UInt8
  | [] => [40, 41]
  | [k] => (if lvl k.op < 3 then [40] ++ str k ++ [41] else str k) ++ [42]
  | _ :: _ :: _ => [40, 41]
def strs : List TA → List (List UInt8)
  | [] => []
  | k :: ks => str k :: strs ks
end
theorem strs_map (l : List TA) : strs l = l.map str := by induction l with | nil => rfl | cons a l ih => simp [strs, ih]
/-- .. within one of a level -/
def inn (l : Nat) (t : TA) : List UInt8 := if lvl t.op < l then [40] ++ str t ++ [41] else str t
theorem word_len (o : Nat) : (word o).length ≤ 8 := by
  unfold word wordT
  split
  · have : ∀ i, (opWords.getD i []).length ≤ 8 := fun i => by
      by_cases h : i < 16
      · revert i; decide
      · have : opWords.getD i [] = [] := by
          have hl : opWords.length = 16 := rfl
          simp [List.getD, List.getElem?_eq_none (show opWords.length ≤ i by omega)]
        rw [this]; simp
    exact this _
  · simp
mutual
theorem str_len : (t : TA) → (str t).length + 10 ≤ wt t
  | node _ o _ n r t k ks => by
    have hw := word_len o
    have hr : (RE.ofO r).length + 3 ≤ 2404 * (1 + RE.sizeO r) := by
      cases r with
      | none => simp [RE.ofO]; omega
      | some x => have := RE.ofW_len x; simp only [RE.ofO, RE.sizeO]; omega
    have hq : ∀ l : List UInt8, (quoteW l).length ≤ 2 + 4 * l.length := fun l => by have := bytesW_len l; simp [quoteW]; omega
    have h1 := hq t
    have h2 := hq k
    have ha := arg_len r ks
    have hp0 := pair_len [32, 124, 32] 0 ks (by simp)
    have hp1 := pair_len [32, 46, 32] 1 ks (by simp)
    have hp2 := pair_len [32, 59, 32] 2 ks (by simp)
    have hs := star_len ks
    have hj := RE.join_len_le (strs ks) [44, 32]
    have hss := strs_len ks
    simp only [List.length_cons, List.length_nil] at hj
    rw [str, wt]
    by_cases e0 : o = 0
    · rw [if_pos e0]; (try simp only [List.length_append, List.length_cons, List.length_nil]); omega
    rw [if_neg e0]
    by_cases e1 : o = 1
    · rw [if_pos e1]; (try simp only [List.length_append, List.length_cons, List.length_nil]); omega
    rw [if_neg e1]
    by_cases e2 : o = 2 ∨ o = 16
    · rw [if_pos e2]; (try simp only [List.length_append, List.length_cons, List.length_nil]); omega
    rw [if_neg e2]
    by_cases e3 : o = 3
    · rw [if_pos e3]; (try simp only [List.length_append, List.length_cons, List.length_nil]); omega
    rw [if_neg e3]
    by_cases e4 : o = 4
    · rw [if_pos e4]; (try simp only [List.length_append, List.length_cons, List.length_nil]); omega
    rw [if_neg e4]
    by_cases e5 : o = 5
    · rw [if_pos e5]; (try simp only [List.length_append, List.length_cons, List.length_nil]); omega
    rw [if_neg e5]
    by_cases e6 : o = 17
    · rw [if_pos e6]; (try simp only [List.length_append, List.length_cons, List.length_nil]); omega
    rw [if_neg e6]
    by_cases e7 : o = 6
    · rw [if_pos e7]; (try simp only [List.length_append, List.length_cons, List.length_nil]); omega
    rw [if_neg e7]
    by_cases e8 : o = 7
    · rw [if_pos e8]; (try simp only [List.length_append, List.length_cons, List.length_nil]); omega
    rw [if_neg e8]
    by_cases e9 : o = 8
    · rw [if_pos e9]; (try simp only [List.length_append, List.length_cons, List.length_nil]); omega
    rw [if_neg e9]
    by_cases e10 : o = 11
    · rw [if_pos e10]; (try simp only [List.length_append, List.length_cons, List.length_nil]); omega
    rw [if_neg e10]
    by_cases e11 : o = 9
    · rw [if_pos e11]; (try simp only [List.length_append, List.length_cons, List.length_nil]); omega
    rw [if_neg e11]
    simp only [List.length_append, List.length_cons, List.length_nil]; omega
theorem arg_len (r : Option RE) : (l : List TA) → (arg r l).length ≤ (RE.ofO r).length + 2 + wts l
  | [] => by simp [arg]
  | [k] => by have := str_len k; simp only [arg, wts]; omega
  | _ :: _ :: _ => by simp [arg]
theorem pair_len (sign : List UInt8) (n : Nat) : (l : List TA) → sign.length ≤ 3 → (pair sign n l).length ≤ 2 + wts l
  | [], _ => by simp [pair]
  | [_], _ => by simp [pair]
  | [x, y], hs => by
    have h1 := str_len x
    have h2 := str_len y
    simp only [pair, wts, List.length_append]
    split <;> split <;> (try simp only [List.length_append, List.length_cons, List.length_nil]) <;> omega
  | _ :: _ :: _ :: _, _ => by simp [pair]
theorem star_len : (l : List TA) → (star l).length ≤ 2 + wts l
  | [] => by simp [star]
  | [k] => by
    have h1 := str_len k
    simp only [star, wts, List.length_append, List.length_cons, List.length_nil]
    split <;> (try simp only [List.length_append, List.length_cons, List.length_nil]) <;> omega
  | _ :: _ :: _ => by simp [star]
theorem strs_len : (l : List TA) → ((strs l).map fun x => x.length + (0 + 1 + 1)).sum ≤ wts l
  | [] => by simp [strs]
  | k :: l => by
    have h1 := str_len k
    have h2 := strs_len l
    simp only [strs, List.map_cons, List.sum_cons, wts]; omega
end
end TA
/-- the cells of a term -/
def tmCells (op : Nat) (at_ : Int) (name : List UInt8) (rv : Value) (text back : List UInt8) (kv : Value) : Array Value :=
  #[.int .i64 op, .int .i64 at_, .string ⟨name.toArray⟩, rv, .string ⟨text.toArray⟩, .string ⟨back.toArray⟩, kv]
/-- pointers to terms in a row -/
def RowT (w : World) (kp : Option Addr) (bs : List Nat) : Prop := bs = [] ∨ ∃ kb ko cur fr, kp = some ⟨kb, ko, none⟩ ∧ w.heap[kb]? = some (.cells cur 56 fr) ∧ ∀ i, i < bs.length → w.cell? ⟨kb, ko + i, none⟩ = some (ptr (bs.getD i 0))
theorem RowT.keep {w w' : World} {kp : Option Addr} {bs : List Nat} (h : RowT w kp bs) (hw : ∀ kb ko cur fr, kp = some ⟨kb, ko, none⟩ → w.heap[kb]? = some (.cells cur 56 fr) → w'.heap[kb]? = w.heap[kb]?) : RowT w' kp bs := by
  rcases h with h | ⟨kb, ko, cur, fr, h1, h2, h3⟩
  · exact .inl h
  · have e := hw kb ko cur fr h1 h2
    exact .inr ⟨kb, ko, cur, fr, h1, e.trans h2, fun i hi => by rw [World.cell?_of_block (w := w) (w' := w') (a := ⟨kb, ko + i, none⟩) e]; exact h3 i hi⟩
/-- a node of a term in memory -/
def NodeT (w : World) (t : TA) (rv : Value) (kp : Option Addr) (cap : Nat) : Prop :=
  w.heap[t.b]? = some (.cells (tmCells t.op t.at_ t.name rv t.text t.back (.slice kp t.kids.length cap)) 62 (0, 0)) ∧ IsReO w rv t.re ∧ RowT w kp (t.kids.map TA.b)
mutual
/-- a term in memory -/
def IsTa (w : World) : TA → Prop | .node b o a n r t k ks => (∃ rv kp cap, NodeT w (.node b o a n r t k ks) rv kp cap) ∧ IsTas w ks
def IsTas (w : World) : List TA → Prop | [] => True | k :: ks => IsTa w k ∧ IsTas w ks
end
theorem IsTas_iff (w : World) (l : List TA) : IsTas w l ↔ ∀ t ∈ l, IsTa w t := by
  induction l with
  | nil => simp [IsTas]
  | cons a l ih => simp [IsTas, ih]
theorem IsTa.open {w : World} {t : TA} (h : IsTa w t) : (∃ rv kp cap, NodeT w t rv kp cap) ∧ ∀ k ∈ t.kids, IsTa w k := by
  cases t; exact ⟨h.1, (IsTas_iff _ _).1 h.2⟩
theorem IsTa.mk {w : World} {t : TA} {rv : Value} {kp : Option Addr} {cap : Nat} (h : NodeT w t rv kp cap) (hk : ∀ k ∈ t.kids, IsTa w k) : IsTa w t := by
  cases t; exact ⟨⟨rv, kp, cap, h⟩, (IsTas_iff _ _).2 hk⟩
theorem IsTa.lt {w : World} {t : TA} (h : IsTa w t) : t.b < w.heap.size := by
  obtain ⟨⟨_, _, _, h1, _⟩, _⟩ := h.open
  exact (Array.getElem?_eq_some_iff.1 h1).1
mutual
theorem IsTa.later {w w' : World} (hb : Below w.heap.size w w') : (t : TA) → IsTa w t → IsTa w' t
  | .node b o a n r t k ks, h => by
    obtain ⟨⟨rv, kp, cap, h1, h2, h3⟩, h4⟩ := h
    exact ⟨⟨rv, kp, cap, (hb.block _ (Array.getElem?_eq_some_iff.1 h1).1).trans h1, h2.later hb, h3.keep fun kb _ _ _ _ hc => hb.block kb (Array.getElem?_eq_some_iff.1 hc).1⟩, IsTas.later hb ks h4⟩
theorem IsTas.later {w w' : World} (hb : Below w.heap.size w w') : (l : List TA) → IsTas w l → IsTas w' l
  | [], _ => trivial
  | k :: l, h => ⟨IsTa.later hb k h.1, IsTas.later hb l h.2⟩
end
mutual
/-- what is written into a block of another kind leaves a term as it is -/
theorem IsTa.put {w w' : World} {c : Nat} {cs : Array Value} {T : TypeId} {fr : Nat × Nat} (hc : w.heap[c]? = some (.cells cs T fr)) (h1 : T ≠ 115) (h2 : T ≠ 37) (h3 : T ≠ 62) (h4 : T ≠ 56) (hw : ∀ k, k < w.heap.size → k ≠ c → w'.heap[k]? = w.heap[k]?) : (t : TA) → IsTa w t → IsTa w' t
  | .node b o a n r t k ks, h => by
    obtain ⟨⟨rv, kp, cap, g1, g2, g3⟩, g4⟩ := h
    refine ⟨⟨rv, kp, cap, (hw _ (Array.getElem?_eq_some_iff.1 g1).1 fun e => ?_).trans g1, g2.put hc h1 h2 hw, g3.keep fun kb _ _ _ _ hr => hw kb (Array.getElem?_eq_some_iff.1 hr).1 fun e => ?_⟩, IsTas.put hc h1 h2 h3 h4 hw ks g4⟩
    · rw [e, hc] at g1
      have := Option.some.inj g1
      injection this with _ e2 _
      exact h3 e2
    · rw [e, hc] at hr
      have := Option.some.inj hr
      injection this with _ e2 _
      exact h4 e2
theorem IsTas.put {w w' : World} {c : Nat} {cs : Array Value} {T : TypeId} {fr : Nat × Nat} (hc : w.heap[c]? = some (.cells cs T fr)) (h1 : T ≠ 115) (h2 : T ≠ 37) (h3 : T ≠ 62) (h4 : T ≠ 56) (hw : ∀ k, k < w.heap.size → k ≠ c → w'.heap[k]? = w.heap[k]?) : (l : List TA) → IsTas w l → IsTas w' l
  | [], _ => trivial
  | k :: l, h => ⟨IsTa.put hc h1 h2 h3 h4 hw k h.1, IsTas.put hc h1 h2 h3 h4 hw l h.2⟩
end
/-- what a node's cells hold -/
theorem NodeT.cells {w : World} {t : TA} {rv : Value} {kp : Option Addr} {cap : Nat} (h : NodeT w t rv kp cap) :
    w.cell? ⟨t.b, 0, none⟩ = some (.int .i64 (t.op : Nat)) ∧ w.cell? ⟨t.b, 1, none⟩ = some (.int .i64 t.at_) ∧ w.cell? ⟨t.b, 2, none⟩ = some (.string ⟨t.name.toArray⟩) ∧ w.cell? ⟨t.b, 3, none⟩ = some rv ∧
    w.cell? ⟨t.b, 4, none⟩ = some (.string ⟨t.text.toArray⟩) ∧ w.cell? ⟨t.b, 5, none⟩ = some (.string ⟨t.back.toArray⟩) ∧ w.cell? ⟨t.b, 6, none⟩ = some (.slice kp t.kids.length cap) :=
  ⟨by rw [cell_of_row _ _ _ _ _ _ h.1]; rfl, by rw [cell_of_row _ _ _ _ _ _ h.1]; rfl, by rw [cell_of_row _ _ _ _ _ _ h.1]; rfl, by rw [cell_of_row _ _ _ _ _ _ h.1]; rfl, by rw [cell_of_row _ _ _ _ _ _ h.1]; rfl, by rw [cell_of_row _ _ _ _ _ _ h.1]; rfl, by rw [cell_of_row _ _ _ _ _ _ h.1]; rfl⟩
theorem RowT.at {w : World} {kp : Option Addr} {ks : List TA} (h : RowT w kp (ks.map TA.b)) (hne : ks ≠ []) : ∃ kb ko, kp = some ⟨kb, ko, none⟩ ∧ ∀ i, i < ks.length → w.cell? ⟨kb, ko + i, none⟩ = some (.pointer (some ⟨(ks.getD i TA.none).b, 0, none⟩)) := by
  rcases h with h | ⟨kb, ko, _, _, h1, _, h3⟩
  · exact absurd (List.map_eq_nil_iff.1 h) hne
  · refine ⟨kb, ko, h1, fun i hi => ?_⟩
    have := h3 i (by simpa using hi)
    simpa [List.getD, hi] using this
end Go.Proofs.YticpjjmacmmpjaaGreatDoor
