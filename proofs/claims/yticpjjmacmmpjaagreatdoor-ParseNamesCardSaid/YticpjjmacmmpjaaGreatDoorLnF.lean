/-
  Terms: their blocks, and what leaves them as they are.
-/
import Derived.Test.YticpjjmacmmpjaaGreatDoorReA
import Derived.Test.YticpjjmacmmpjaaGreatDoorLnT
import Derived.Test.YticpjjmacmmpjaaGreatDoorTxW
import Derived.Test.YticpjjmacmmpjaaGreatDoorLnA
set_option linter.unusedSimpArgs false
set_option linter.unusedVariables false
set_option maxRecDepth 100000
set_option linter.unnecessarySimpa false
set_option maxRecDepth 100000
set_option linter.unnecessarySimpa false
namespace Go.Proofs.YticpjjmacmmpjaaGreatDoor
open Go.RowKit
namespace TA
mutual
def zero : TA → TA | node _ o a n r t k ks => node 0 o a n r t k (zeros ks)
def zeros : List TA → List TA | [] => [] | k :: ks => zero k :: zeros ks
end
mutual
/-- the blocks of a term's nodes, each ahead of its parts' -/
def blocks : TA → List Nat | node b _ _ _ _ _ _ ks => b :: blockss ks
def blockss : List TA → List Nat | [] => [] | k :: ks => blocks k ++ blockss ks
end
theorem blocks_eq (t : TA) : t.blocks = t.b :: blockss t.kids := by cases t; rfl
theorem mem_blockss {l : List TA} {k : TA} (h : k ∈ l) : ∀ c ∈ k.blocks, c ∈ blockss l := by
  induction l with
  | nil => simp at h
  | cons a l ih =>
    intro c hc
    rcases List.mem_cons.1 h with rfl | h
    · simp [blockss, hc]
    · simp [blockss, ih h c hc]
end TA
mutual
/-- what is written into the block of another term leaves a term as it is -/
theorem IsTa.putT {w w' : World} {c : Nat} {cs : Array Value} {fr : Nat × Nat} (hc : w.heap[c]? = some (.cells cs 62 fr)) (hw : ∀ k, k < w.heap.size → k ≠ c → w'.heap[k]? = w.heap[k]?) : (t : TA) → c ∉ t.blocks → IsTa w t → IsTa w' t
  | .node b o a n r t k ks, hn, h => by
    obtain ⟨⟨rv, kp, cap, g1, g2, g3⟩, g4⟩ := h
    simp only [TA.blocks, List.mem_cons, not_or] at hn
    refine ⟨⟨rv, kp, cap, (hw _ (Array.getElem?_eq_some_iff.1 g1).1 fun e => hn.1 e.symm).trans g1, g2.put hc (by decide) (by decide) hw, g3.keep fun kb _ _ _ _ hr => hw kb (Array.getElem?_eq_some_iff.1 hr).1 fun e => ?_⟩, IsTas.putT hc hw ks hn.2 g4⟩
    rw [e, hc] at hr
    have := Option.some.inj hr
    injection this with _ e2 _
    exact absurd e2 (by decide)
theorem IsTas.putT {w w' : World} {c : Nat} {cs : Array Value} {fr : Nat × Nat} (hc : w.heap[c]? = some (.cells cs 62 fr)) (hw : ∀ k, k < w.heap.size → k ≠ c → w'.heap[k]? = w.heap[k]?) : (l : List TA) → c ∉ TA.blockss l → IsTas w l → IsTas w' l
  | [], _, _ => trivial
  | k :: l, hn, h => by
    simp only [TA.blockss, List.mem_append, not_or] at hn
    exact ⟨IsTa.putT hc hw k hn.1 h.1, IsTas.putT hc hw l hn.2 h.2⟩
end
/-- what is written into a term's block leaves expressions as they are -/
theorem re_putT {W : World} {b j : Nat} {cs : Array Value} {v : Value} (h : W.heap[b]? = some (.cells cs 62 (0, 0))) {rv : Value} {re : Option RE} (hr : IsReO W rv re) : IsReO (W.setCell ⟨b, j, none⟩ v) rv re :=
  hr.put h (by decide) (by decide) fun k _ hk => Below.heap_setCell _ _ _ _ hk
theorem TA.of_blockss {l : List TA} {c : Nat} (h : c ∈ TA.blockss l) : ∃ t ∈ l, c ∈ t.blocks := by
  induction l with
  | nil => simp [TA.blockss] at h
  | cons a l ih =>
    simp only [TA.blockss, List.mem_append] at h
    rcases h with h | h
    · exact ⟨a, by simp, h⟩
    · obtain ⟨t, h1, h2⟩ := ih h
      exact ⟨t, by simp [h1], h2⟩
end Go.Proofs.YticpjjmacmmpjaaGreatDoor
