/-
  An expression in memory: the block of its node, the row of its kids, and so on down. It stays where memory grows.
-/
import Derived.Test.YticpjjmacmmpjaaGreatDoorReN
import Derived.Test.YticpjjmacmmpjaaGreatDoorRows
import Derived.WalkKit
import Derived.Lib.Hide
set_option linter.unusedSimpArgs false
set_option linter.unusedVariables false
set_option maxRecDepth 100000
set_option linter.unnecessarySimpa false
namespace Go.Proofs.YticpjjmacmmpjaaGreatDoor
open Go.RowKit

/-- the value of a pointer to a node -/
abbrev ptr (b : Nat) : Value := .pointer (some ⟨b, 0, none⟩)
/-- pointers to nodes lie in a row -/
def PtrsAt (w : World) (kp : Option Addr) (bs : List Nat) : Prop := bs = [] ∨ ∃ kb ko, kp = some ⟨kb, ko, none⟩ ∧ ∀ i, i < bs.length → w.cell? ⟨kb, ko + i, none⟩ = some (ptr (bs.getD i 0))
theorem PtrsAt.later {B : Nat} {w w' : World} {kp : Option Addr} {bs : List Nat} (h : PtrsAt w kp bs) (hB : w.heap.size ≤ B) (hb : Below B w w') : PtrsAt w' kp bs := by
  rcases h with h | ⟨kb, ko, hk, hc⟩
  · exact .inl h
  · refine .inr ⟨kb, ko, hk, fun i hi => ?_⟩
    have := World.block_lt_of_cell? w _ (hc i hi)
    rw [hb.cell (p := ⟨kb, ko + i, none⟩) (Nat.lt_of_lt_of_le this hB)]; exact hc i hi
/-- what a row lies in: a block of pointers to nodes -/
def TyAt (w : World) (bs : List Nat) (kp : Option Addr) : Prop := bs ≠ [] → ∀ a : Addr, kp = some a → ∃ cur fr, w.heap[a.block]? = some (.cells cur 37 fr)
theorem TyAt.keep {w w' : World} {bs : List Nat} {kp : Option Addr} (h : TyAt w bs kp) (hw : bs ≠ [] → ∀ a : Addr, kp = some a → w'.heap[a.block]? = w.heap[a.block]?) : TyAt w' bs kp := fun hne a ha => by
  obtain ⟨cur, fr, hc⟩ := h hne a ha
  exact ⟨cur, fr, (hw hne a ha).trans hc⟩
theorem TyAt.later {B : Nat} {w w' : World} {bs : List Nat} {kp : Option Addr} (h : TyAt w bs kp) (hB : w.heap.size ≤ B) (hb : Below B w w') : TyAt w' bs kp := fun hne a ha => by
  obtain ⟨cur, fr, hc⟩ := h hne a ha
  exact ⟨cur, fr, (hb.block _ (Nat.lt_of_lt_of_le (Array.getElem?_eq_some_iff.1 hc).1 hB)).trans hc⟩
/-- the cells of a node -/
def nodeCells (r : RE) (kp : Option Addr) (cap : Nat) : Array Value :=
  #[.int .i64 (r.op : Nat), .int .u64 (wN r.set.a), .int .u64 (wN r.set.b), .int .u64 (wN r.set.c), .int .u64 (wN r.set.d), .slice kp r.kids.length cap, .bool r.null, .string ⟨r.key.toArray⟩, .int .i64 (r.size : Nat)]
inductive IsRe (w : World) : Nat → RE → Prop
  | mk (b : Nat) (r : RE) (kp : Option Addr) (cap : Nat) (bs : List Nat) (hb : w.heap[b]? = some (.cells (nodeCells r kp cap) 115 (0, 0))) (hl : bs.length = r.kids.length) (hr : PtrsAt w kp bs) (hy : TyAt w bs kp)
      (hk : ∀ i, i < r.kids.length → IsRe w (bs.getD i 0) (r.kids.getD i RE.nothing)) : IsRe w b r
theorem IsRe.lt {w : World} {b : Nat} {r : RE} (h : IsRe w b r) : b < w.heap.size := by
  cases h with
  | mk _ _ _ _ _ hb _ _ _ _ => exact (Array.getElem?_eq_some_iff.1 hb).1
theorem IsRe.later {B : Nat} {w w' : World} {b : Nat} {r : RE} (h : IsRe w b r) (hB : w.heap.size ≤ B) (hb : Below B w w') : IsRe w' b r := by
  induction h with
  | mk b r kp cap bs h1 hl hr hy hk ih =>
    refine .mk b r kp cap bs ?_ hl (hr.later hB hb) (hy.later hB hb) ih
    have := (Array.getElem?_eq_some_iff.1 h1).1
    rw [hb.block b (Nat.lt_of_lt_of_le this hB)]; exact h1
/-- a list of expressions, by the blocks of their nodes -/
def AreRe (w : World) (bs : List Nat) (l : List RE) : Prop := bs.length = l.length ∧ ∀ i, i < l.length → IsRe w (bs.getD i 0) (l.getD i RE.nothing)
theorem AreRe.later {w w' : World} {bs : List Nat} {l : List RE} (h : AreRe w bs l) (hb : Below w.heap.size w w') : AreRe w' bs l := ⟨h.1, fun i hi => (h.2 i hi).later (Nat.le_refl _) hb⟩
/-- a pointer that may be nil, and what it points to -/
def IsReO (w : World) (v : Value) : Option RE → Prop
  | none => v = .pointer none
  | some r => ∃ b, v = ptr b ∧ IsRe w b r
theorem IsReO.later {w w' : World} {v : Value} {o : Option RE} (h : IsReO w v o) (hb : Below w.heap.size w w') : IsReO w' v o := by
  cases o with
  | none => exact h
  | some r => obtain ⟨b, h1, h2⟩ := h; exact ⟨b, h1, h2.later (Nat.le_refl _) hb⟩
/-- what a node's block says -/
theorem IsRe.open {w : World} {b : Nat} {r : RE} (h : IsRe w b r) : ∃ kp cap bs, w.heap[b]? = some (.cells (nodeCells r kp cap) 115 (0, 0)) ∧ PtrsAt w kp bs ∧ AreRe w bs r.kids := by
  cases h with
  | mk _ _ kp cap bs hb hl hr hy hk => exact ⟨kp, cap, bs, hb, hr, hl, hk⟩
/-- .. none of whose blocks is one of some -/
inductive IsReX (X : Nat → Prop) (w : World) : Nat → RE → Prop
  | mk (b : Nat) (r : RE) (kp : Option Addr) (cap : Nat) (bs : List Nat) (hx : ¬ X b) (hb : w.heap[b]? = some (.cells (nodeCells r kp cap) 115 (0, 0))) (hl : bs.length = r.kids.length) (hr : PtrsAt w kp bs) (hy : TyAt w bs kp)
      (hrx : ∀ a : Addr, kp = some a → bs ≠ [] → ¬ X a.block) (hk : ∀ i, i < r.kids.length → IsReX X w (bs.getD i 0) (r.kids.getD i RE.nothing)) : IsReX X w b r
theorem IsReX.is {X : Nat → Prop} {w : World} {b : Nat} {r : RE} (h : IsReX X w b r) : IsRe w b r := by
  induction h with
  | mk b r kp cap bs hx hb hl hr hy hrx hk ih => exact .mk b r kp cap bs hb hl hr hy ih
theorem IsReX.mono {X Y : Nat → Prop} {w : World} {b : Nat} {r : RE} (h : IsReX X w b r) (hXY : ∀ k, k < w.heap.size → Y k → X k) : IsReX Y w b r := by
  induction h with
  | mk b r kp cap bs hx hb hl hr hy hrx hk ih =>
    refine .mk b r kp cap bs (fun hy => hx (hXY b (Array.getElem?_eq_some_iff.1 hb).1 hy)) hb hl hr hy (fun a ha hne hy => hrx a ha hne (hXY _ ?_ hy)) ih
    rcases hr with h0 | ⟨kb, ko, hk', hc⟩
    · exact absurd h0 hne
    · rw [ha] at hk'
      cases hk'
      exact World.block_lt_of_cell? w _ (hc 0 (List.length_pos_iff.2 hne))
theorem IsRe.avoid {X : Nat → Prop} {w : World} {b : Nat} {r : RE} (h : IsRe w b r) (hX : ∀ k, k < w.heap.size → ¬ X k) : IsReX X w b r := by
  induction h with
  | mk b r kp cap bs hb hl hr hy hk ih =>
    refine .mk b r kp cap bs (hX b (Array.getElem?_eq_some_iff.1 hb).1) hb hl hr hy (fun a ha hne => hX _ ?_) ih
    rcases hr with h0 | ⟨kb, ko, hk', hc⟩
    · exact absurd h0 hne
    · rw [ha] at hk'
      cases hk'
      exact World.block_lt_of_cell? w _ (hc 0 (List.length_pos_iff.2 hne))
theorem IsReX.keep {X : Nat → Prop} {w w' : World} {b : Nat} {r : RE} (h : IsReX X w b r) (hw : ∀ k, k < w.heap.size → ¬ X k → w'.heap[k]? = w.heap[k]?) : IsReX X w' b r := by
  induction h with
  | mk b r kp cap bs hx hb hl hr hy hrx hk ih =>
    refine .mk b r kp cap bs hx ((hw b (Array.getElem?_eq_some_iff.1 hb).1 hx).trans hb) hl ?_ (hy.keep fun hne a ha => hw _ (by obtain ⟨cur, fr, hc⟩ := hy hne a ha; exact (Array.getElem?_eq_some_iff.1 hc).1) (hrx a ha hne)) hrx ih
    rcases hr with h0 | ⟨kb, ko, hk', hc⟩
    · exact .inl h0
    · refine .inr ⟨kb, ko, hk', fun i hi => ?_⟩
      have hlt := World.block_lt_of_cell? w _ (hc i hi)
      have hne : bs ≠ [] := List.length_pos_iff.1 (by omega)
      rw [World.cell?_of_block (w := w) (a := ⟨kb, ko + i, none⟩) (hw kb hlt (hrx _ hk' hne))]; exact hc i hi
theorem IsReX.lt {X : Nat → Prop} {w : World} {b : Nat} {r : RE} (h : IsReX X w b r) : b < w.heap.size := h.is.lt
/-- a list of them -/
def AreReX (X : Nat → Prop) (w : World) (bs : List Nat) (l : List RE) : Prop := bs.length = l.length ∧ ∀ i, i < l.length → IsReX X w (bs.getD i 0) (l.getD i RE.nothing)
theorem AreReX.is {X : Nat → Prop} {w : World} {bs : List Nat} {l : List RE} (h : AreReX X w bs l) : AreRe w bs l := ⟨h.1, fun i hi => (h.2 i hi).is⟩
theorem AreReX.keep {X : Nat → Prop} {w w' : World} {bs : List Nat} {l : List RE} (h : AreReX X w bs l) (hw : ∀ k, k < w.heap.size → ¬ X k → w'.heap[k]? = w.heap[k]?) : AreReX X w' bs l := ⟨h.1, fun i hi => (h.2 i hi).keep hw⟩
theorem AreReX.mono {X Y : Nat → Prop} {w : World} {bs : List Nat} {l : List RE} (h : AreReX X w bs l) (hXY : ∀ k, k < w.heap.size → Y k → X k) : AreReX Y w bs l := ⟨h.1, fun i hi => (h.2 i hi).mono hXY⟩
theorem AreRe.avoid {X : Nat → Prop} {w : World} {bs : List Nat} {l : List RE} (h : AreRe w bs l) (hX : ∀ k, k < w.heap.size → ¬ X k) : AreReX X w bs l := ⟨h.1, fun i hi => (h.2 i hi).avoid hX⟩
theorem AreReX.nil {X : Nat → Prop} {w : World} : AreReX X w [] [] := ⟨rfl, fun i hi => absurd hi (by simp)⟩
theorem AreReX.append {X : Nat → Prop} {w : World} {bs bs' : List Nat} {l l' : List RE} (h : AreReX X w bs l) (h' : AreReX X w bs' l') : AreReX X w (bs ++ bs') (l ++ l') := by
  refine ⟨by simp [h.1, h'.1], fun i hi => ?_⟩
  by_cases hl : i < l.length
  · have := h.2 i hl
    have hb : i < bs.length := by rw [h.1]; exact hl
    simpa [List.getD, List.getElem?_append_left, hl, hb] using this
  · have hn : l.length ≤ i := by omega
    have hi' : i - l.length < l'.length := by simp at hi; omega
    have := h'.2 (i - l.length) hi'
    have hnb : bs.length ≤ i := by rw [h.1]; exact hn
    simpa [List.getD, List.getElem?_append_right, hn, hnb, h.1] using this
theorem AreReX.one {X : Nat → Prop} {w : World} {b : Nat} {r : RE} (h : IsReX X w b r) : AreReX X w [b] [r] := ⟨rfl, fun i hi => by
  obtain rfl : i = 0 := by simpa using hi
  simpa using h⟩
/-- a node whose kids are there -/
theorem IsReX.made {X : Nat → Prop} {w w' : World} {b o cap : Nat} {s : BS} {kp : Option Addr} {bs : List Nat} {ks : List RE} (hx : ¬ X b) (hb : w'.heap[b]? = some (.cells (nodeCells (RE.node o s ks) kp cap) 115 (0, 0)))
   (hr : PtrsAt w kp bs) (hy : TyAt w bs kp) (hrx : ∀ a : Addr, kp = some a → bs ≠ [] → ¬ X a.block) (hk : AreReX X w bs ks) (hB : Below w.heap.size w w') : IsReX X w' b (RE.node o s ks) :=
  .mk b _ kp cap bs hx hb hk.1 (hr.later (Nat.le_refl _) hB) (hy.later (Nat.le_refl _) hB) hrx (fun i hi => (hk.2 i hi).keep fun k hlt _ => hB.block k hlt)
theorem IsRe.made {w w' : World} {b o cap : Nat} {s : BS} {kp : Option Addr} {bs : List Nat} {ks : List RE} (hb : w'.heap[b]? = some (.cells (nodeCells (RE.node o s ks) kp cap) 115 (0, 0)))
   (hr : PtrsAt w kp bs) (hy : TyAt w bs kp) (hk : AreRe w bs ks) (hB : Below w.heap.size w w') : IsRe w' b (RE.node o s ks) :=
  .mk b _ kp cap bs hb hk.1 (hr.later (Nat.le_refl _) hB) (hy.later (Nat.le_refl _) hB) (fun i hi => (hk.2 i hi).later (Nat.le_refl _) hB)
/-- what is written into a block of another kind leaves an expression as it is -/
theorem IsRe.put {w w' : World} {b c : Nat} {r : RE} (h : IsRe w b r) {cs : Array Value} {t : TypeId} {fr : Nat × Nat} (hc : w.heap[c]? = some (.cells cs t fr)) (h1 : t ≠ 115) (h2 : t ≠ 37) (hw : ∀ k, k < w.heap.size → k ≠ c → w'.heap[k]? = w.heap[k]?) : IsRe w' b r := by
  induction h with
  | mk b r kp cap bs hb hl hr hy hk ih =>
    have hbc : b ≠ c := fun e => by
      subst e
      rw [hc] at hb
      have := Option.some.inj hb
      injection this with _ e2 _
      exact h1 e2
    have hkc : bs ≠ [] → ∀ a : Addr, kp = some a → w'.heap[a.block]? = w.heap[a.block]? := fun hne a ha => by
      obtain ⟨cur, fr', hcur⟩ := hy hne a ha
      refine hw _ (Array.getElem?_eq_some_iff.1 hcur).1 fun e => ?_
      rw [e, hc] at hcur
      have := Option.some.inj hcur
      injection this with _ e2 _
      exact h2 e2
    refine .mk b r kp cap bs ((hw b (Array.getElem?_eq_some_iff.1 hb).1 hbc).trans hb) hl ?_ (hy.keep hkc) ih
    rcases hr with h0 | ⟨kb, ko, hk', hcl⟩
    · exact .inl h0
    · by_cases hne : bs = []
      · exact .inl hne
      · exact .inr ⟨kb, ko, hk', fun i hi => by rw [World.cell?_of_block (w := w) (w' := w') (a := ⟨kb, ko + i, none⟩) (show w'.heap[kb]? = w.heap[kb]? from hkc hne _ hk')]; exact hcl i hi⟩
theorem IsReO.put {w w' : World} {v : Value} {o : Option RE} {c : Nat} (h : IsReO w v o) {cs : Array Value} {t : TypeId} {fr : Nat × Nat} (hc : w.heap[c]? = some (.cells cs t fr)) (h1 : t ≠ 115) (h2 : t ≠ 37) (hw : ∀ k, k < w.heap.size → k ≠ c → w'.heap[k]? = w.heap[k]?) : IsReO w' v o := by
  cases o with
  | none => exact h
  | some r => obtain ⟨b, e, hb⟩ := h; exact ⟨b, e, hb.put hc h1 h2 hw⟩
end Go.Proofs.YticpjjmacmmpjaaGreatDoor
