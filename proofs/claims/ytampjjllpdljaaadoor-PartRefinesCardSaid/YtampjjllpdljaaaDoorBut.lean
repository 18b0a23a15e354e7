/-
  A world that is another one but for some blocks: what was not named lies as it lay. And the way out of a function that held loops over iterators.
-/
import Derived.Test.YtampjjllpdljaaaDoorSetP
import Derived.RangeFuncNested
import Derived.RangeFuncBound
import Derived.RangeFuncCalls
import Derived.RangeFuncLeaves
import Derived.RangeFuncFrom
set_option linter.unusedSimpArgs false
set_option linter.unusedVariables false
set_option maxRecDepth 100000
namespace Go.Proofs.YtampjjllpdljaaaDoor
open Go.RowKit

/-- w' is w, grown, but for the blocks in M -/
structure But (M : List Nat) (w w' : World) : Prop where
  os : w'.os = w.os
  tape : w'.tape = w.tape
  output : w'.output = w.output
  size : w.heap.size ≤ w'.heap.size
  block : ∀ k, k < w.heap.size → k ∉ M → w'.heap[k]? = w.heap[k]?
theorem But.refl (M : List Nat) (w : World) : But M w w := ⟨rfl, rfl, rfl, Nat.le_refl _, fun _ _ _ => rfl⟩
theorem But.below {M : List Nat} {w W W' : World} (h : But M w W) (hb : Below W.heap.size W W') : But M w W' :=
  ⟨hb.os.trans h.os, hb.tape.trans h.tape, hb.output.trans h.output, Nat.le_trans h.size hb.size, fun k hk hm => (hb.block k (by have := h.size; omega)).trans (h.block k hk hm)⟩
theorem But.alloc {M : List Nat} {w W : World} (h : But M w W) (o : Obj) : But M w (W.alloc o) := h.below (ext_alloc (Below.refl _ W) o)
theorem But.drew {M : List Nat} {w W : World} (h : But M w W) : But M w W.drew := ⟨h.os, h.tape, h.output, h.size, h.block⟩
theorem But.drewN {M : List Nat} {w W : World} (h : But M w W) (n : Nat) : But M w (W.drewN n) := ⟨h.os, h.tape, h.output, h.size, h.block⟩
theorem But.setCell {M : List Nat} {w W : World} (h : But M w W) {p : Addr} (hp : p.block ∈ M ∨ w.heap.size ≤ p.block) (v : Value) : But M w (W.setCell p v) :=
  ⟨h.os, h.tape, h.output, by have := h.size; simp; omega, fun k hk hm => (Below.heap_setCell _ _ _ _ (fun e => by subst e; rcases hp with hp | hp; exact hm hp; omega)).trans (h.block k hk hm)⟩
theorem But.grown {M : List Nat} {w W W' : World} {row : Option Nat} (h : But M w W) (hg : W.grownBy W' row) (hr : ∀ r, row = some r → w.heap.size ≤ r) : But M w W' :=
  ⟨hg.os.trans h.os, hg.tape.trans h.tape, hg.output.trans h.output, Nat.le_trans h.size hg.size, fun k hk hm => (hg.block k (by have := h.size; omega) (fun e => by have := hr k e.symm; omega)).trans (h.block k hk hm)⟩
theorem But.cell {M : List Nat} {w W : World} (h : But M w W) {p : Addr} (hp : p.block < w.heap.size) (hm : p.block ∉ M) : W.cell? p = w.cell? p := World.cell?_of_block (w := w) (h.block p.block hp hm)
theorem But.frozen {M : List Nat} {w W : World} (h : But M w W) {p : Addr} (hp : p.block < w.heap.size) (hm : p.block ∉ M) : W.frozen? p = w.frozen? p := World.frozen?_of_block (w := w) (h.block p.block hp hm)
/-- what was named is younger than a: of a nothing has turned -/
theorem But.to_below {M : List Nat} {a w W : World} (h : But M w W) (ha : Below a.heap.size a w) (hm : ∀ k ∈ M, a.heap.size ≤ k) : Below a.heap.size a W :=
  ⟨h.os.trans ha.os, h.tape.trans ha.tape, h.output.trans ha.output, Nat.le_trans ha.size h.size, fun k hk => (h.block k (by have := ha.size; omega) (fun e => by have := hm k e; omega)).trans (ha.block k hk)⟩
theorem ownFrom_but {β : Type} {M : List Nat} {w : World} {B : Nat} (hB : w.heap.size ≤ B) : OwnFrom B (fun (_ : β) W => But M w W) :=
  fun _ _ _ _ hs hg hr => hs.grown hg (fun r e => by have := (hr r e).1; omega)
theorem ownFrom_block {β : Type} {B k : Nat} {o : Obj} (hk : k < B) : OwnFrom B (fun (_ : β) W => W.heap[k]? = some o) :=
  fun _ _ _ row hs hg hr => (hg.block k (Array.getElem?_eq_some_iff.1 hs).1 (fun e => by have := (hr k e.symm).1; omega)).trans hs
/-- the word for a block that holds no calls -/
def Mark (W : World) (D : Nat) : Prop := W.heap[D]? = some (.deferred (some []))
theorem Mark.put {W : World} {D : Nat} (h : Mark W D) (a : Addr) (v : Value) : Mark (W.setCell a v) D := (KeepsOthers.setCell W a v).same D _ h rfl
theorem Mark.alloc {W : World} {D : Nat} (h : Mark W D) (o : Obj) : Mark (W.alloc o) D := (KeepsOthers.alloc W o).same D _ h rfl
theorem Mark.later {W W' : World} {D : Nat} (h : Mark W D) (hb : Below W.heap.size W W') : Mark W' D := (hb.block D (Array.getElem?_eq_some_iff.1 h).1).trans h
theorem ownFrom_mark {β : Type} {B D : Nat} (hk : D < B) : OwnFrom B (fun (_ : β) W => Mark W D) := ownFrom_block hk
/-- the way out past the marks -/
theorem leaves_marks {P : Program} {F : Fence} {n : Nat} {fn : Func} {tmps : Array Value} {R : Ending → World → Prop} (B : Nat) : ∀ (Ds : List Nat) (W : World), Ds.Nodup → (∀ D ∈ Ds, B ≤ D ∧ Mark W D) → B ≤ W.heap.size →
    (∀ W', (∀ a v, W.cell? a = some v → W'.cell? a = some v) → Below B W W' → ∃ v, (results fn tmps).run P W' = .ok v W' ∧ R (.returned v) W') →
    LeavesInM F n P fn tmps R (Ds.map fun D => { target := .collected D, args := #[] }) .returning W
  | [], W, _, _, _, h => h W (fun _ _ h => h) (Below.refl _ _)
  | D :: Ds, W, hn, hm, hB, h => by
    obtain ⟨hBD, hD⟩ := hm D (by simp)
    obtain ⟨hnd, hn'⟩ := List.nodup_cons.1 hn
    refine ⟨by simp, .inl ⟨D, _, rfl, run_takeDeferred hD, ?_⟩⟩
    refine leaves_marks B Ds _ hn' (fun E hE => ⟨(hm E (by simp [hE])).1, ?_⟩) (by simp; omega) fun W' hc hb => ?_
    · exact (World.putObj_heap_other (fun e => hnd (by rw [← e]; exact hE))).trans (hm E (by simp [hE])).2
    · refine h W' (fun a v ha => hc a v (cell_kept ha (grownBy_putObj' _ D (.deferred none)) (fun r e => by cases e; exact ⟨_, hD, rfl⟩))) ?_
      exact ((Below.refl B W).grown (grownBy_putObj' W D _) hB (fun k e => by cases e; exact hBD)).trans hb
end Go.Proofs.YtampjjllpdljaaaDoor
