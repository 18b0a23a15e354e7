/-
  'SetOps', walked through the program: for whatever two sets the statement's function returns true, and nothing that lay has turned; the library's table is read as its initialiser lays it.
-/
import Derived.Test.YtampjjllpdljaaaDoorSetTP
import Derived.Test.YtampjjllpdljaaaDoorSetH
import Derived.Test.YtampjjllpdljaaaDoorSetB
import Derived.Test.YtampjjllpdljaaaDoorBut
set_option linter.unusedSimpArgs false
set_option linter.unusedVariables false
set_option maxRecDepth 100000
namespace Go.Proofs.YtampjjllpdljaaaDoor
open Go.RowKit

/-- a row of the call's own in the making: k of its 256 yes or no are laid -/
def Row (W : World) (b : Nat) (f : Nat → Bool) (k : Nat) : Prop := ∀ i, i < 256 → W.cell? ⟨b, i, none⟩ = some (.bool (decide (i < k) && f i)) ∧ W.frozen? ⟨b, i, none⟩ = false
theorem Row.put {W : World} {b : Nat} {f : Nat → Bool} {k : Nat} (h : Row W b f k) (hk : k < 256) {v : Bool} (hv : v = f k) : Row (W.setCell ⟨b, k, none⟩ (.bool v)) b f (k + 1) := fun i hi => by
  obtain ⟨h1, h2⟩ := h i hi
  refine ⟨?_, by rw [World.frozen?_setCell]; exact h2⟩
  by_cases e : i = k
  · subst e
    rw [World.cell?_setCell_same' _ _ _ (by rw [h1]; rfl), hv]; simp
  · rw [World.cell?_setCell_other _ _ _ _ (by simp <;> omega), h1]
    have : (i < k) ↔ (i < k + 1) := by omega
    simp [this]
theorem Row.other {W : World} {b c j : Nat} {f : Nat → Bool} {k : Nat} (h : Row W b f k) (hne : b ≠ c) (v : Value) : Row (W.setCell ⟨c, j, none⟩ v) b f k := fun i hi => by
  obtain ⟨h1, h2⟩ := h i hi
  exact ⟨by rw [World.cell?_setCell_other _ _ _ _ (by simp <;> omega)]; exact h1, by rw [World.frozen?_setCell]; exact h2⟩
theorem Row.later {W W' : World} {b : Nat} {f : Nat → Bool} {k : Nat} (h : Row W b f k) (hb : Below W.heap.size W W') : Row W' b f k := fun i hi => by
  obtain ⟨h1, h2⟩ := h i hi
  have hl := World.block_lt_of_cell? W _ h1
  exact ⟨by rw [hb.cell (p := ⟨b, i, none⟩) hl]; exact h1, by rw [hb.frozen (p := ⟨b, i, none⟩) hl]; exact h2⟩
theorem Row.new (W : World) (f : Nat → Bool) : Row (W.alloc (.cells (rowB (fun _ => false) 0) 4)) W.heap.size f 0 := fun i hi => by
  refine ⟨?_, by simp [go_sem]⟩
  have := World.cell?_alloc_new W (rowB (fun _ => false) 0) 4 i
  rw [this, rowB_get _ _ _ hi]; simp
/-- two boxes beside one another -/
structure Box2 (n : Nat) (s t : BS) (w : World) : Prop where
  x : BoxS w n s
  y : BoxS w (n + 1) t
  lt : n + 1 < w.heap.size
theorem Box2.later {n : Nat} {s t : BS} {w w1 : World} (h : Box2 n s t w) (hb : Below w.heap.size w w1) : Box2 n s t w1 :=
  ⟨h.x.later hb (by have := h.lt; omega), h.y.later hb h.lt, by have := h.lt; have := hb.size; omega⟩
theorem Box2.drew {n : Nat} {s t : BS} {w : World} (h : Box2 n s t w) : Box2 n s t w.drew := ⟨h.x, h.y, h.lt⟩
theorem Box2.conj {n : Nat} {s t : BS} {w : World} (h : Box2 n s t w) : w.cell? ⟨n, 0, none⟩ = some (.int .u64 (wN s.a)) ∧ w.cell? ⟨n, 1, none⟩ = some (.int .u64 (wN s.b)) ∧ w.cell? ⟨n, 2, none⟩ = some (.int .u64 (wN s.c)) ∧ w.cell? ⟨n, 3, none⟩ = some (.int .u64 (wN s.d)) ∧ w.cell? ⟨n + 1, 0, none⟩ = some (.int .u64 (wN t.a)) ∧ w.cell? ⟨n + 1, 1, none⟩ = some (.int .u64 (wN t.b)) ∧ w.cell? ⟨n + 1, 2, none⟩ = some (.int .u64 (wN t.c)) ∧ w.cell? ⟨n + 1, 3, none⟩ = some (.int .u64 (wN t.d)) :=
  ⟨h.x.1, h.x.2.1, h.x.2.2.1, h.x.2.2.2, h.y.1, h.y.2.1, h.y.2.2.1, h.y.2.2.2⟩
/-- the six rows that the statement's last line looks at -/
structure Rows6 (s t : BS) (g g' z : Nat) (w : World) : Prop where
  r1 : HoldsB w (.slice (some ⟨g, 0, none⟩) 256 256) s.has
  r2 : HoldsB w (.slice (some ⟨g', 0, none⟩) 256 256) t.has
  r3 : HoldsB w (.slice (some ⟨z, 0, none⟩) 256 256) (fun i => s.has i && t.has i)
  r4 : HoldsB w (.slice (some ⟨z + 1, 0, none⟩) 256 256) (fun i => s.has i || t.has i)
  r5 : HoldsB w (.slice (some ⟨z + 1 + 1, 0, none⟩) 256 256) (fun i => s.has i && !t.has i)
  r6 : HoldsB w (.slice (some ⟨z + 1 + 1 + 1, 0, none⟩) 256 256) (fun i => !s.has i)
theorem Rows6.later {s t : BS} {g g' z : Nat} {w w1 : World} (h : Rows6 s t g g' z w) (hb : Below w.heap.size w w1) : Rows6 s t g g' z w1 :=
  ⟨h.r1.later hb, h.r2.later hb, h.r3.later hb, h.r4.later hb, h.r5.later hb, h.r6.later hb⟩
theorem eqv_self (s : BS) : s.eqv s.has = true := (s.eqv_iff _).2 fun _ _ => rfl
theorem eqv_and (s t : BS) : (s.and t).eqv (fun i => s.has i && t.has i) = true := (BS.eqv_iff _ _).2 fun i _ => BS.has_and s t i
theorem eqv_or (s t : BS) : (s.or t).eqv (fun i => s.has i || t.has i) = true := (BS.eqv_iff _ _).2 fun i _ => BS.has_or s t i
theorem eqv_minus (s t : BS) : (s.minus t).eqv (fun i => s.has i && !t.has i) = true := (BS.eqv_iff _ _).2 fun i _ => BS.has_minus s t i
theorem eqv_not (s : BS) : s.not.eqv (fun i => !s.has i) = true := (BS.eqv_iff _ _).2 fun i _ => BS.has_not s i
theorem eqv_and' (a0 a1 a2 a3 b0 b1 b2 b3 : BitVec 64) : BS.eqv ⟨a0 &&& b0, a1 &&& b1, a2 &&& b2, a3 &&& b3⟩ (fun i => (⟨a0, a1, a2, a3⟩ : BS).has i && (⟨b0, b1, b2, b3⟩ : BS).has i) = true := eqv_and ⟨a0, a1, a2, a3⟩ ⟨b0, b1, b2, b3⟩
theorem eqv_or' (a0 a1 a2 a3 b0 b1 b2 b3 : BitVec 64) : BS.eqv ⟨a0 ||| b0, a1 ||| b1, a2 ||| b2, a3 ||| b3⟩ (fun i => (⟨a0, a1, a2, a3⟩ : BS).has i || (⟨b0, b1, b2, b3⟩ : BS).has i) = true := eqv_or ⟨a0, a1, a2, a3⟩ ⟨b0, b1, b2, b3⟩
theorem eqv_minus' (a0 a1 a2 a3 b0 b1 b2 b3 : BitVec 64) : BS.eqv ⟨a0 &&& ~~~b0, a1 &&& ~~~b1, a2 &&& ~~~b2, a3 &&& ~~~b3⟩ (fun i => (⟨a0, a1, a2, a3⟩ : BS).has i && !(⟨b0, b1, b2, b3⟩ : BS).has i) = true := eqv_minus ⟨a0, a1, a2, a3⟩ ⟨b0, b1, b2, b3⟩
theorem eqv_not' (a0 a1 a2 a3 : BitVec 64) : BS.eqv ⟨~~~a0, ~~~a1, ~~~a2, ~~~a3⟩ (fun i => !(⟨a0, a1, a2, a3⟩ : BS).has i) = true := eqv_not ⟨a0, a1, a2, a3⟩
/-- between two rounds -/
def OpsAt (s t : BS) (W2 : World) (n l b : Value) (wr : World) : Prop :=
  ∃ k : Nat, k ≤ 256 ∧ b = .int .i64 k ∧ n = .int .i64 (cntTo s k : Nat) ∧ l = .int .i64 (lstTo s k) ∧ Below W2.heap.size W2 wr ∧
    Row wr W2.heap.size (fun i => s.has i && t.has i) k ∧ Row wr (W2.heap.size + 1) (fun i => s.has i || t.has i) k ∧ Row wr (W2.heap.size + 1 + 1) (fun i => s.has i && !t.has i) k ∧ Row wr (W2.heap.size + 1 + 1 + 1) (fun i => !s.has i) k
end Go.Proofs.YtampjjllpdljaaaDoor
