/-
  TextLevels: four lists that grow, each in a variable of its own; what is open below a level put together: walked through the program.
-/
import Derived.Test.YtpajpjocakhcdaaGreatDoorTlP
import Derived.Test.YtpajpjocakhcdaaGreatDoorTbG
import Derived.Test.YtpajpjocakhcdaaGreatDoorPsL
import Derived.Deep.DeepCutAuto
set_option linter.unusedSimpArgs false
set_option linter.unusedVariables false
set_option maxRecDepth 100000
set_option linter.unnecessarySimpa false
namespace Go.Proofs.YtpajpjocakhcdaaGreatDoor
open Go.RowKit
/-- a list of expressions in a slice: nil, or in a row of its own -/
inductive LstV (W : World) : Value → List (Option RE) → Option Nat → Prop
  | nil : LstV W (.slice none 0 0) [] none
  | row (g cap : Nat) (acc : List (Option RE)) (xs : List Value) (h : RowN W g acc.length cap xs) (hr : ∀ i, i < acc.length → IsReO W (xs.getD i undef) (acc.getD i none)) : LstV W (.slice (some ⟨g, 0, none⟩) acc.length cap) acc (some g)
theorem LstV.listO {W : World} {v : Value} {acc : List (Option RE)} {og : Option Nat} (h : LstV W v acc og) : ∃ kp cap, v = .slice kp acc.length cap ∧ ListO W kp acc := by
  cases h with
  | nil => exact ⟨none, 0, rfl, .inl rfl⟩
  | row g cap acc xs h hr => exact ⟨_, _, rfl, .inr ⟨g, 0, rfl, fun i hi => ⟨xs.getD i undef, by
      rw [Nat.zero_add]
      exact h.cell i _ (by rw [List.getD_eq_getElem?_getD, List.getElem?_eq_getElem (by rw [h.len]; exact hi)]; rfl), hr i hi⟩⟩⟩
theorem LstV.keep {W W' : World} {v : Value} {acc : List (Option RE)} {og : Option Nat} (h : LstV W v acc og) (hb : ∀ g, og = some g → W'.heap[g]? = W.heap[g]?) (hr : ∀ u o, IsReO W u o → IsReO W' u o) : LstV W' v acc og := by
  cases h with
  | nil => exact .nil
  | row g cap acc xs h hx => exact .row g cap acc xs (h.kept (hb g rfl)) fun i hi => hr _ _ (hx i hi)
theorem LstV.ty {W : World} {v : Value} {acc : List (Option RE)} {og : Option Nat} (h : LstV W v acc og) (g : Nat) (hg : og = some g) : ∃ cs, W.heap[g]? = some (.cells cs 39 (0, 0)) := by
  cases h with
  | nil => cases hg
  | row g' cap acc xs h hx => cases hg; exact ⟨_, h.row⟩
theorem elems_snoc {W' : World} {acc : List (Option RE)} {r : Option RE} {xs : List Value} {v : Value} (hl : xs.length = acc.length) (h : ∀ i, i < acc.length → IsReO W' (xs.getD i undef) (acc.getD i none)) (hr : IsReO W' v r) :
    ∀ i, i < (acc ++ [r]).length → IsReO W' ((xs ++ [v]).getD i undef) ((acc ++ [r]).getD i none) := fun i hi => by
  by_cases e : i < acc.length
  · have := h i e
    simpa [List.getD, List.getElem?_append_left e, List.getElem?_append_left (show i < xs.length by omega)] using this
  · obtain rfl : i = acc.length := by simp at hi; omega
    rw [← hl]
    simp only [List.getD, List.getElem?_append_right (Nat.le_refl _), Nat.sub_self]
    rw [hl]
    simpa [List.getD] using hr
theorem run_append_lst (W : World) (sv v : Value) (acc : List (Option RE)) (r : Option RE) (og : Option Nat) (B c : Nat) (h : LstV W sv acc og) (hr : IsReO W v r) (hs : W.cell? ⟨B, 0, none⟩ = some v) (hv : v.oneCell' = true) (hn : acc.length + 1 ≤ 1099511627776) (ty : TypeId) :
    ∃ sv' g' W', (Builtin.append_ #[61, 61] ty #[sv, .slice (some ⟨B, 0, none⟩) 1 c]).run Tryz.prog W = .ok sv' W' ∧
      LstV W' sv' (acc ++ [r]) (some g') ∧ W.grownBy W' og ∧ (og = some g' ∨ g' = W.heap.size) ∧ ∀ u o, IsReO W u o → IsReO W' u o := by
  cases h with
  | nil =>
    obtain ⟨i, hi, hz, hsz, hby⟩ := info_parts infoPtr
    have hnews : ∀ j u, [v][j]? = some u → W.cell? ((⟨B, 0, none⟩ : Addr).add j) = some u := fun j u hj => by
      match j, hj with
      | 0, hj => simp at hj; subst hj; simpa [addr_at] using hs
      | j + 1, hj => simp at hj
    have hrun := run_append_nil (P := Tryz.prog) (w := W) 61 ty 39 i (.pointer none) Tryz.underlying61 hi hz ⟨B, 0, none⟩ 1 c [v] (by rw [hsz]; rfl) hnews (by omega) (by omega) (by rw [hby]; omega)
    have hge := grownCap_ge W 1 0 39
    have hcm := grownCap_le_maxLen W 1 0 39 (by unfold maxLen; omega)
    have ecur : ([v].toArray ++ Builtin.zeroCells (Value.pointer none).cells (grownCap W 1 0 39 - 1)) = ([v] ++ List.replicate (grownCap W 1 0 39 - 1) (Value.pointer none)).toArray := by
      apply Array.ext'
      simp [zeroPtrs]
    rw [ecur] at hrun
    have hb : Below W.heap.size W (W.drew.alloc (.cells ([v] ++ List.replicate (grownCap W 1 0 39 - 1) (Value.pointer none)).toArray 39)) := ext_alloc (Below.refl _ _).drew _
    have hrow : RowN (W.drew.alloc (.cells ([v] ++ List.replicate (grownCap W 1 0 39 - 1) (Value.pointer none)).toArray 39)) W.heap.size 1 (grownCap W 1 0 39) [v] := ⟨heap_alloc_last W.drew _, rfl, hge, hcm⟩
    refine ⟨_, W.heap.size, _, hrun, ?_, ⟨hb.os, hb.tape, hb.output, hb.size, fun k hk _ => hb.block k hk⟩, .inr rfl, fun u o hu => hu.later hb⟩
    exact LstV.row W.heap.size _ [r] [v] hrow fun i hi => by
      obtain rfl : i = 0 := by simpa using hi
      exact hr.later hb
  | row g cap acc xs h hx =>
    obtain ⟨g', cap', W', hrun, h1, h2, h3, h4⟩ := run_append_ptr W g acc.length cap B c xs v h hs hv hn ty
    refine ⟨_, g', W', hrun, ?_, h2, by rcases h3 with e | e; · exact .inl (by rw [e])
                                        · exact .inr e, h4⟩
    have e : (acc ++ [r]).length = acc.length + 1 := by simp
    have := LstV.row (W := W') g' cap' (acc ++ [r]) (xs ++ [v]) (by rw [e]; exact h1) (elems_snoc h.len (fun i hi => h4 _ _ (hx i hi)) (h4 _ _ hr))
    rwa [e] at this
theorem LstV.form {W : World} {v : Value} {acc : List (Option RE)} {g : Nat} (h : LstV W v acc (some g)) : ∃ cap, v = .slice (some ⟨g, 0, none⟩) acc.length cap := by
  cases h with
  | row g cap acc xs h hr => exact ⟨cap, rfl⟩
theorem wpList_append_lst {W : World} {ops : Array Oper} {rest : List Oper} {o : Oper} {a : Act} {Q : Exit → Act → World → Prop} (hgd : o.guard = none) (s x : Operand)
    (ho : o.op = .call { callee := .builtin .append, args := #[s, x], argTypes := #[61, 61] }) (sv v : Value) (acc : List (Option RE)) (r : Option RE) (og : Option Nat) (B c : Nat)
    (hs : a.eval s = sv) (hx : a.eval x = .slice (some ⟨B, 0, none⟩) 1 c) (h : LstV W sv acc og) (hr : IsReO W v r) (hc : W.cell? ⟨B, 0, none⟩ = some v) (hv : v.oneCell' = true) (hn : acc.length + 1 ≤ 1099511627776)
    (hK : ∀ g' n' cap' W', LstV W' (.slice (some ⟨g', 0, none⟩) n' cap') (acc ++ [r]) (some g') → W.grownBy W' og → (og = some g' ∨ g' = W.heap.size) → (∀ u o, IsReO W u o → IsReO W' u o) → wpList Tryz.prog ops Q rest (a.put o.dst (.slice (some ⟨g', 0, none⟩) n' cap')) W') : wpList Tryz.prog ops Q (o :: rest) a W := by
  refine wpList_plain hgd fun K hK' => ?_
  obtain ⟨sv', g', W', hrun, h1, h2, h3, h4⟩ := run_append_lst W sv v acc r og B c h hr hc hv hn o.type
  unfold Oper.wp execOp
  simp only [ho, resolve, invoke, builtin, Sem.run_bind, Sem.run_pure, Result.andThen_ok, List.map_toArray, List.map_cons, List.map_nil, hs, hx, hrun]
  obtain ⟨cap', rfl⟩ := h1.form
  exact hK' _ _ (hK g' _ cap' W' h1 h2 h3 h4)
def upd {α : Type} (f : Nat → α) (k : Nat) (x : α) : Nat → α := fun j => if j = k then x else f j
theorem upd_at {α : Type} (f : Nat → α) (k : Nat) (x : α) : upd f k x k = x := if_pos rfl
theorem upd_ne {α : Type} (f : Nat → α) {j k : Nat} (x : α) (h : j ≠ k) : upd f k x j = f j := if_neg h
/-- four lists, each in a variable -/
structure LvAt (w : World) (b : Nat → Nat) (acc : Nat → List (Option RE)) (sv : Nat → Value) (og : Nat → Option Nat) (W : World) : Prop where
  bel : Below w.heap.size w W
  cell : ∀ k, k < 4 → W.heap[b k]? = some (.cells #[sv k] 61 (0, 0))
  lst : ∀ k, k < 4 → LstV W (sv k) (acc k) (og k)
  lo : ∀ k, k < 4 → w.heap.size ≤ b k ∧ ∀ g, og k = some g → w.heap.size ≤ g
  ne : ∀ j k, j < 4 → k < 4 → j ≠ k → b j ≠ b k ∧ ∀ g, og j = some g → og k ≠ some g
variable {w W W' : World} {b : Nat → Nat} {acc : Nat → List (Option RE)} {sv : Nat → Value} {og : Nat → Option Nat}
theorem LvAt.lt (h : LvAt w b acc sv og W) (k : Nat) (hk : k < 4) : b k < W.heap.size := (Array.getElem?_eq_some_iff.1 (h.cell k hk)).1
theorem LvAt.glt (h : LvAt w b acc sv og W) (k : Nat) (hk : k < 4) (g : Nat) (hg : og k = some g) : g < W.heap.size := by
  obtain ⟨cs, hc⟩ := (h.lst k hk).ty g hg
  exact (Array.getElem?_eq_some_iff.1 hc).1
theorem LvAt.get (h : LvAt w b acc sv og W) (k : Nat) (hk : k < 4) : W.cell? ⟨b k, 0, none⟩ = some (sv k) := by rw [cell_of_row _ _ _ _ _ _ (h.cell k hk)]; rfl
theorem LvAt.frz (h : LvAt w b acc sv og W) (k : Nat) (hk : k < 4) : W.frozen? ⟨b k, 0, none⟩ = false := frozen_of_row _ _ _ _ _ (h.cell k hk)
theorem LvAt.later (h : LvAt w b acc sv og W) (hb : Below W.heap.size W W') : LvAt w b acc sv og W' :=
  ⟨ext_step h.bel hb, fun k hk => (hb.block _ (h.lt k hk)).trans (h.cell k hk), fun k hk => (h.lst k hk).keep (fun g hg => hb.block _ (h.glt k hk g hg)) fun u o hu => hu.later hb, h.lo, h.ne⟩
theorem LvAt.gb (h : LvAt w b acc sv og W) (j k : Nat) (hj : j < 4) (hk : k < 4) (g : Nat) (hg : og j = some g) : g ≠ b k := fun e => by
  obtain ⟨cs, hc⟩ := (h.lst j hj).ty g hg
  rw [e, h.cell k hk] at hc
  have := Option.some.inj hc
  injection this with _ e2 _
  exact absurd e2 (by decide)
theorem reO_putS {W : World} {c j : Nat} {cs : Array Value} {x : Value} (h : W.heap[c]? = some (.cells cs 61 (0, 0))) {u : Value} {o : Option RE} (hu : IsReO W u o) : IsReO (W.setCell ⟨c, j, none⟩ x) u o :=
  hu.put h (by decide) (by decide) fun k _ hk => Below.heap_setCell _ _ _ _ hk
/-- a list is laid down empty -/
theorem LvAt.reset (h : LvAt w b acc sv og W) (k : Nat) (hk : k < 4) : LvAt w b (upd acc k []) (upd sv k (.slice none 0 0)) (upd og k none) (W.setCell ⟨b k, 0, none⟩ (.slice none 0 0)) := by
  have hlo := (h.lo k hk).1
  refine ⟨h.bel.setCell (by show w.heap.size ≤ b k; exact hlo) _, fun j hj => ?_, fun j hj => ?_, fun j hj => ⟨(h.lo j hj).1, fun g hg => ?_⟩, fun i j hi hj hij => ⟨(h.ne i j hi hj hij).1, fun g hg => ?_⟩⟩
  · by_cases e : j = k
    · subst e
      rw [upd_at, heap_setCell_same _ _ _ _ _ _ (h.cell j hj)]; rfl
    · rw [upd_ne _ _ e, Below.heap_setCell _ _ _ _ (by show b j ≠ b k; exact (h.ne j k hj hk e).1)]; exact h.cell j hj
  · by_cases e : j = k
    · subst e
      rw [upd_at, upd_at, upd_at]; exact .nil
    · rw [upd_ne _ _ e, upd_ne _ _ e, upd_ne _ _ e]
      exact (h.lst j hj).keep (fun g hg => Below.heap_setCell _ _ _ _ (by show g ≠ b k; exact h.gb j k hj hk g hg)) fun u o hu => reO_putS (h.cell k hk) hu
  · by_cases e : j = k
    · rw [e, upd_at] at hg; cases hg
    · rw [upd_ne _ _ e] at hg; exact (h.lo j hj).2 g hg
  · by_cases e : i = k
    · rw [e, upd_at] at hg; cases hg
    · rw [upd_ne _ _ e] at hg
      by_cases e2 : j = k
      · rw [e2, upd_at]; simp
      · rw [upd_ne _ _ e2]; exact (h.ne i j hi hj hij).2 g hg
/-- one is appended to a list -/
theorem LvAt.app {sv' : Value} {g' : Nat} {r : Option RE} (h : LvAt w b acc sv og W) (k : Nat) (hk : k < 4) (h1 : LstV W' sv' (acc k ++ [r]) (some g')) (h2 : W.grownBy W' (og k)) (h3 : og k = some g' ∨ g' = W.heap.size) (h4 : ∀ u o, IsReO W u o → IsReO W' u o) :
    LvAt w b (upd acc k (acc k ++ [r])) (upd sv k sv') (upd og k (some g')) (W'.setCell ⟨b k, 0, none⟩ sv') := by
  have hlo := (h.lo k hk).1
  have hkeep : ∀ c, c < W.heap.size → (∀ g, og k = some g → c ≠ g) → W'.heap[c]? = W.heap[c]? := fun c hc hne => h2.block c hc fun e => by first | exact hne c e rfl | exact hne c e.symm rfl
  have hcell : ∀ j, j < 4 → W'.heap[b j]? = some (.cells #[sv j] 61 (0, 0)) := fun j hj => (hkeep _ (h.lt j hj) fun g hg e => h.gb k j hk hj g hg e.symm).trans (h.cell j hj)
  have hW' : Below w.heap.size w W' := h.bel.grown h2 h.bel.size fun g hg => (h.lo k hk).2 g hg
  have hg'lo : w.heap.size ≤ g' := by
    rcases h3 with e | e
    · exact (h.lo k hk).2 g' e
    · have := h.bel.size; omega
  have hg'ne : ∀ j, j < 4 → j ≠ k → og j ≠ some g' := fun j hj hjk e => by
    rcases h3 with e3 | e3
    · exact (h.ne j k hj hk hjk).2 g' e e3
    · have := h.glt j hj g' e; omega
  have hg'b : g' ≠ b k := fun e => by
    obtain ⟨cs, hc⟩ := h1.ty g' rfl
    rw [e, hcell k hk] at hc
    have := Option.some.inj hc
    injection this with _ e2 _
    exact absurd e2 (by decide)
  refine ⟨hW'.setCell (by show w.heap.size ≤ b k; exact hlo) _, fun j hj => ?_, fun j hj => ?_, fun j hj => ⟨(h.lo j hj).1, fun g hg => ?_⟩, fun i j hi hj hij => ⟨(h.ne i j hi hj hij).1, fun g hg => ?_⟩⟩
  · by_cases e : j = k
    · subst e
      rw [upd_at, heap_setCell_same _ _ _ _ _ _ (hcell j hj)]; rfl
    · rw [upd_ne _ _ e, Below.heap_setCell _ _ _ _ (by show b j ≠ b k; exact (h.ne j k hj hk e).1)]; exact hcell j hj
  · by_cases e : j = k
    · subst e
      rw [upd_at, upd_at, upd_at]
      exact h1.keep (fun g hg => Below.heap_setCell _ _ _ _ (by cases hg; exact hg'b)) fun u o hu => reO_putS (hcell j hj) hu
    · rw [upd_ne _ _ e, upd_ne _ _ e, upd_ne _ _ e]
      refine (h.lst j hj).keep (fun g hg => ?_) fun u o hu => reO_putS (hcell k hk) (h4 u o hu)
      rw [Below.heap_setCell _ _ _ _ (by show g ≠ b k; exact h.gb j k hj hk g hg)]
      exact hkeep g (h.glt j hj g hg) fun g2 hg2 e2 => (h.ne j k hj hk e).2 g hg (by rw [e2]; exact hg2)
  · by_cases e : j = k
    · rw [e, upd_at] at hg; cases hg; exact hg'lo
    · rw [upd_ne _ _ e] at hg; exact (h.lo j hj).2 g hg
  · by_cases e : i = k
    · rw [e, upd_at] at hg
      cases hg
      rw [upd_ne _ _ (by omega)]
      exact hg'ne j hj (by omega)
    · rw [upd_ne _ _ e] at hg
      by_cases e2 : j = k
      · rw [e2, upd_at]
        intro e3
        cases e3
        exact hg'ne i hi e hg
      · rw [upd_ne _ _ e2]; exact (h.ne i j hi hj hij).2 g hg
theorem LvAt.ext {acc' : Nat → List (Option RE)} (h : LvAt w b acc sv og W) (e : ∀ k, k < 4 → acc k = acc' k) : LvAt w b acc' sv og W := ⟨h.bel, h.cell, fun k hk => e k hk ▸ h.lst k hk, h.lo, h.ne⟩
/-- what is open, by number -/
def accV (v : TL.V) : Nat → List (Option RE) := fun j => if j = 0 then PS.vals v.C else if j = 1 then PS.vals v.A else if j = 2 then PS.vals v.M else PS.vals v.O
end Go.Proofs.YtpajpjocakhcdaaGreatDoor
