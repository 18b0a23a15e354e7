/-
  A list of pointers to expressions, some nil, that grows by one: what lies behind its end is nil, so that no expression leans on it.
-/
import Derived.Test.YticpjjmacmmpjaaGreatDoorPsP
import Derived.Laws.AppendOwn
import Derived.Laws.OwnMore
set_option linter.unusedSimpArgs false
set_option linter.unusedVariables false
set_option maxRecDepth 100000
set_option linter.unnecessarySimpa false
namespace Go.Proofs.YticpjjmacmmpjaaGreatDoor
open Go.RowKit
/-- the row of a list of one's own: behind its end there is nil -/
structure RowN (W : World) (g n cap : Nat) (xs : List Value) : Prop where
  row : W.heap[g]? = some (.cells (xs ++ List.replicate (cap - n) (Value.pointer none)).toArray 37 (0, 0))
  len : xs.length = n
  le : n ≤ cap
  mx : cap ≤ maxLen
theorem RowN.cell {W : World} {g n cap : Nat} {xs : List Value} (h : RowN W g n cap xs) (j : Nat) (u : Value) (hj : xs[j]? = some u) : W.cell? ⟨g, j, none⟩ = some u := by
  rw [cell_of_row _ _ _ _ _ _ h.row]
  have hlt : j < xs.length := (List.getElem?_eq_some_iff.1 hj).1
  simp [List.getElem?_append_left hlt, hj]
theorem RowN.kept {W W' : World} {g n cap : Nat} {xs : List Value} (h : RowN W g n cap xs) (hb : W'.heap[g]? = W.heap[g]?) : RowN W' g n cap xs := ⟨hb.trans h.row, h.len, h.le, h.mx⟩
/-- what is written where nil stood leaves an expression as it is -/
theorem IsRe.spare {W W' : World} {b g : Nat} {r : RE} {cur cur' : Array Value} {fr fr' : Nat × Nat} (h : IsRe W b r) (hg : W.heap[g]? = some (.cells cur 37 fr)) (hg' : W'.heap[g]? = some (.cells cur' 37 fr'))
    (hs : ∀ (k c : Nat), cur[k]? = some (ptr c) → cur'[k]? = some (ptr c)) (ho : ∀ k, k < W.heap.size → k ≠ g → W'.heap[k]? = W.heap[k]?) : IsRe W' b r := by
  induction h with
  | mk b r kp cap bs hb hl hr hy hk ih =>
    have hbg : b ≠ g := fun e => by
      subst e
      rw [hg] at hb
      have := Option.some.inj hb
      injection this with _ e2 _
      exact absurd e2 (by decide)
    refine .mk b r kp cap bs ((ho b (Array.getElem?_eq_some_iff.1 hb).1 hbg).trans hb) hl ?_ (fun hne a ha => ?_) ih
    · rcases hr with h0 | ⟨kb, ko, hk', hc⟩
      · exact .inl h0
      · refine .inr ⟨kb, ko, hk', fun i hi => ?_⟩
        have h1 := hc i hi
        by_cases e : kb = g
        · subst e
          rw [cell_of_row _ _ _ _ _ _ hg] at h1
          rw [cell_of_row _ _ _ _ _ _ hg']
          exact hs _ _ h1
        · rw [World.cell?_of_block (w := W) (w' := W') (a := ⟨kb, ko + i, none⟩) (ho kb (World.block_lt_of_cell? W _ h1) e)]; exact h1
    · obtain ⟨c2, f2, h2⟩ := hy hne a ha
      by_cases e : a.block = g
      · rw [e]; exact ⟨_, _, hg'⟩
      · exact ⟨c2, f2, (ho _ (Array.getElem?_eq_some_iff.1 h2).1 e).trans h2⟩
theorem IsReO.spare {W W' : World} {g : Nat} {v : Value} {o : Option RE} {cur cur' : Array Value} {fr fr' : Nat × Nat} (h : IsReO W v o) (hg : W.heap[g]? = some (.cells cur 37 fr)) (hg' : W'.heap[g]? = some (.cells cur' 37 fr'))
    (hs : ∀ (k c : Nat), cur[k]? = some (ptr c) → cur'[k]? = some (ptr c)) (ho : ∀ k, k < W.heap.size → k ≠ g → W'.heap[k]? = W.heap[k]?) : IsReO W' v o := by
  cases o with
  | none => exact h
  | some r => obtain ⟨b, h1, h2⟩ := h; exact ⟨b, h1, h2.spare hg hg' hs ho⟩
theorem zeroPtrs (n : Nat) : (Builtin.zeroCells (Value.pointer none).cells n).toList = List.replicate n (Value.pointer none) := by
  simp [Builtin.zeroCells, Value.cells, Nat.mod_one, List.map_const']
/-- one is appended -/
theorem run_append_ptr (W : World) (g n cap B c : Nat) (xs : List Value) (v : Value) (h : RowN W g n cap xs) (hs : W.cell? ⟨B, 0, none⟩ = some v) (hv : v.oneCell' = true) (hn : n + 1 ≤ 1099511627776) (ty : TypeId) :
    ∃ g' cap' W', (Builtin.append_ #[113, 113] ty #[.slice (some ⟨g, 0, none⟩) n cap, .slice (some ⟨B, 0, none⟩) 1 c]).run Tryz.prog W = .ok (.slice (some ⟨g', 0, none⟩) (n + 1) cap') W' ∧
      RowN W' g' (n + 1) cap' (xs ++ [v]) ∧ W.grownBy W' (some g) ∧ (g' = g ∨ g' = W.heap.size) ∧ ∀ u o, IsReO W u o → IsReO W' u o := by
  obtain ⟨i, hi, hz, hsz, hby⟩ := info_parts infoPtr
  have hnews : ∀ j u, [v][j]? = some u → W.cell? ((⟨B, 0, none⟩ : Addr).add j) = some u := fun j u hj => by
    match j, hj with
    | 0, hj => simp at hj; subst hj; simpa [addr_at] using hs
    | j + 1, hj => simp at hj
  have h1 : ∀ u ∈ [v], u.oneCell' = true := fun u hu => by simp at hu; rw [hu]; exact hv
  have hmx : maxLen = 9223372036854775807 := rfl
  by_cases hroom : n + 1 ≤ cap
  · have hcs : (xs ++ List.replicate (cap - n) (Value.pointer none)).toArray.size = cap := by simp [h.len]; have := h.le; omega
    have hr := run_append_room (P := Tryz.prog) W 113 ty 37 i Tryz.underlying113 hi g n cap _ h.row ⟨B, 0, none⟩ 1 c [v] (by rw [hsz]; rfl) hnews h1 hroom (by rw [hsz, hcs]; simpa using hroom)
    have ecur : ((xs ++ List.replicate (cap - n) (Value.pointer none)).toArray.toList.take (n * i.size) ++ [v] ++ (xs ++ List.replicate (cap - n) (Value.pointer none)).toArray.toList.drop (n * i.size + [v].length)) = (xs ++ [v]) ++ List.replicate (cap - (n + 1)) (Value.pointer none) := by
      rw [hsz, Nat.mul_one]
      have e1 : (xs ++ List.replicate (cap - n) (Value.pointer none)).take n = xs := by rw [← h.len]; exact List.take_left
      have e2 : (xs ++ List.replicate (cap - n) (Value.pointer none)).drop (n + 1) = List.replicate (cap - (n + 1)) (Value.pointer none) := by
        rw [List.drop_append, List.drop_eq_nil_of_le (by rw [h.len]; omega), List.nil_append, h.len, List.drop_replicate]
        congr 1; omega
      simp only [List.length_singleton]
      rw [e1, e2]
    rw [ecur] at hr
    have hrow' := setRow_heap W g _ ((xs ++ [v]) ++ List.replicate (cap - (n + 1)) (Value.pointer none)).toArray _ (0, 0) h.row
    refine ⟨g, cap, _, hr, ⟨hrow', by simp [h.len], hroom, h.mx⟩, ⟨rfl, rfl, rfl, by simp, fun k _ hk => setRow_other W g k _ (fun e => hk (by rw [e]))⟩, .inl rfl, fun u o hu => ?_⟩
    refine hu.spare h.row hrow' (fun k b hk => ?_) fun k _ hk => setRow_other W g k _ (fun e => hk e)
    have hk' : (xs ++ List.replicate (cap - n) (Value.pointer none))[k]? = some (ptr b) := by simpa using hk
    have hlt : k < xs.length := by
      apply Classical.byContradiction
      intro hge
      rw [List.getElem?_append_right (by omega), List.getElem?_replicate] at hk'
      split at hk' <;> simp at hk'
    rw [List.getElem?_append_left hlt] at hk'
    have : ((xs ++ [v]) ++ List.replicate (cap - (n + 1)) (Value.pointer none))[k]? = some (ptr b) := by
      rw [List.getElem?_append_left (by simp; omega), List.getElem?_append_left hlt]; exact hk'
    simpa using this
  · have holds : ∀ j u, xs[j]? = some u → W.cell? ((⟨g, 0, none⟩ : Addr).add j) = some u := fun j u hj => by rw [addr_at, Nat.zero_add]; exact h.cell j u hj
    have hr := run_append_grow (P := Tryz.prog) W 113 ty 37 i (.pointer none) Tryz.underlying113 hi hz ⟨g, 0, none⟩ n cap xs (by rw [hsz, h.len]; omega) holds ⟨B, 0, none⟩ 1 c [v] (by rw [hsz]; rfl) hnews (by omega) (by omega) (growslice_fits (by omega) (by rw [hby]; omega))
    have hge := grownCap_ge W (n + 1) cap 37
    have hcm := grownCap_le_maxLen W (n + 1) cap 37 (by rw [hmx]; omega)
    have ecur : (xs.toArray ++ [v].toArray ++ Builtin.zeroCells (Value.pointer none).cells (grownCap W (n + 1) cap 37 - (n + 1))) = ((xs ++ [v]) ++ List.replicate (grownCap W (n + 1) cap 37 - (n + 1)) (Value.pointer none)).toArray := by
      apply Array.ext'
      simp [zeroPtrs]
    rw [ecur] at hr
    have hb : Below W.heap.size W (W.drew.alloc (.cells ((xs ++ [v]) ++ List.replicate (grownCap W (n + 1) cap 37 - (n + 1)) (Value.pointer none)).toArray 37)) := ext_alloc (Below.refl _ _).drew _
    exact ⟨_, _, _, hr, ⟨heap_alloc_last W.drew _, by simp [h.len], hge, hcm⟩, ⟨hb.os, hb.tape, hb.output, hb.size, fun k hk _ => hb.block k hk⟩, .inr rfl, fun u o hu => hu.later hb⟩
theorem wpList_append_ptr {W : World} {ops : Array Oper} {rest : List Oper} {o : Oper} {a : Act} {Q : Exit → Act → World → Prop} (hgd : o.guard = none) (s x : Operand)
    (ho : o.op = .call { callee := .builtin .append, args := #[s, x], argTypes := #[113, 113] }) (g n cap B c : Nat) (xs : List Value) (v : Value)
    (hs : a.eval s = .slice (some ⟨g, 0, none⟩) n cap) (hx : a.eval x = .slice (some ⟨B, 0, none⟩) 1 c) (h : RowN W g n cap xs) (hc : W.cell? ⟨B, 0, none⟩ = some v) (hv : v.oneCell' = true) (hn : n + 1 ≤ 1099511627776)
    (hK : ∀ g' cap' W', RowN W' g' (n + 1) cap' (xs ++ [v]) → W.grownBy W' (some g) → (g' = g ∨ g' = W.heap.size) → (∀ u o, IsReO W u o → IsReO W' u o) → wpList Tryz.prog ops Q rest (a.put o.dst (.slice (some ⟨g', 0, none⟩) (n + 1) cap')) W') : wpList Tryz.prog ops Q (o :: rest) a W := by
  refine wpList_plain hgd fun K hK' => ?_
  obtain ⟨g', cap', W', hr, h1, h2, h3, h4⟩ := run_append_ptr W g n cap B c xs v h hc hv hn o.type
  unfold Oper.wp execOp
  simp only [ho, resolve, invoke, builtin, Sem.run_bind, Sem.run_pure, Result.andThen_ok, List.map_toArray, List.map_cons, List.map_nil, hs, hx, hr]
  exact hK' _ _ (hK g' cap' W' h1 h2 h3 h4)
end Go.Proofs.YticpjjmacmmpjaaGreatDoor
