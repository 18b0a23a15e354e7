/-
  What is known of a text's tokens, plain.
-/
import Derived.WalkLawsBesides
import Derived.Laws.AppendOwn
import Derived.Laws.OwnMore
import Derived.Test.YtgamknphlmcgnaaGreatDoorZlA
import Derived.Test.YtgamknphlmcgnaaGreatDoorZlB
import Derived.Test.YtgamknphlmcgnaaGreatDoorZlC
import Derived.Test.YtgamknphlmcgnaaGreatDoorZlD
import Derived.Test.YtgamknphlmcgnaaGreatDoorZlE
import Derived.Test.YtgamknphlmcgnaaGreatDoorZlF
import Derived.Test.YtgamknphlmcgnaaGreatDoorZlG
import Derived.Test.YtgamknphlmcgnaaGreatDoorZlH
import Derived.Test.YtgamknphlmcgnaaGreatDoorZlI
set_option linter.unusedSimpArgs false
set_option linter.unusedVariables false
set_option maxRecDepth 100000
set_option linter.unnecessarySimpa false
namespace Go.Proofs.YtgamknphlmcgnaaGreatDoor
open Go.RowKit
/-- what is known of the tokens -/
structure TFine (T : List LT) : Prop where
  len : T.length ≤ 65537
  fin : ∀ k, k < T.length → ((T.getD k lt0).kind = 0 ↔ k + 1 = T.length)
  nf : ∀ k, k < T.length → ∀ r, (T.getD k lt0).re = some r → RE.nf r ∧ RE.size r ≤ 1000
  pos : ∀ k, k < T.length → (T.getD k lt0).at_ ≤ 65536
  txt : ∀ k, k < T.length → (T.getD k lt0).text.length ≤ 65536
  kind : ∀ k, k < T.length → (T.getD k lt0).kind ≤ 4
  re : ∀ k, k < T.length → (T.getD k lt0).kind = 4 → ∃ r, (T.getD k lt0).re = some r
abbrev prCells (g n cap a d c : Nat) : Array Value := #[.slice (some ⟨g, 0, none⟩) n cap, .int .i64 (a : Nat), .int .i64 (d : Nat), .int .i64 (c : Nat)]
/-- the parser in block p, at token a -/
structure PrAt (w : World) (p : Nat) (T : List LT) (g cap a d c : Nat) : Prop where
  row : w.heap[p]? = some (.cells (prCells g T.length cap a d c) 107 (0, 0))
  tok : TkRow w g T
  lt : a < T.length
  cle : c ≤ 1000
  dle : d ≤ 60
variable {w w' : World} {p g cap a d c : Nat} {T : List LT}
theorem PrAt.plt (h : PrAt w p T g cap a d c) : p < w.heap.size := (Array.getElem?_eq_some_iff.1 h.row).1
theorem PrAt.cells (h : PrAt w p T g cap a d c) : w.cell? ⟨p, 0, none⟩ = some (.slice (some ⟨g, 0, none⟩) T.length cap) ∧ w.cell? ⟨p, 1, none⟩ = some (.int .i64 (a : Nat)) ∧ w.cell? ⟨p, 2, none⟩ = some (.int .i64 (d : Nat)) ∧ w.cell? ⟨p, 3, none⟩ = some (.int .i64 (c : Nat)) :=
  ⟨by rw [cell_of_row _ _ _ _ _ _ h.row]; rfl, by rw [cell_of_row _ _ _ _ _ _ h.row]; rfl, by rw [cell_of_row _ _ _ _ _ _ h.row]; rfl, by rw [cell_of_row _ _ _ _ _ _ h.row]; rfl⟩
theorem PrAt.frz (h : PrAt w p T g cap a d c) (j : Nat) : w.frozen? ⟨p, j, none⟩ = false := frozen_of_row _ _ j _ _ h.row
theorem PrAt.gp (h : PrAt w p T g cap a d c) : g ≠ p := fun e => by
  have h0 := h.tok.c0 0 (by have := h.lt; omega)
  rw [Nat.zero_mul, e, h.cells.1] at h0
  cases h0
theorem PrAt.later (h : PrAt w p T g cap a d c) (hb : Below w.heap.size w w') : PrAt w' p T g cap a d c := ⟨(hb.block p h.plt).trans h.row, h.tok.later hb, h.lt, h.cle, h.dle⟩
theorem IsReO.farP {v : Value} {o : Option RE} (h : IsReO w v o) (hp : PrAt w p T g cap a d c) (hf : Far p w w') : IsReO w' v o := h.put hp.row (by decide) (by decide) fun k hk hne => hf.block k hk (fun e => by first | exact hne (Option.some.inj e) | exact hne (Option.some.inj e).symm)
theorem IsTa.farP {t : TA} (h : IsTa w t) (hp : PrAt w p T g cap a d c) (hf : Far p w w') : IsTa w' t := h.put hp.row (by decide) (by decide) (by decide) (by decide) fun k hk hne => hf.block k hk (fun e => by first | exact hne (Option.some.inj e) | exact hne (Option.some.inj e).symm)
theorem Tab.farP (h : Tab w) (hp : PrAt w p T g cap a d c) (hf : Far p w w') : Tab w' := fun j hj => by
  have hc := h j hj
  have h0 := h 0 (by omega)
  have hb := World.block_lt_of_cell? w _ hc
  refine (World.cell?_of_block (w := w) (w' := w') (hf.block _ hb fun e => ?_)).trans hc
  have e := Option.some.inj e
  have e : Tryz.lays29_ren.g 1 = p := e
  rw [e, hp.cells.1] at h0
  cases h0
theorem TkRow.far (h : TkRow w g T) (hp : PrAt w p T g cap a d c) (hf : Far p w w') : TkRow w' g T := by
  have key : ∀ j v, w.cell? ⟨g, j, none⟩ = some v → w'.cell? ⟨g, j, none⟩ = some v := fun j v hv =>
    (World.cell?_of_block (w := w) (w' := w') (hf.block _ (World.block_lt_of_cell? w _ hv) fun e => hp.gp (Option.some.inj e))).trans hv
  refine ⟨fun i hi => key _ _ (h.c0 i hi), fun i hi => key _ _ (h.c1 i hi), fun i hi => ?_, fun i hi => key _ _ (h.c3 i hi)⟩
  obtain ⟨v, h1, h2⟩ := h.c2 i hi
  exact ⟨v, key _ _ h1, h2.farP hp hf⟩
/-- one field is written -/
theorem PrAt.put (h : PrAt w p T g cap a d c) (j : Nat) (v : Value) {a' d' c' : Nat} (e : (prCells g T.length cap a d c).setIfInBounds j v = prCells g T.length cap a' d' c') (ha : a' < T.length) (hc : c' ≤ 1000) (hd : d' ≤ 60) : PrAt (w.setCell ⟨p, j, none⟩ v) p T g cap a' d' c' :=
  ⟨by rw [heap_setCell_same _ _ _ _ _ _ h.row, e], h.tok.far h ((Far.refl p w).set j v), ha, hc, hd⟩
theorem PrAt.drew (h : PrAt w p T g cap a d c) (n : Nat) : PrAt (w.drewN n) p T g cap a d c := h.later (ext_drewN (Below.refl _ _) n)
/-- the tokens left -/
theorem drop_hd (h : a < T.length) : T.drop a = T.getD a lt0 :: T.drop (a + 1) := by
  rw [List.drop_eq_getElem_cons h]; congr 1; simp [List.getD, h]
theorem hd_drop (h : a < T.length) : PR.hd (T.drop a) = T.getD a lt0 := by rw [drop_hd h]; rfl
theorem stp_drop (h : a < T.length) (h0 : (T.getD a lt0).kind ≠ 0) : PR.stp (T.drop a) = T.drop (a + 1) := by
  unfold PR.stp
  rw [hd_drop h, if_neg h0, List.tail_drop]
/-- the parser's panic -/
abbrev faultV (en q : Nat) : Ending := .panicked [{ v := .iface 103 (.agg #[.int .i64 (en : Nat), .int .i64 (q : Nat)]), recovered := false }]
/-- what a part of the parser leaves -/
def PqPost {α : Type} (p : Nat) (T : List LT) (g cap a d : Nat) (w : World) (V : World → Value → α → Prop) (r : PR.Res α) (e : Ending) (w' : World) : Prop :=
  Far p w w' ∧ match r with
  | .ok x ts c' => ∃ v a', e = .returned v ∧ a ≤ a' ∧ ts = T.drop a' ∧ PrAt w' p T g cap a' d c' ∧ V w' v x
  | .bad en q => e = faultV en q
/-- a token in hand -/
def TkV (w : World) (v : Value) (t : LT) : Prop := ∃ rv, v = tkV t rv ∧ IsReO w rv t.re
def UnitV (w : World) (v : Value) (t : Unit) : Prop := v = .tuple #[]
def StrV (w : World) (v : Value) (t : List UInt8) : Prop := v = .string ⟨t.toArray⟩
/-- a term made -/
def TmV (w0 w : World) (v : Value) (m : TA) : Prop := ∃ t : TA, v = ptr t.b ∧ IsTa w t ∧ t.zero = m ∧ (∀ c ∈ t.blocks, w0.heap.size ≤ c ∧ c < w.heap.size) ∧ t.blocks.Nodup
end Go.Proofs.YtgamknphlmcgnaaGreatDoor
namespace Go.Proofs.YtgamknphlmcgnaaGreatDoor
open Go.RowKit
/-- the row of a list of one's own: behind its end there is nil -/
structure RowK (W : World) (g n cap : Nat) (xs : List Value) : Prop where
  row : W.heap[g]? = some (.cells (xs ++ List.replicate (cap - n) (Value.pointer none)).toArray 62 (0, 0))
  len : xs.length = n
  le : n ≤ cap
  mx : cap ≤ maxLen
theorem RowK.cell {W : World} {g n cap : Nat} {xs : List Value} (h : RowK W g n cap xs) (j : Nat) (u : Value) (hj : xs[j]? = some u) : W.cell? ⟨g, j, none⟩ = some u := by
  rw [cell_of_row _ _ _ _ _ _ h.row]
  have hlt : j < xs.length := (List.getElem?_eq_some_iff.1 hj).1
  simp [List.getElem?_append_left hlt, hj]
theorem RowK.kept {W W' : World} {g n cap : Nat} {xs : List Value} (h : RowK W g n cap xs) (hb : W'.heap[g]? = W.heap[g]?) : RowK W' g n cap xs := ⟨hb.trans h.row, h.len, h.le, h.mx⟩
mutual
/-- what is written where nil stood leaves a term as it is -/
theorem IsTa.spare {W W' : World} {g : Nat} {cur cur' : Array Value} {fr fr' : Nat × Nat} (hg : W.heap[g]? = some (.cells cur 62 fr)) (hg' : W'.heap[g]? = some (.cells cur' 62 fr'))
    (hs : ∀ (k c : Nat), cur[k]? = some (ptr c) → cur'[k]? = some (ptr c)) (ho : ∀ k, k < W.heap.size → k ≠ g → W'.heap[k]? = W.heap[k]?) : (t : TA) → IsTa W t → IsTa W' t
  | .node b o a n r t k ks, h => by
    obtain ⟨⟨rv, kp, cap, g1, g2, g3⟩, g4⟩ := h
    have hbg : b ≠ g := fun e => by
      subst e
      have g1 : W.heap[b]? = _ := g1
      rw [hg] at g1
      have := Option.some.inj g1
      injection this with _ e2 _
      exact absurd e2 (by decide)
    refine ⟨⟨rv, kp, cap, (ho b (Array.getElem?_eq_some_iff.1 g1).1 hbg).trans g1, g2.put hg (by decide) (by decide) ho, ?_⟩, IsTas.spare hg hg' hs ho ks g4⟩
    rcases g3 with h0 | ⟨kb, ko, cur1, fr1, e1, e2, e3⟩
    · exact .inl h0
    · by_cases e : kb = g
      · subst e
        refine .inr ⟨kb, ko, cur', fr', e1, hg', fun i hi => ?_⟩
        have h1 := e3 i hi
        rw [cell_of_row _ _ _ _ _ _ hg] at h1
        rw [cell_of_row _ _ _ _ _ _ hg']
        exact hs _ _ h1
      · have e4 := ho kb (Array.getElem?_eq_some_iff.1 e2).1 e
        exact .inr ⟨kb, ko, cur1, fr1, e1, e4.trans e2, fun i hi => by rw [World.cell?_of_block (w := W) (w' := W') (a := ⟨kb, ko + i, none⟩) e4]; exact e3 i hi⟩
theorem IsTas.spare {W W' : World} {g : Nat} {cur cur' : Array Value} {fr fr' : Nat × Nat} (hg : W.heap[g]? = some (.cells cur 62 fr)) (hg' : W'.heap[g]? = some (.cells cur' 62 fr'))
    (hs : ∀ (k c : Nat), cur[k]? = some (ptr c) → cur'[k]? = some (ptr c)) (ho : ∀ k, k < W.heap.size → k ≠ g → W'.heap[k]? = W.heap[k]?) : (l : List TA) → IsTas W l → IsTas W' l
  | [], _ => trivial
  | k :: l, h => ⟨IsTa.spare hg hg' hs ho k h.1, IsTas.spare hg hg' hs ho l h.2⟩
end
/-- one is appended -/
theorem run_append_tm (W : World) (g n cap B c : Nat) (xs : List Value) (v : Value) (h : RowK W g n cap xs) (hs : W.cell? ⟨B, 0, none⟩ = some v) (hv : v.oneCell' = true) (hn : n + 1 ≤ 1099511627776) (ty : TypeId) :
    ∃ g' cap' W', (Builtin.append_ #[66, 66] ty #[.slice (some ⟨g, 0, none⟩) n cap, .slice (some ⟨B, 0, none⟩) 1 c]).run Tryz.prog W = .ok (.slice (some ⟨g', 0, none⟩) (n + 1) cap') W' ∧
      RowK W' g' (n + 1) cap' (xs ++ [v]) ∧ W.grownBy W' (some g) ∧ (g' = g ∨ g' = W.heap.size) ∧ (∀ t, IsTa W t → IsTa W' t) ∧ ∀ u o, IsReO W u o → IsReO W' u o := by
  obtain ⟨i, hi, hz, hsz, hby⟩ := info_parts infoTm
  have hnews : ∀ j u, [v][j]? = some u → W.cell? ((⟨B, 0, none⟩ : Addr).add j) = some u := fun j u hj => by
    match j, hj with
    | 0, hj => simp at hj; subst hj; simpa [addr_at] using hs
    | j + 1, hj => simp at hj
  have h1 : ∀ u ∈ [v], u.oneCell' = true := fun u hu => by simp at hu; rw [hu]; exact hv
  have hmx : maxLen = 9223372036854775807 := rfl
  by_cases hroom : n + 1 ≤ cap
  · have hcs : (xs ++ List.replicate (cap - n) (Value.pointer none)).toArray.size = cap := by simp [h.len]; have := h.le; omega
    have hr := run_append_room (P := Tryz.prog) W 66 ty 62 i Tryz.underlying66 hi g n cap _ h.row ⟨B, 0, none⟩ 1 c [v] (by rw [hsz]; rfl) hnews h1 hroom (by rw [hsz, hcs]; simpa using hroom)
    have ecur : ((xs ++ List.replicate (cap - n) (Value.pointer none)).toArray.toList.take (n * i.size) ++ [v] ++ (xs ++ List.replicate (cap - n) (Value.pointer none)).toArray.toList.drop (n * i.size + [v].length)) = (xs ++ [v]) ++ List.replicate (cap - (n + 1)) (Value.pointer none) := by
      rw [hsz, Nat.mul_one]
      have e1 : (xs ++ List.replicate (cap - n) (Value.pointer none)).take n = xs := by rw [← h.len]; exact List.take_left
      have e2 : (xs ++ List.replicate (cap - n) (Value.pointer none)).drop (n + 1) = List.replicate (cap - (n + 1)) (Value.pointer none) := by
        rw [List.drop_append, List.drop_eq_nil_of_le (by rw [h.len]; omega), List.nil_append, h.len, List.drop_replicate]
        congr 1; omega
      simp only [List.length_singleton]
      rw [e1, e2]
    rw [ecur] at hr
    have hrow' := setRow_heap W g _ ((xs ++ [v]) ++ List.replicate (cap - (n + 1)) (Value.pointer none)).toArray _ (0, 0) h.row
    refine ⟨g, cap, _, hr, ⟨hrow', by simp [h.len], hroom, h.mx⟩, ⟨rfl, rfl, rfl, by simp, fun k _ hk => setRow_other W g k _ (fun e => hk (by rw [e]))⟩, .inl rfl, ?_, fun u o hu => hu.put h.row (by decide) (by decide) fun k _ hk => setRow_other W g k _ (fun e => hk e)⟩
    refine fun t ht => IsTa.spare h.row hrow' (fun k b hk => ?_) (fun k _ hk => setRow_other W g k _ (fun e => hk e)) t ht
    have hk' : (xs ++ List.replicate (cap - n) (Value.pointer none))[k]? = some (ptr b) := by simpa using hk
    have hlt : k < xs.length := by
      apply Classical.byContradiction
      intro hge
      rw [List.getElem?_append_right (by omega), List.getElem?_replicate] at hk'
      split at hk' <;> simp at hk'
    rw [List.getElem?_append_left hlt] at hk'
    have : ((xs ++ [v]) ++ List.replicate (cap - (n + 1)) (Value.pointer none))[k]? = some (ptr b) := by
      rw [List.getElem?_append_left (by simp; omega), List.getElem?_append_left hlt]; exact hk'
    simpa using this
  · have holds : ∀ j u, xs[j]? = some u → W.cell? ((⟨g, 0, none⟩ : Addr).add j) = some u := fun j u hj => by rw [addr_at, Nat.zero_add]; exact h.cell j u hj
    have hr := run_append_grow (P := Tryz.prog) W 66 ty 62 i (.pointer none) Tryz.underlying66 hi hz ⟨g, 0, none⟩ n cap xs (by rw [hsz, h.len]; omega) holds ⟨B, 0, none⟩ 1 c [v] (by rw [hsz]; rfl) hnews (by omega) (by omega) (growslice_fits (by omega) (by rw [hby]; omega))
    have hge := grownCap_ge W (n + 1) cap 62
    have hcm := grownCap_le_maxLen W (n + 1) cap 62 (by rw [hmx]; omega)
    have ecur : (xs.toArray ++ [v].toArray ++ Builtin.zeroCells (Value.pointer none).cells (grownCap W (n + 1) cap 62 - (n + 1))) = ((xs ++ [v]) ++ List.replicate (grownCap W (n + 1) cap 62 - (n + 1)) (Value.pointer none)).toArray := by
      apply Array.ext'
      simp [zeroPtrs]
    rw [ecur] at hr
    have hb : Below W.heap.size W (W.drew.alloc (.cells ((xs ++ [v]) ++ List.replicate (grownCap W (n + 1) cap 62 - (n + 1)) (Value.pointer none)).toArray 62)) := ext_alloc (Below.refl _ _).drew _
    exact ⟨_, _, _, hr, ⟨heap_alloc_last W.drew _, by simp [h.len], hge, hcm⟩, ⟨hb.os, hb.tape, hb.output, hb.size, fun k hk _ => hb.block k hk⟩, .inr rfl, fun t ht => IsTa.later hb t ht, fun u o hu => hu.later hb⟩
/-- the parts of a term that grow: nil, or in a row of their own -/
inductive KidsV (W : World) : Value → List TA → Option Nat → Prop
  | nil : KidsV W (.slice none 0 0) [] none
  | row (g cap : Nat) (ts : List TA) (h : RowK W g ts.length cap (ts.map fun t => ptr t.b)) : KidsV W (.slice (some ⟨g, 0, none⟩) ts.length cap) ts (some g)
theorem KidsV.rowT {W : World} {v : Value} {ts : List TA} {og : Option Nat} (h : KidsV W v ts og) : ∃ kp cap, v = .slice kp ts.length cap ∧ RowT W kp (ts.map TA.b) := by
  cases h with
  | nil => exact ⟨none, 0, rfl, .inl rfl⟩
  | row g cap ts h => exact ⟨_, _, rfl, .inr ⟨g, 0, _, _, rfl, h.row, fun i hi => by
      have hi : i < ts.length := by simpa using hi
      rw [Nat.zero_add]
      exact h.cell i _ (by simp [List.getD, hi])⟩⟩
theorem KidsV.keep {W W' : World} {v : Value} {ts : List TA} {og : Option Nat} (h : KidsV W v ts og) (hb : ∀ g, og = some g → W'.heap[g]? = W.heap[g]?) : KidsV W' v ts og := by
  cases h with
  | nil => exact .nil
  | row g cap ts h => exact .row g cap ts (h.kept (hb g rfl))
theorem KidsV.ty {W : World} {v : Value} {ts : List TA} {og : Option Nat} (h : KidsV W v ts og) (g : Nat) (hg : og = some g) : ∃ cs, W.heap[g]? = some (.cells cs 62 (0, 0)) := by
  cases h with
  | nil => cases hg
  | row g' cap ts h => cases hg; exact ⟨_, h.row⟩
theorem KidsV.form {W : World} {v : Value} {ts : List TA} {g : Nat} (h : KidsV W v ts (some g)) : ∃ cap, v = .slice (some ⟨g, 0, none⟩) ts.length cap := by
  cases h with
  | row g cap ts h => exact ⟨cap, rfl⟩
theorem run_append_kids (W : World) (sv : Value) (ts : List TA) (x : TA) (og : Option Nat) (B c : Nat) (h : KidsV W sv ts og) (hs : W.cell? ⟨B, 0, none⟩ = some (ptr x.b)) (hn : ts.length + 1 ≤ 1099511627776) (ty : TypeId) :
    ∃ sv' g' W', (Builtin.append_ #[66, 66] ty #[sv, .slice (some ⟨B, 0, none⟩) 1 c]).run Tryz.prog W = .ok sv' W' ∧
      KidsV W' sv' (ts ++ [x]) (some g') ∧ W.grownBy W' og ∧ (og = some g' ∨ g' = W.heap.size) ∧ (∀ t, IsTa W t → IsTa W' t) ∧ ∀ u o, IsReO W u o → IsReO W' u o := by
  have hv : (ptr x.b).oneCell' = true := rfl
  cases h with
  | nil =>
    obtain ⟨i, hi, hz, hsz, hby⟩ := info_parts infoTm
    have hnews : ∀ j u, [ptr x.b][j]? = some u → W.cell? ((⟨B, 0, none⟩ : Addr).add j) = some u := fun j u hj => by
      match j, hj with
      | 0, hj => simp at hj; subst hj; simpa [addr_at] using hs
      | j + 1, hj => simp at hj
    have hrun := run_append_nil (P := Tryz.prog) (w := W) 66 ty 62 i (.pointer none) Tryz.underlying66 hi hz ⟨B, 0, none⟩ 1 c [ptr x.b] (by rw [hsz]; rfl) hnews (by omega) (by omega) (by rw [hby]; omega)
    have hge := grownCap_ge W 1 0 62
    have hcm := grownCap_le_maxLen W 1 0 62 (by unfold maxLen; omega)
    have ecur : ([ptr x.b].toArray ++ Builtin.zeroCells (Value.pointer none).cells (grownCap W 1 0 62 - 1)) = ([ptr x.b] ++ List.replicate (grownCap W 1 0 62 - 1) (Value.pointer none)).toArray := by
      apply Array.ext'
      simp [zeroPtrs]
    rw [ecur] at hrun
    have hb : Below W.heap.size W (W.drew.alloc (.cells ([ptr x.b] ++ List.replicate (grownCap W 1 0 62 - 1) (Value.pointer none)).toArray 62)) := ext_alloc (Below.refl _ _).drew _
    have hrow : RowK (W.drew.alloc (.cells ([ptr x.b] ++ List.replicate (grownCap W 1 0 62 - 1) (Value.pointer none)).toArray 62)) W.heap.size 1 (grownCap W 1 0 62) [ptr x.b] := ⟨heap_alloc_last W.drew _, rfl, hge, hcm⟩
    exact ⟨_, W.heap.size, _, hrun, KidsV.row W.heap.size _ [x] hrow, ⟨hb.os, hb.tape, hb.output, hb.size, fun k hk _ => hb.block k hk⟩, .inr rfl, fun t ht => IsTa.later hb t ht, fun u o hu => hu.later hb⟩
  | row g cap ts h =>
    obtain ⟨g', cap', W', hrun, h1, h2, h3, h4, h5⟩ := run_append_tm W g ts.length cap B c _ (ptr x.b) h hs hv hn ty
    refine ⟨_, g', W', hrun, ?_, h2, by rcases h3 with e | e; · exact .inl (by rw [e])
                                        · exact .inr e, h4, h5⟩
    have e : (ts ++ [x]).length = ts.length + 1 := by simp
    have := KidsV.row (W := W') g' cap' (ts ++ [x]) (by rw [e, List.map_append]; exact h1)
    rwa [e] at this
theorem wpList_append_kids {W : World} {ops : Array Oper} {rest : List Oper} {o : Oper} {a : Act} {Q : Exit → Act → World → Prop} (hgd : o.guard = none) (s x : Operand)
    (ho : o.op = .call { callee := .builtin .append, args := #[s, x], argTypes := #[66, 66] }) (sv : Value) (ts : List TA) (y : TA) (og : Option Nat) (B c : Nat)
    (hs : a.eval s = sv) (hx : a.eval x = .slice (some ⟨B, 0, none⟩) 1 c) (h : KidsV W sv ts og) (hc : W.cell? ⟨B, 0, none⟩ = some (ptr y.b)) (hn : ts.length + 1 ≤ 1099511627776)
    (hK : ∀ g' n' cap' W', KidsV W' (.slice (some ⟨g', 0, none⟩) n' cap') (ts ++ [y]) (some g') → W.grownBy W' og → (og = some g' ∨ g' = W.heap.size) → (∀ t, IsTa W t → IsTa W' t) → (∀ u o, IsReO W u o → IsReO W' u o) → wpList Tryz.prog ops Q rest (a.put o.dst (.slice (some ⟨g', 0, none⟩) n' cap')) W') : wpList Tryz.prog ops Q (o :: rest) a W := by
  refine wpList_plain hgd fun K hK' => ?_
  obtain ⟨sv', g', W', hrun, h1, h2, h3, h4, h5⟩ := run_append_kids W sv ts y og B c h hc hn o.type
  unfold Oper.wp execOp
  simp only [ho, resolve, invoke, builtin, Sem.run_bind, Sem.run_pure, Result.andThen_ok, List.map_toArray, List.map_cons, List.map_nil, hs, hx, hrun]
  obtain ⟨cap', rfl⟩ := h1.form
  exact hK' _ _ (hK g' _ cap' W' h1 h2 h3 h4 h5)
/-- a term all of whose blocks are new -/
structure TmB (w0 W : World) (t : TA) : Prop where
  is : IsTa W t
  blk : ∀ c ∈ t.blocks, w0.heap.size ≤ c ∧ c < W.heap.size
  nod : t.blocks.Nodup
variable {w0 W W' : World} {p g cap a d c : Nat} {T : List LT} {t : TA}
theorem TmB.v (h : TmB w0 W t) : TmV w0 W (ptr t.b) t.zero := ⟨t, rfl, h.is, rfl, h.blk, h.nod⟩
theorem TmV.open {v : Value} {m : TA} (h : TmV w0 W v m) : ∃ t, v = ptr t.b ∧ TmB w0 W t ∧ t.zero = m := by
  obtain ⟨t, h1, h2, h3, h4, h5⟩ := h
  exact ⟨t, h1, ⟨h2, h4, h5⟩, h3⟩
theorem TmB.later (h : TmB w0 W t) (hb : Below W.heap.size W W') : TmB w0 W' t := ⟨IsTa.later hb t h.is, fun c hc => ⟨(h.blk c hc).1, Nat.lt_of_lt_of_le (h.blk c hc).2 hb.size⟩, h.nod⟩
theorem TmB.farP (h : TmB w0 W t) (hp : PrAt W p T g cap a d c) (hf : Far p W W') : TmB w0 W' t := ⟨h.is.farP hp hf, fun c hc => ⟨(h.blk c hc).1, Nat.lt_of_lt_of_le (h.blk c hc).2 hf.size⟩, h.nod⟩
theorem TmB.up {w1 : World} (h : TmB w1 W t) (hs : w0.heap.size ≤ w1.heap.size) : TmB w0 W t := ⟨h.is, fun c hc => ⟨Nat.le_trans hs (h.blk c hc).1, (h.blk c hc).2⟩, h.nod⟩
/-- a new block of a term is written: the parser, and all else that is elder, lie as they lay -/
theorem PrAt.putT {b j : Nat} {v : Value} {cs : Array Value} (h : PrAt W p T g cap a d c) (hb : W.heap[b]? = some (.cells cs 68 (0, 0))) (hg : g ≠ b) : PrAt (W.setCell ⟨b, j, none⟩ v) p T g cap a d c := by
  have hbp : b ≠ p := fun e => by
    rw [e, h.row] at hb
    have := Option.some.inj hb
    injection this with _ e2 _
    exact absurd e2 (by decide)
  have key : ∀ i v', W.cell? ⟨g, i, none⟩ = some v' → (W.setCell ⟨b, j, none⟩ v).cell? ⟨g, i, none⟩ = some v' := fun i v' hv =>
    (World.cell?_of_block (w := W) (w' := W.setCell ⟨b, j, none⟩ v) (a := ⟨g, i, none⟩) (Below.heap_setCell _ _ _ _ (by show g ≠ b; exact hg))).trans hv
  refine ⟨(Below.heap_setCell _ _ _ _ (by show p ≠ b; exact fun e => hbp e.symm)).trans h.row, ⟨fun i hi => key _ _ (h.tok.c0 i hi), fun i hi => key _ _ (h.tok.c1 i hi), fun i hi => ?_, fun i hi => key _ _ (h.tok.c3 i hi)⟩, h.lt, h.cle, h.dle⟩
  obtain ⟨v', h1, h2⟩ := h.tok.c2 i hi
  exact ⟨v', key _ _ h1, re_putT hb h2⟩
theorem Far.setNewP {j b : Nat} {v : Value} (h : Far p w0 W) (hb : w0.heap.size ≤ b) : Far p w0 (W.setCell ⟨b, j, none⟩ v) :=
  ⟨h.os, h.tape, h.output, by simpa using h.size, fun k hk hne => (Below.heap_setCell _ _ _ _ (by show k ≠ b; omega)).trans (h.block k hk hne)⟩
theorem TmB.row (h : TmB w0 W t) : ∃ cs, W.heap[t.b]? = some (.cells cs 68 (0, 0)) := by
  obtain ⟨⟨rv, kp, cap, hn⟩, _⟩ := h.is.open
  exact ⟨_, hn.1⟩
theorem TmB.lo (h : TmB w0 W t) : w0.heap.size ≤ t.b ∧ t.b < W.heap.size := h.blk t.b (by rw [t.blocks_eq]; simp)
/-- the parser, while a new term's block is written -/
theorem PrAt.putB {j : Nat} {v : Value} (h : PrAt W p T g cap a d c) (ht : TmB w0 W t) (hg : g < w0.heap.size) : PrAt (W.setCell ⟨t.b, j, none⟩ v) p T g cap a d c := by
  obtain ⟨cs, hr⟩ := ht.row
  exact h.putT hr (by have := ht.lo; omega)
theorem PrAt.glt (h : PrAt W p T g cap a d c) : g < W.heap.size := by
  have h0 := h.tok.c0 a h.lt
  exact World.block_lt_of_cell? W _ h0
/-- one of a new term's fields is written -/
theorem TmB.put {b o : Nat} {q : Int} {n t1 k : List UInt8} {r : Option RE} {ks : List TA} (h : TmB w0 W (TA.node b o q n r t1 k ks)) (j : Nat) (v : Value) {n' t1' k' : List UInt8} {r' : Option RE} (rv' : Value → Value)
    (e : ∀ rv kv, (tmCells o q n rv t1 k kv).setIfInBounds j v = tmCells o q n' (rv' rv) t1' k' kv) (hr : ∀ rv, IsReO W rv r → IsReO W (rv' rv) r') : TmB w0 (W.setCell ⟨b, j, none⟩ v) (TA.node b o q n' r' t1' k' ks) := by
  obtain ⟨h1, h2, h3⟩ := h
  obtain ⟨⟨rv, kp, cap, g1, g2, g3⟩, g4⟩ := h1
  have hx : W.heap[b]? = some (.cells (tmCells o q n rv t1 k (.slice kp ks.length cap)) 68 (0, 0)) := g1
  have hnd : b ∉ TA.blockss ks := by
    simp only [TA.blocks, List.nodup_cons] at h3
    exact h3.1
  refine ⟨⟨⟨rv' rv, kp, cap, ?_, re_putT hx (hr _ g2), g3.keep fun kb _ _ _ _ hc => Below.heap_setCell _ _ _ _ (fun ee => ?_)⟩, IsTas.putT hx (fun k _ hk => Below.heap_setCell _ _ _ _ hk) ks hnd g4⟩, fun c hc => ?_, h3⟩
  · show (W.setCell ⟨b, j, none⟩ v).heap[b]? = _
    rw [heap_setCell_same _ _ _ _ _ _ hx, e]; rfl
  · have ee : kb = b := ee
    rw [ee, hx] at hc
    have := Option.some.inj hc
    injection this with _ e2 _
    exact absurd e2 (by decide)
  · have := h2 c hc
    simpa using this
/-- .. its parts -/
theorem TmB.kids {b o : Nat} {q : Int} {n t1 k : List UInt8} {r : Option RE} {ks : List TA} (h : TmB w0 W (TA.node b o q n r t1 k ks)) {kv : Value} {ts : List TA} {og : Option Nat} (hk : KidsV W kv ts og) (ht : ∀ x ∈ ts, TmB w0 W x) (hn : (b :: TA.blockss ts).Nodup) :
    TmB w0 (W.setCell ⟨b, 6, none⟩ kv) (TA.node b o q n r t1 k ts) := by
  have hlo := h.lo
  obtain ⟨h1, h2, h3⟩ := h
  obtain ⟨⟨rv, kp, cap, g1, g2, g3⟩, g4⟩ := h1
  have hx : W.heap[b]? = some (.cells (tmCells o q n rv t1 k (.slice kp ks.length cap)) 68 (0, 0)) := g1
  obtain ⟨kp', cap', rfl, hrow⟩ := hk.rowT
  have hnd : b ∉ TA.blockss ts := (List.nodup_cons.1 hn).1
  refine ⟨⟨⟨rv, kp', cap', ?_, re_putT hx g2, hrow.keep fun kb _ _ _ _ hc => Below.heap_setCell _ _ _ _ (fun ee => ?_)⟩, IsTas.putT hx (fun k _ hk => Below.heap_setCell _ _ _ _ hk) ts hnd ((IsTas_iff _ _).2 fun x hx => (ht x hx).is)⟩, fun c hc => ?_, hn⟩
  · show (W.setCell ⟨b, 6, none⟩ _).heap[b]? = _
    rw [heap_setCell_same _ _ _ _ _ _ hx]; rfl
  · have ee : kb = b := ee
    rw [ee, hx] at hc
    have := Option.some.inj hc
    injection this with _ e2 _
    exact absurd e2 (by decide)
  · simp only [TA.blocks, List.mem_cons] at hc
    rcases hc with rfl | hc
    · exact ⟨hlo.1, by simpa [TA.b] using hlo.2⟩
    · obtain ⟨x, hx1, hx2⟩ := TA.of_blockss hc
      have := (ht x hx1).blk c hx2
      simpa using this
end Go.Proofs.YtgamknphlmcgnaaGreatDoor
namespace Go.Proofs.YtgamknphlmcgnaaGreatDoor
open Go.RowKit
/-- as wp_region_mix, but what is called may panic: whatever the slots hold then -/
theorem wp_region_mixP {P : Program} {Q : Exit → Act → World → Prop} {id : Nat} {a : Act} {w : World} {l : List Oper} (hQ : ∀ c (a : Act) d v w, Q (.panic c) (a.put d v) w → Q (.panic c) a w) (S : World → Prop) (rd ord : List Nat) (hm : P.follows .mixedOrders = true) (hB : mixB .any l.toArray rd ord = true)
    (hS : S w.drew) (h : wpMix P .any l.toArray Q S rd ord a w.drew) : (Code.region id l.toArray true).wp P Q a w := by
  simp only [mixB, Bool.and_eq_true, beq_iff_eq] at hB
  obtain ⟨⟨⟨h1, h2⟩, h3⟩, h4⟩ := hB
  have hcl : ClosedL .any l.toArray (Array.replicate l.toArray.size false) := fun j o ho hj => by
    exfalso
    rw [Array.getD_eq_getD_getElem?, Array.getElem?_replicate] at hj
    split at hj <;> simp at hj
  refine wp_region_any hm (wpAny_of_D (S := S) (rd := rd) _ _ _ _ ?_)
  have hgo : wpAnyD P .any l.toArray Q S rd ord.length (Array.replicate l.toArray.size false) a w.drew := by
   refine wpAnyD_of_mix h1 (fun i hi => ?_) (fun c a d v w h => hQ c a d v w h) ord _ a w.drew hcl h4 (fun _ => hS) h
   have := (List.all_eq_true.1 h2) i hi
   cases ho : l.toArray[i]? with
   | none => rw [ho] at this; cases this
   | some o => rw [ho] at this; exact ⟨o, rfl, this⟩
  rw [h3] at hgo
  exact hgo
variable {w w' : World} {p g cap a d c : Nat} {T : List LT}
/-- the cells of the token at hand -/
theorem PrAt.tk (h : PrAt w p T g cap a d c) : w.cell? ⟨g, a * 4, none⟩ = some (.int .i64 ((T.getD a lt0).kind : Nat)) ∧ w.cell? ⟨g, a * 4 + 1, none⟩ = some (.string ⟨(T.getD a lt0).text.toArray⟩) ∧ (∃ po, w.cell? ⟨g, a * 4 + 2, none⟩ = some (.pointer po) ∧ IsReO w (.pointer po) (T.getD a lt0).re) ∧ w.cell? ⟨g, a * 4 + 3, none⟩ = some (.int .i64 ((T.getD a lt0).at_ : Nat)) := by
  refine ⟨h.tok.c0 a h.lt, h.tok.c1 a h.lt, ?_, h.tok.c3 a h.lt⟩
  obtain ⟨v, h1, h2⟩ := h.tok.c2 a h.lt
  obtain ⟨po, rfl⟩ := reO_ptr h2
  exact ⟨po, h1, h2⟩
/-- .. in every world behind -/
theorem PrAt.cls (h : PrAt w p T g cap a d c) {po : Option Addr} (h2 : w.cell? ⟨g, a * 4 + 2, none⟩ = some (.pointer po)) {S : World → Prop} (hS : ∀ W', S W' → Below w.heap.size w W') (q : InC S) :
    q.w.cell? ⟨p, 0, none⟩ = some (.slice (some ⟨g, 0, none⟩) T.length cap) ∧ q.w.cell? ⟨p, 1, none⟩ = some (.int .i64 (a : Nat)) ∧ q.w.cell? ⟨g, a * 4, none⟩ = some (.int .i64 ((T.getD a lt0).kind : Nat)) ∧ q.w.cell? ⟨g, a * 4 + 1, none⟩ = some (.string ⟨(T.getD a lt0).text.toArray⟩) ∧ q.w.cell? ⟨g, a * 4 + 2, none⟩ = some (.pointer po) ∧ q.w.cell? ⟨g, a * 4 + 3, none⟩ = some (.int .i64 ((T.getD a lt0).at_ : Nat)) := by
  have hb := hS q.w q.h
  have h' := h.later hb
  obtain ⟨c0, c1, _, _⟩ := h'.cells
  obtain ⟨t0, t1, _, t3⟩ := h'.tk
  exact ⟨c0, c1, t0, t1, (hb.cell (p := ⟨g, a * 4 + 2, none⟩) (World.block_lt_of_cell? w _ h2)).trans h2, t3⟩
set_option maxRecDepth 100000 in
set_option maxHeartbeats 1600000 in
theorem prNext_any (h : PrAt w p T g cap a d c) : Calls Tryz.prog 106 #[ptr p] w fun e w' => ∃ po, e = .returned (tkV (T.getD a lt0) (.pointer po)) ∧ IsReO w' (.pointer po) (T.getD a lt0).re ∧ Below w.heap.size w w' := by
  have hb0 := re_alloc w (.cells #[.int .i64 0, .string ⟨#[]⟩, .pointer none, .int .i64 0] 47)
  have h0 := h.later hb0
  obtain ⟨_, _, ⟨po, t2, hre⟩, _⟩ := h.tk
  have t2 := (hb0.cell (p := ⟨g, a * 4 + 2, none⟩) (World.block_lt_of_cell? w _ t2)).trans t2
  have hlt : (0 : Int) ≤ (a : Int) ∧ (a : Int) < (T.length : Nat) := ⟨by omega, by have := h.lt; omega⟩
  obtain ⟨S, hSd⟩ : ∃ S : World → Prop, ∀ W', S W' ↔ Below (w.alloc (.cells #[.int .i64 0, .string ⟨#[]⟩, .pointer none, .int .i64 0] 47)).heap.size (w.alloc (.cells #[.int .i64 0, .string ⟨#[]⟩, .pointer none, .int .i64 0] 47)) W' := ⟨_, fun _ => Iff.rfl⟩
  have cs := fun q : InC S => h0.cls t2 (fun W' hh => (hSd W').1 hh) q
  have hS0 : S (w.alloc (.cells #[.int .i64 0, .string ⟨#[]⟩, .pointer none, .int .i64 0] 47)).drew := (hSd _).2 (Below.refl _ _).drew
  have hne : Nonempty (InC S) := ⟨⟨_, hS0⟩⟩
  have HRE := Lib.hid hre
  clear hre h hb0 h0 t2 hSd
  generalize T.getD a lt0 = t at *
  obtain ⟨kd, tx, ro, pa⟩ := t
  simp only at cs HRE
  simp only [tkV]
  generalize (⟨tx.toArray⟩ : ByteArray) = TX at *
  generalize T.length = n at *
  go_enter Tryz.func106, Tryz.ntmps106
  go_wp2_with fail
  refine wp_region_mix S [0, 1, 2, 3, 4, 5, 6, 7, 8, 9] [0, 1, 2, 3, 4, 5, 6, 7, 8, 9, 10] (by kernel_rfl) (by kernel_rfl) hS0 ?_
  (repeat ((with_reducible refine wpMix_read (o := ?_) ?_ ?_ ?_); rotate_left; (· rfl); (· rfl); go_big_quiet_step (fail); (with_reducible refine wpQuiet_nil ?_)))
  refine wpMix_eff (k := false) rfl rfl (by kernel_rfl) ?_
  clear hne cs
  go_wp2_with fail
  refine mixPost_last ?_
  refine wpMix_nil ?_
  go_wp2_with fail
  have hb : Below w.heap.size w (w.alloc (.cells #[.int .i64 (kd : Nat), .string TX, .pointer po, .int .i64 (pa : Nat)] 47)).drew := (re_alloc w _).drew
  refine bodyPost_ret (v := .agg #[.int .i64 (kd : Nat), .string TX, .pointer po, .int .i64 (pa : Nat)]) (by simp [results, Tryz.results106, go_sem]) rfl ?_
  exact ⟨po, rfl, HRE.out.later hb, hb⟩
theorem prFail_any (en q : Nat) (w : World) : Calls Tryz.prog 101 #[.int .i64 (en : Nat), .int .i64 (q : Nat)] w fun e w' => e = faultV en q ∧ w' = w := by
  go_enter Tryz.func101, Tryz.ntmps101
  go_wp2_with fail
  exact ⟨rfl, rfl, rfl⟩
/-- a token's fields -/
theorem tk_f0 (k : Int) (s : ByteArray) (po : Option Addr) (q : Int) (W : World) : (Instr.field 47 (.agg #[.int .i64 k, .string s, .pointer po, .int .i64 q]) 0).run Tryz.prog W = .ok (.int .i64 k) W := by kernel_rfl
theorem tk_f1 (k : Int) (s : ByteArray) (po : Option Addr) (q : Int) (W : World) : (Instr.field 47 (.agg #[.int .i64 k, .string s, .pointer po, .int .i64 q]) 1).run Tryz.prog W = .ok (.string s) W := by kernel_rfl
theorem tk_f2 (k : Int) (s : ByteArray) (po : Option Addr) (q : Int) (W : World) : (Instr.field 47 (.agg #[.int .i64 k, .string s, .pointer po, .int .i64 q]) 2).run Tryz.prog W = .ok (.pointer po) W := by kernel_rfl
theorem tk_f3 (k : Int) (s : ByteArray) (po : Option Addr) (q : Int) (W : World) : (Instr.field 47 (.agg #[.int .i64 k, .string s, .pointer po, .int .i64 q]) 3).run Tryz.prog W = .ok (.int .i64 q) W := by kernel_rfl
/-- the parser gives up at the token at hand -/
theorem prForm_any (h : PrAt w p T g cap a d c) : Calls Tryz.prog 105 #[ptr p] w fun e w' => e = faultV 2 (T.getD a lt0).at_ ∧ Below w.heap.size w w' := by
  have HN := Lib.hid (prNext_any h)
  have HF := Lib.hid (fun q W => prFail_any 2 q W)
  clear h
  generalize T.getD a lt0 = t at *
  obtain ⟨kd, tx, ro, pa⟩ := t
  have hfd0 := tk_f0; have hfd1 := tk_f1; have hfd2 := tk_f2; have hfd3 := tk_f3
  go_enter Tryz.func105, Tryz.ntmps105
  go_wp2_with fail
  refine HN.out.mono ?_
  rintro e w1 ⟨po, rfl, _, hb⟩
  simp only [tkV]
  go_wp2_with fail
  refine (HF.out pa _).mono ?_
  rintro e w2 ⟨rfl, rfl⟩
  exact ⟨rfl, rfl, hb⟩
/-- is the token at hand so? -/
theorem prIs_any (h : PrAt w p T g cap a d c) (k : Nat) (s : List UInt8) : Calls Tryz.prog 99 #[ptr p, .int .i64 (k : Nat), .string ⟨s.toArray⟩] w fun e w' => e = .returned (.bool (PR.isT (T.drop a) k s)) ∧ Below w.heap.size w w' := by
  have HN := Lib.hid (prNext_any h)
  have HN2 := Lib.hid (fun W (hb : Below w.heap.size w W) => prNext_any (h.later hb))
  have HR : Hid (PR.isT (T.drop a) k s = ((T.getD a lt0).kind == k && (T.getD a lt0).text == s)) := by show _ = _; unfold PR.isT; rw [hd_drop h.lt]
  rw [HR.out]
  clear h HR
  generalize T.getD a lt0 = t at *
  obtain ⟨kd, tx, ro, pa⟩ := t
  by_cases hk : kd = k
  · have hk' : (((kd : Nat) : Int) == ((k : Nat) : Int)) = true := by rw [hk]; simp
    have hkb : (kd == k) = true := by simpa using hk
    simp only [hkb, Bool.true_and]
    have hfd0 := tk_f0; have hfd1 := tk_f1; have hfd2 := tk_f2; have hfd3 := tk_f3
    go_enter Tryz.func99, Tryz.ntmps99
    go_wp2_with fail
    refine HN.out.mono ?_
    rintro e w1 ⟨po, rfl, _, hb⟩
    simp only [tkV]
    go_wp2_with fail
    refine (HN2.out _ hb).mono ?_
    rintro e w2 ⟨po2, rfl, _, hb2⟩
    simp only [tkV]
    go_wp2_with fail
    go_ret
    exact ⟨rfl, ext_step hb hb2⟩
  · have hk' : (((kd : Nat) : Int) == ((k : Nat) : Int)) = false := by rw [beq_eq_false_iff_ne]; omega
    have hkb : (kd == k) = false := by simpa using hk
    simp only [hkb, Bool.false_and]
    have hfd0 := tk_f0; have hfd1 := tk_f1; have hfd2 := tk_f2; have hfd3 := tk_f3
    go_enter Tryz.func99, Tryz.ntmps99
    go_wp2_with fail
    refine HN.out.mono ?_
    rintro e w1 ⟨po, rfl, _, hb⟩
    simp only [tkV]
    go_wp2_with fail
    go_ret
    exact ⟨rfl, hb⟩
/-- .. one further on -/
theorem PrAt.next (h : PrAt w p T g cap a d c) (hF : TFine T) (hk : (T.getD a lt0).kind ≠ 0) : PrAt (w.setCell ⟨p, 1, none⟩ (.int .i64 ((a : Int) + 1))) p T g cap (a + 1) d c := by
  have hlt : a + 1 < T.length := by
    have h1 := h.lt
    have h2 := (hF.fin a h1)
    apply Classical.byContradiction
    intro hn
    exact hk (h2.2 (by omega))
  have := h.put 1 (.int .i64 ((a + 1 : Nat) : Int)) (a' := a + 1) (d' := d) (c' := c) rfl hlt h.cle h.dle
  rw [show ((a + 1 : Nat) : Int) = (a : Int) + 1 by omega] at this
  exact this
set_option maxRecDepth 100000 in
set_option maxHeartbeats 1600000 in
theorem prStep_any (h : PrAt w p T g cap a d c) (hF : TFine T) (hk : (T.getD a lt0).kind ≠ 0) : Calls Tryz.prog 100 #[ptr p] w fun e w' => ∃ po, e = .returned (tkV (T.getD a lt0) (.pointer po)) ∧ IsReO w' (.pointer po) (T.getD a lt0).re ∧ PrAt w' p T g cap (a + 1) d c ∧ Far p w w' := by
  have hb0 := re_alloc w (.cells #[.int .i64 0, .string ⟨#[]⟩, .pointer none, .int .i64 0] 47)
  have h0 := h.later hb0
  obtain ⟨_, _, ⟨po, t2, hre⟩, _⟩ := h.tk
  have t2 := (hb0.cell (p := ⟨g, a * 4 + 2, none⟩) (World.block_lt_of_cell? w _ t2)).trans t2
  have hlt : (0 : Int) ≤ (a : Int) ∧ (a : Int) < (T.length : Nat) := ⟨by omega, by have := h.lt; omega⟩
  obtain ⟨S, hSd⟩ : ∃ S : World → Prop, ∀ W', S W' ↔ Below (w.alloc (.cells #[.int .i64 0, .string ⟨#[]⟩, .pointer none, .int .i64 0] 47)).heap.size (w.alloc (.cells #[.int .i64 0, .string ⟨#[]⟩, .pointer none, .int .i64 0] 47)) W' := ⟨_, fun _ => Iff.rfl⟩
  have cs := fun q : InC S => h0.cls t2 (fun W' hh => (hSd W').1 hh) q
  have hS0 : S (w.alloc (.cells #[.int .i64 0, .string ⟨#[]⟩, .pointer none, .int .i64 0] 47)).drew := (hSd _).2 (Below.refl _ _).drew
  have hSl : S ((w.alloc (.cells #[.int .i64 0, .string ⟨#[]⟩, .pointer none, .int .i64 0] 47)).alloc (.cells #[.int .i64 0, .string ⟨#[]⟩, .pointer none, .int .i64 0] 47)).drew := (hSd _).2 (re_alloc _ _).drew
  have hne : Nonempty (InC S) := ⟨⟨_, hS0⟩⟩
  have HRE := Lib.hid hre
  have H := Lib.hid h
  have HFN := Lib.hid hF
  have HK := Lib.hid hk
  have hk' : ((((T.getD a lt0).kind : Nat) : Int) != 0) = true := (ne_tuple _ hk).1
  clear hre h hb0 h0 t2 hSd hk
  generalize ht : T.getD a lt0 = t at *
  obtain ⟨kd, tx, ro, pa⟩ := t
  have HTT := Lib.hid ht
  clear ht
  simp only at cs HRE hk'
  simp only [tkV]
  generalize (⟨tx.toArray⟩ : ByteArray) = TX at *
  have hln0 := hF.len
  clear hF
  generalize hn : T.length = n at *
  clear hn
  go_enter Tryz.func100, Tryz.ntmps100
  go_wp2_with fail
  refine wp_region_mix S [0, 1, 2, 3, 4, 5, 6, 7, 8, 9] [0, 1, 2, 3, 4, 5, 6, 7, 8, 9, 10, 11] (by kernel_rfl) (by kernel_rfl) hS0 ?_
  (repeat ((with_reducible refine wpMix_read (o := ?_) ?_ ?_ ?_); rotate_left; (· rfl); (· rfl); go_big_quiet_step (fail); (with_reducible refine wpQuiet_nil ?_)))
  refine wpMix_eff (k := true) rfl rfl (by kernel_rfl) ?_
  clear hne cs
  go_wp2_with fail
  refine mixPost_keep hSl ?_
  refine wpMix_eff (k := false) rfl rfl (by kernel_rfl) ?_
  go_wp2_with fail
  refine mixPost_last ?_
  refine wpMix_nil ?_
  have hb2 : Below w.heap.size w ((w.alloc (.cells #[.int .i64 0, .string ⟨#[]⟩, .pointer none, .int .i64 0] 47)).alloc (.cells #[.int .i64 (kd : Nat), .string TX, .pointer po, .int .i64 (pa : Nat)] 47)).drew := (ext_alloc (re_alloc w _) _).drew
  have h2 := H.out.later hb2
  obtain ⟨_, c1, _, _⟩ := h2.cells
  have f1 := h2.frz 1
  have h3 := H.out.next HFN.out (by rw [HTT.out]; exact HK.out)
  have hf3 : Far p w (w.setCell ⟨p, 1, none⟩ (.int .i64 ((a : Int) + 1))) := (Far.refl p w).set 1 _
  have hp := H.out.plt
  have HRE3 : Hid (IsReO (w.setCell ⟨p, 1, none⟩ (.int .i64 ((a : Int) + 1))) (.pointer po) ro) := IsReO.farP HRE.out H.out ((Far.refl p _).set 1 _)
  have HH3 := Lib.hid h3
  have HF3 := Lib.hid hf3
  clear h2 hb2 h3 hf3
  go_wp2_with fail
  refine bodyPost_ret (v := .agg #[.int .i64 (kd : Nat), .string TX, .pointer po, .int .i64 (pa : Nat)]) (by simp [results, Tryz.results100, go_sem]) rfl ?_
  have hb5 : Below (w.setCell ⟨p, 1, none⟩ (.int .i64 ((a : Int) + 1))).heap.size (w.setCell ⟨p, 1, none⟩ (.int .i64 ((a : Int) + 1))) (((w.setCell ⟨p, 1, none⟩ (.int .i64 ((a : Int) + 1))).alloc (.cells #[.int .i64 (kd : Nat), .string TX, .pointer po, .int .i64 (pa : Nat)] 47)).alloc (.cells #[.int .i64 (kd : Nat), .string TX, .pointer po, .int .i64 (pa : Nat)] 47)).drew := (ext_alloc (re_alloc _ _) _).drew
  exact ⟨po, rfl, HRE3.out.later hb5, HH3.out.later hb5, HF3.out.trans (Far.below hb5)⟩
/-- a sign is taken, if it is the token at hand -/
theorem isT_kind {ts : List LT} {k : Nat} {s : List UInt8} (h : PR.isT ts k s = true) : (PR.hd ts).kind = k ∧ (PR.hd ts).text = s := by
  unfold PR.isT at h
  simpa [Bool.and_eq_true] using h
theorem prTake_any (h : PrAt w p T g cap a d c) (hF : TFine T) (s : List UInt8) : Calls Tryz.prog 141 #[ptr p, .string ⟨s.toArray⟩] w fun e w' => Far p w w' ∧ ((PR.isT (T.drop a) 2 s = true ∧ e = .returned (.bool true) ∧ PrAt w' p T g cap (a + 1) d c) ∨ (PR.isT (T.drop a) 2 s = false ∧ e = .returned (.bool false) ∧ PrAt w' p T g cap a d c)) := by
  have HI := Lib.hid (prIs_any h 2 s)
  have HS := Lib.hid (fun W (hb : Below w.heap.size w W) hk => prStep_any (h.later hb) hF hk)
  have HK : Hid (PR.isT (T.drop a) 2 s = true → (T.getD a lt0).kind ≠ 0) := fun hh => by
    have := (isT_kind hh).1
    rw [hd_drop h.lt] at this
    omega
  have H := Lib.hid h
  clear h hF
  generalize hr : PR.isT (T.drop a) 2 s = r at *
  clear hr
  go_enter Tryz.func141, Tryz.ntmps141
  go_wp2_with fail
  refine HI.out.mono ?_
  rintro e w1 ⟨rfl, hb⟩
  cases r with
  | true =>
    go_wp2_with fail
    refine (HS.out _ hb (HK.out trivial)).mono ?_
    rintro e w2 ⟨po, rfl, _, hp2, hf2⟩
    simp only [tkV]
    go_wp2_with fail
    go_ret
    exact ⟨(Far.below hb).trans hf2, by first | exact ⟨rfl, hp2⟩ | exact .inl ⟨rfl, rfl, hp2⟩⟩
  | false =>
    go_wp2_with fail
    go_ret
    exact ⟨Far.below hb, by first | exact ⟨rfl, H.out.later hb⟩ | exact .inr ⟨rfl, rfl, H.out.later hb⟩⟩
/-- .. or the parser gives up -/
theorem prWant_any (h : PrAt w p T g cap a d c) (hF : TFine T) (s : List UInt8) : Calls Tryz.prog 103 #[ptr p, .string ⟨s.toArray⟩] w (PqPost p T g cap a d w UnitV (PR.want s (T.drop a) c)) := by
  have HT := Lib.hid (prTake_any h hF s)
  have HR : Hid (PR.want s (T.drop a) c = if PR.isT (T.drop a) 2 s = true then .ok () (PR.stp (T.drop a)) c else .bad 2 (T.getD a lt0).at_) := by
    show _ = _; unfold PR.want PR.form; rw [hd_drop h.lt]
  have HK : Hid (PR.isT (T.drop a) 2 s = true → PR.stp (T.drop a) = T.drop (a + 1)) := fun hh => by
    refine stp_drop h.lt ?_
    have := (isT_kind hh).1
    rw [hd_drop h.lt] at this
    omega
  have HFO := Lib.hid (fun W (h : PrAt W p T g cap a d c) => prForm_any h)
  rw [HR.out]
  clear h hF HR
  generalize hr : PR.isT (T.drop a) 2 s = r at *
  clear hr
  cases r with
  | true =>
    rw [if_pos rfl, HK.out rfl]
    go_enter Tryz.func103, Tryz.ntmps103
    go_wp2_with fail
    refine HT.out.mono ?_
    rintro e w1 ⟨hf1, ⟨_, rfl, hp1⟩ | ⟨hr, _, _⟩⟩
    · go_wp2_with fail
      go_end0
      exact ⟨hf1, _, a + 1, rfl, by omega, rfl, hp1, rfl⟩
    · cases hr
  | false =>
    rw [if_neg (by simp)]
    go_enter Tryz.func103, Tryz.ntmps103
    go_wp2_with fail
    refine HT.out.mono ?_
    rintro e w1 ⟨hf1, ⟨hr, _, _⟩ | ⟨_, rfl, hp1⟩⟩
    · cases hr
    · go_wp2_with fail
      refine (HFO.out _ hp1).mono ?_
      rintro e w2 ⟨rfl, hb2⟩
      exact ⟨rfl, hf1.trans (Far.below hb2), rfl⟩
/-- a parenthesis is opened -/
theorem prOpen_any (h : PrAt w p T g cap a d c) (hF : TFine T) (k : Nat) (hk : d + k = 60) : Calls Tryz.prog 183 #[ptr p] w (PqPost p T g cap a (d + 1) w UnitV (PR.opn k (T.drop a) c)) := by
  have HN := Lib.hid (prNext_any h)
  have HI := Lib.hid (fun W (h : PrAt W p T g cap a d c) => prIs_any h 2 [40])
  have HS := Lib.hid (fun W d (h : PrAt W p T g cap a d c) hk => prStep_any h hF hk)
  have HFO := Lib.hid (fun W (h : PrAt W p T g cap a d c) => prForm_any h)
  have HFA := Lib.hid (fun q W => prFail_any 4 q W)
  have hpos := hF.pos a h.lt
  have HR : Hid (PR.opn k (T.drop a) c = if PR.isT (T.drop a) 2 [40] = true then (if k = 0 then .bad 4 (T.getD a lt0).at_ else .ok () (PR.stp (T.drop a)) c) else .bad 2 (T.getD a lt0).at_) := by
    show _ = _; unfold PR.opn PR.form; rw [hd_drop h.lt]
  have HK : Hid (PR.isT (T.drop a) 2 [40] = true → (T.getD a lt0).kind ≠ 0) := fun hh => by
    have := (isT_kind hh).1
    rw [hd_drop h.lt] at this
    omega
  have HK2 : Hid ((T.getD a lt0).kind ≠ 0 → PR.stp (T.drop a) = T.drop (a + 1)) := fun hh => stp_drop h.lt hh
  have H := Lib.hid h
  rw [HR.out]
  clear h hF HR
  have hfd0 := tk_f0; have hfd1 := tk_f1; have hfd2 := tk_f2; have hfd3 := tk_f3
  generalize hr : PR.isT (T.drop a) 2 [40] = r at *
  clear hr
  cases r with
  | false =>
    rw [if_neg (by simp)]
    generalize T.getD a lt0 = t at *
    obtain ⟨kd, tx, ro, pa⟩ := t
    go_enter Tryz.func183, Tryz.ntmps183
    go_wp2_with fail
    refine HN.out.mono ?_
    rintro e w1 ⟨po, rfl, _, hb1⟩
    simp only [tkV]
    go_wp2_with fail
    refine (HI.out _ (H.out.later hb1)).mono ?_
    rintro e w2 ⟨rfl, hb2⟩
    go_wp2_with fail
    refine (HFO.out _ ((H.out.later hb1).later hb2)).mono ?_
    rintro e w3 ⟨rfl, hb3⟩
    exact ⟨rfl, Far.below (ext_step (ext_step hb1 hb2) hb3), rfl⟩
  | true =>
    rw [if_pos rfl, HK2.out (HK.out rfl)]
    have HKK := Lib.hid (HK.out rfl)
    clear HK HK2 HFO
    generalize ht : T.getD a lt0 = t at *
    obtain ⟨kd, tx, ro, pa⟩ := t
    clear ht
    by_cases hk0 : k = 0
    · rw [if_pos hk0]
      have hd : d = 60 := by omega
      go_enter Tryz.func183, Tryz.ntmps183
      go_wp2_with fail
      refine HN.out.mono ?_
      rintro e w1 ⟨po, rfl, _, hb1⟩
      simp only [tkV]
      go_wp2_with fail
      refine (HI.out _ (H.out.later hb1)).mono ?_
      rintro e w2 ⟨rfl, hb2⟩
      have h2 := (H.out.later hb1).later hb2
      obtain ⟨_, _, c2, _⟩ := h2.cells
      have f2 := h2.frz 2
      rw [hd] at c2
      go_wp2_with fail
      refine (HFA.out pa _).mono ?_
      rintro e w3 ⟨rfl, rfl⟩
      exact ⟨rfl, (Far.below (ext_step hb1 hb2)).set 2 _, rfl⟩
    · rw [if_neg hk0]
      have hd : d ≤ 59 := by omega
      go_enter Tryz.func183, Tryz.ntmps183
      go_wp2_with fail
      refine HN.out.mono ?_
      rintro e w1 ⟨po, rfl, _, hb1⟩
      simp only [tkV]
      go_wp2_with fail
      refine (HI.out _ (H.out.later hb1)).mono ?_
      rintro e w2 ⟨rfl, hb2⟩
      have h2 := (H.out.later hb1).later hb2
      obtain ⟨_, _, c2, _⟩ := h2.cells
      have f2 := h2.frz 2
      have h3 := h2.put 2 (.int .i64 ((d + 1 : Nat) : Int)) (a' := a) (d' := d + 1) (c' := c) rfl h2.lt h2.cle (by omega)
      rw [show ((d + 1 : Nat) : Int) = (d : Int) + 1 by omega] at h3
      have HF3 := Lib.hid ((Far.below (p := p) (ext_step hb1 hb2)).set 2 (.int .i64 ((d : Int) + 1)))
      have H3 := Lib.hid h3
      have hlim : ¬ (60 : Int) < (d : Int) + 1 := by omega
      clear h2 h3 hb1 hb2
      go_wp2_with fail
      refine (HS.out _ _ H3.out HKK.out).mono ?_
      rintro e w4 ⟨po4, rfl, _, hp4, hf4⟩
      simp only [tkV]
      go_wp2_with fail
      go_end0
      exact ⟨HF3.out.trans hf4, _, a + 1, rfl, by omega, rfl, hp4, rfl⟩
/-- .. and shut -/
theorem prShut_any (h : PrAt w p T g cap a (d + 1) c) (hF : TFine T) : Calls Tryz.prog 184 #[ptr p] w (PqPost p T g cap a d w UnitV (PR.want [41] (T.drop a) c)) := by
  have HW := Lib.hid (prWant_any h hF [41])
  have hd := h.dle
  clear h hF
  generalize PR.want [41] (T.drop a) c = r at *
  cases r with
  | bad en q =>
    go_enter Tryz.func184, Tryz.ntmps184
    go_wp2_with fail
    refine HW.out.mono ?_
    rintro e w1 ⟨hf1, rfl⟩
    exact ⟨rfl, hf1, rfl⟩
  | ok u ts c1 =>
    go_enter Tryz.func184, Tryz.ntmps184
    go_wp2_with fail
    refine HW.out.mono ?_
    rintro e w1 ⟨hf1, v, a', rfl, ha, rfl, hp1, hv⟩
    have hv : v = .tuple #[] := hv
    subst hv
    obtain ⟨_, _, c2, _⟩ := hp1.cells
    have f2 := hp1.frz 2
    have h3 := hp1.put 2 (.int .i64 ((d : Nat) : Int)) (a' := a') (d' := d) (c' := c1) rfl hp1.lt hp1.cle (by omega)
    have H3 := Lib.hid h3
    have HF1 := Lib.hid hf1
    have hdd : ((d + 1 : Nat) : Int) - 1 = (d : Nat) := by omega
    clear h3 hf1 hp1
    go_wp2_with fail
    go_end0
    exact ⟨HF1.out.set 2 _, _, a', rfl, ha, rfl, by first | exact H3.out | (simpa using H3.out), rfl⟩
/-- a token's variable is written -/
theorem tk_store {W : World} {B : Nat} {z0 z1 z2 z3 : Value} (v0 v1 v2 v3 : Value) (h : W.heap[B]? = some (.cells #[z0, z1, z2, z3] 47 (0, 0))) :
    ((((W.setCell ⟨B, 0, none⟩ v0).setCell ⟨B, 1, none⟩ v1).setCell ⟨B, 2, none⟩ v2).setCell ⟨B, 3, none⟩ v3).heap[B]? = some (.cells #[v0, v1, v2, v3] 47 (0, 0)) := by
  have h1 : (W.setCell ⟨B, 0, none⟩ v0).heap[B]? = some (.cells #[v0, z1, z2, z3] 47 (0, 0)) := by rw [heap_setCell_same _ _ _ _ _ _ h]; rfl
  have h2 : ((W.setCell ⟨B, 0, none⟩ v0).setCell ⟨B, 1, none⟩ v1).heap[B]? = some (.cells #[v0, v1, z2, z3] 47 (0, 0)) := by rw [heap_setCell_same _ _ _ _ _ _ h1]; rfl
  have h3 : (((W.setCell ⟨B, 0, none⟩ v0).setCell ⟨B, 1, none⟩ v1).setCell ⟨B, 2, none⟩ v2).heap[B]? = some (.cells #[v0, v1, v2, z3] 47 (0, 0)) := by rw [heap_setCell_same _ _ _ _ _ _ h2]; rfl
  rw [heap_setCell_same _ _ _ _ _ _ h3]; rfl
theorem tk_far {W : World} {B : Nat} (v0 v1 v2 v3 : Value) : ∀ k, k < W.heap.size → k ≠ B → ((((W.setCell ⟨B, 0, none⟩ v0).setCell ⟨B, 1, none⟩ v1).setCell ⟨B, 2, none⟩ v2).setCell ⟨B, 3, none⟩ v3).heap[k]? = W.heap[k]? := fun k _ hk => by
  have e : ∀ (W : World) j v, (W.setCell ⟨B, j, none⟩ v).heap[k]? = W.heap[k]? := fun W j v => Below.heap_setCell _ _ _ _ (by show k ≠ B; exact hk)
  rw [e, e, e, e]
/-- what leaves the parser and the elder blocks as they are -/
theorem PrAt.keepN {B : Nat} {cs : Array Value} {t : TypeId} (h : PrAt w p T g cap a d c) (hb : w.heap[B]? = some (.cells cs t (0, 0))) (h1 : t ≠ 117) (h2 : t ≠ 28) (hp : B ≠ p) (hg : g ≠ B) (hk : ∀ k, k < w.heap.size → k ≠ B → w'.heap[k]? = w.heap[k]?) : PrAt w' p T g cap a d c := by
  have key : ∀ i v', w.cell? ⟨g, i, none⟩ = some v' → w'.cell? ⟨g, i, none⟩ = some v' := fun i v' hv =>
    (World.cell?_of_block (w := w) (w' := w') (a := ⟨g, i, none⟩) (hk _ (World.block_lt_of_cell? w _ hv) hg)).trans hv
  refine ⟨(hk _ h.plt (fun e => hp e.symm)).trans h.row, ⟨fun i hi => key _ _ (h.tok.c0 i hi), fun i hi => key _ _ (h.tok.c1 i hi), fun i hi => ?_, fun i hi => key _ _ (h.tok.c3 i hi)⟩, h.lt, h.cle, h.dle⟩
  obtain ⟨v', g1, g2⟩ := h.tok.c2 i hi
  exact ⟨v', key _ _ g1, g2.put hb h1 h2 hk⟩
/-- a name -/
theorem prName_any (h : PrAt w p T g cap a d c) (hF : TFine T) : Calls Tryz.prog 102 #[ptr p] w (PqPost p T g cap a d w TkV (PR.nm (T.drop a) c)) := by
  have htx := hF.txt a h.lt
  have HN := Lib.hid (fun W (hb : Below w.heap.size w W) => prNext_any (h.later hb))
  have HS := Lib.hid (fun W (hb : Below w.heap.size w W) hk => prStep_any (h.later hb) hF hk)
  have HFO := Lib.hid (fun W (hb : Below w.heap.size w W) => prForm_any (h.later hb))
  have HNM := Lib.hid (fun W => Name_any (T.getD a lt0).text W (by omega))
  have HR : Hid (PR.nm (T.drop a) c = if (T.getD a lt0).kind = 1 ∧ LX.nameB (T.getD a lt0).text = true then .ok (T.getD a lt0) (PR.stp (T.drop a)) c else .bad 2 (T.getD a lt0).at_) := by
    show _ = _; unfold PR.nm PR.form; rw [hd_drop h.lt]
  have HK2 : Hid ((T.getD a lt0).kind ≠ 0 → PR.stp (T.drop a) = T.drop (a + 1)) := fun hh => stp_drop h.lt hh
  have HPL := Lib.hid h.plt
  have HGL := Lib.hid h.glt
  rw [HR.out]
  clear h hF HR
  generalize ht : T.getD a lt0 = t at *
  clear ht
  obtain ⟨kd, tx, ro, pa⟩ := t
  simp only at HNM HK2 ⊢
  generalize LX.nameB tx = nb at *
  generalize hTX : (⟨tx.toArray⟩ : ByteArray) = TX at *
  have HTX := Lib.hid hTX
  clear hTX
  have hz : Below w.heap.size w (w.alloc (.cells #[.int .i64 0, .string ⟨#[]⟩, .pointer none, .int .i64 0] 47)) := re_alloc _ _
  have HZ := Lib.hid hz
  clear hz
  by_cases hk1 : kd = 1
  · subst hk1
    cases nb with
    | true =>
      rw [if_pos ⟨rfl, rfl⟩, HK2.out (by simp)]
      go_enter Tryz.func102, Tryz.ntmps102
      go_wp2_with fail
      refine (HN.out _ HZ.out).mono ?_
      rintro e w1 ⟨po, rfl, _, hb1⟩
      simp only [tkV, HTX.out]
      go_wp2_with fail
      refine (HNM.out _).mono ?_
      rintro e w2 ⟨rfl, rfl⟩
      go_wp2_with fail
      have hb2 := ext_alloc (ext_step HZ.out hb1) (.cells #[.int .i64 1, .string TX, .pointer po, .int .i64 (pa : Nat)] 47)
      refine (HS.out _ hb2 (by simp)).mono ?_
      rintro e w3 ⟨po3, rfl, hre3, hp3, hf3⟩
      simp only [tkV, HTX.out]
      have r0 : w3.heap[w.heap.size]? = some (.cells #[.int .i64 0, .string ⟨#[]⟩, .pointer none, .int .i64 0] 47 (0, 0)) := by
        have hw : w.heap.size < w1.heap.size := (Array.getElem?_eq_some_iff.1 (heap_in (heap_alloc_last w _) hb1)).1
        refine (hf3.block _ (by simp; omega) (fun e => ?_)).trans (heap_in (heap_in (heap_alloc_last w _) hb1) (re_alloc w1 _))
        have e := Option.some.inj e
        have := HPL.out
        omega
      have hz0 := fun j => frozen_of_row _ _ j _ _ r0
      have d0 : w3.cell? ⟨w.heap.size, 0, none⟩ = some (.int .i64 0) := by rw [cell_of_row _ _ _ _ _ _ r0]; rfl
      have d1 : w3.cell? ⟨w.heap.size, 1, none⟩ = some (.string ⟨#[]⟩) := by rw [cell_of_row _ _ _ _ _ _ r0]; rfl
      have d2 : w3.cell? ⟨w.heap.size, 2, none⟩ = some (.pointer none) := by rw [cell_of_row _ _ _ _ _ _ r0]; rfl
      have d3 : w3.cell? ⟨w.heap.size, 3, none⟩ = some (.int .i64 0) := by rw [cell_of_row _ _ _ _ _ _ r0]; rfl
      have HRE3 := Lib.hid (IsReO.put hre3 r0 (by decide) (by decide) (tk_far (.int .i64 1) (.string TX) (.pointer po3) (.int .i64 (pa : Nat))))
      have HP3 : Hid _ := Lib.hid (hp3.keepN r0 (by decide) (by decide) (by have := HPL.out; omega) (by have := HGL.out; omega) (tk_far (.int .i64 1) (.string TX) (.pointer po3) (.int .i64 (pa : Nat))))
      have HF3 := Lib.hid ((((((Far.below hb2).trans hf3).setNewP (j := 0) (v := .int .i64 1) (Nat.le_refl _)).setNewP (j := 1) (v := .string TX) (Nat.le_refl _)).setNewP (j := 2) (v := .pointer po3) (Nat.le_refl _)).setNewP (j := 3) (v := .int .i64 (pa : Nat)) (Nat.le_refl _))
      have HROW := Lib.hid (tk_store (.int .i64 1) (.string TX) (.pointer po3) (.int .i64 (pa : Nat)) r0)
      clear hre3 hp3 hf3 hb2 r0
      go_wp2_with fail
      have e0 := cell_of_row _ _ 0 _ _ _ HROW.out
      have e1 := cell_of_row _ _ 1 _ _ _ HROW.out
      have e2 := cell_of_row _ _ 2 _ _ _ HROW.out
      have e3 := cell_of_row _ _ 3 _ _ _ HROW.out
      simp at e0 e1 e2 e3
      refine bodyPost_ret (v := .agg #[.int .i64 1, .string TX, .pointer po3, .int .i64 (pa : Nat)]) (by simp [results, Tryz.results102, go_sem, e0, e1, e2, e3]) rfl ?_
      exact ⟨HF3.out, _, a + 1, rfl, by omega, rfl, HP3.out, .pointer po3, by rw [tkV, HTX.out]; rfl, HRE3.out⟩
    | false =>
      rw [if_neg (by simp)]
      go_enter Tryz.func102, Tryz.ntmps102
      go_wp2_with fail
      refine (HN.out _ HZ.out).mono ?_
      rintro e w1 ⟨po, rfl, _, hb1⟩
      simp only [tkV, HTX.out]
      go_wp2_with fail
      refine (HNM.out _).mono ?_
      rintro e w2 ⟨rfl, rfl⟩
      have hb2 := ext_alloc (ext_step HZ.out hb1) (.cells #[.int .i64 1, .string TX, .pointer po, .int .i64 (pa : Nat)] 47)
      go_wp2_with fail
      refine (HFO.out _ hb2).mono ?_
      rintro e w3 ⟨rfl, hb3⟩
      exact ⟨rfl, Far.below (ext_step hb2 hb3), rfl⟩
  · rw [if_neg (fun hh => hk1 hh.1)]
    have hk' : (((kd : Nat) : Int) != 1) = true := by
      have : (((kd : Nat) : Int) == 1) = false := by rw [beq_eq_false_iff_ne]; omega
      rw [bne, this]; rfl
    go_enter Tryz.func102, Tryz.ntmps102
    go_wp2_with fail
    refine (HN.out _ HZ.out).mono ?_
    rintro e w1 ⟨po, rfl, _, hb1⟩
    simp only [tkV, HTX.out]
    have hb2 := ext_alloc (ext_step HZ.out hb1) (.cells #[.int .i64 (kd : Nat), .string TX, .pointer po, .int .i64 (pa : Nat)] 47)
    go_wp2_with fail
    refine (HFO.out _ hb2).mono ?_
    rintro e w3 ⟨rfl, hb3⟩
    exact ⟨rfl, Far.below (ext_step hb2 hb3), rfl⟩
/-- a text in quotes -/
theorem prQuoted_any (h : PrAt w p T g cap a d c) (hF : TFine T) : Calls Tryz.prog 204 #[ptr p] w (PqPost p T g cap a d w StrV (PR.quo (T.drop a) c)) := by
  have HN := Lib.hid (prNext_any h)
  have HS := Lib.hid (fun W (hb : Below w.heap.size w W) hk => prStep_any (h.later hb) hF hk)
  have HFO := Lib.hid (fun W (hb : Below w.heap.size w W) => prForm_any (h.later hb))
  have HR : Hid (PR.quo (T.drop a) c = if (T.getD a lt0).kind = 3 then .ok (T.getD a lt0).text (PR.stp (T.drop a)) c else .bad 2 (T.getD a lt0).at_) := by
    show _ = _; unfold PR.quo PR.form; rw [hd_drop h.lt]
  have HK2 : Hid ((T.getD a lt0).kind ≠ 0 → PR.stp (T.drop a) = T.drop (a + 1)) := fun hh => stp_drop h.lt hh
  rw [HR.out]
  clear h hF HR
  generalize ht : T.getD a lt0 = t at *
  clear ht
  obtain ⟨kd, tx, ro, pa⟩ := t
  simp only at HK2 ⊢
  have hfd0 := tk_f0; have hfd1 := tk_f1; have hfd2 := tk_f2; have hfd3 := tk_f3
  by_cases hk1 : kd = 3
  · subst hk1
    rw [if_pos rfl, HK2.out (by simp)]
    go_enter Tryz.func204, Tryz.ntmps204
    go_wp2_with fail
    refine HN.out.mono ?_
    rintro e w1 ⟨po, rfl, _, hb1⟩
    simp only [tkV]
    go_wp2_with fail
    refine (HS.out _ hb1 (by simp)).mono ?_
    rintro e w2 ⟨po2, rfl, _, hp2, hf2⟩
    simp only [tkV]
    go_wp2_with fail
    go_ret
    exact ⟨(Far.below hb1).trans hf2, _, a + 1, rfl, by omega, rfl, hp2, rfl⟩
  · rw [if_neg hk1]
    have hk' : (((kd : Nat) : Int) != 3) = true := by
      have : (((kd : Nat) : Int) == 3) = false := by rw [beq_eq_false_iff_ne]; omega
      rw [bne, this]; rfl
    go_enter Tryz.func204, Tryz.ntmps204
    go_wp2_with fail
    refine HN.out.mono ?_
    rintro e w1 ⟨po, rfl, _, hb1⟩
    simp only [tkV]
    go_wp2_with fail
    refine (HFO.out _ hb1).mono ?_
    rintro e w3 ⟨rfl, hb3⟩
    exact ⟨rfl, Far.below (ext_step hb1 hb3), rfl⟩
end Go.Proofs.YtgamknphlmcgnaaGreatDoor
namespace Go.Proofs.YtgamknphlmcgnaaGreatDoor
open Go.RowKit
theorem deepS_esc (r : List UInt8) (n m : Int) : PS.deepS (92 :: r) n m = PS.deepS (r.drop 1) n m := by
  cases r with
  | nil => simp [PS.deepS]
  | cons d r => rw [PS.deepS, if_pos rfl]; rfl
def NestAt (s : List UInt8) (R : Int) (w : World) (de mo i : Value) (wr : World) : Prop := ∃ (j : Nat) (n m : Int), j ≤ s.length + 1 ∧ i = .int .i64 j ∧ de = .int .i64 n ∧ mo = .int .i64 m ∧ -(j : Int) ≤ n ∧ n ≤ j ∧ 0 ≤ m ∧ m ≤ j ∧ Hid (PS.deepS (s.drop j) n m = R) ∧ wr = w
set_option maxRecDepth 100000 in
set_option maxHeartbeats 1600000 in
theorem nested_any (s : List UInt8) (hs : s.length ≤ 1099511627776) (w : World) : Calls Tryz.prog 197 #[.string ⟨s.toArray⟩] w fun e w' => e = .returned (.int .i64 (deepW s)) ∧ w' = w := by
  have hsz : (⟨s.toArray⟩ : ByteArray).size = s.length := str_size s
  have HIDX := Lib.hid (fun i (h : i < s.length) W => str_at s i h W)
  obtain ⟨R, hR⟩ : ∃ R, deepW s = R := ⟨_, rfl⟩
  have HR : Hid (PS.deepS (s.drop 0) 0 0 = R) := hR
  rw [hR]
  clear hR
  generalize (⟨s.toArray⟩ : ByteArray) = S at *
  go_enter Tryz.func197, Tryz.ntmps197
  go_wp2_with fail
  go_loopw [3, 4, 5] (fun de mo i wr => NestAt s R w de mo i wr) (fun _ _ i _ => s.length + 1 - (intOf i).toNat)
  case atStart => exact ⟨0, 0, 0, by omega, rfl, rfl, rfl, by omega, by omega, by omega, by omega, HR.out, rfl⟩
  case round =>
    clear HR
    obtain ⟨j, n, m, hj, rfl, rfl, rfl, h1, h2, h3, h4, hgo, rfl⟩ := hrel
    by_cases hlt : j < s.length
    · have hidx := HIDX.out j hlt
      have hlt' : (j : Int) < (s.length : Nat) := by omega
      have hd : s.drop j = s.getD j 0 :: s.drop (j + 1) := by
        rw [List.drop_eq_getElem_cons hlt]; congr 1; simp [List.getD, hlt]
      rw [hd] at hgo
      have hdd : (s.drop (j + 1)).drop 1 = s.drop (j + 2) := by rw [List.drop_drop]
      have e92 : ((((s.getD j 0).toNat : Nat) : Int) == 92) = decide (s.getD j 0 = 92) := byteIs (s.getD j 0) 92 (by omega)
      have e40 : ((((s.getD j 0).toNat : Nat) : Int) == 40) = decide (s.getD j 0 = 40) := byteIs (s.getD j 0) 40 (by omega)
      have e41 : ((((s.getD j 0).toNat : Nat) : Int) == 41) = decide (s.getD j 0 = 41) := byteIs (s.getD j 0) 41 (by omega)
      clear hd
      generalize s.getD j 0 = c at *
      by_cases g92 : c = 92
      · have HG : Hid (PS.deepS (s.drop (j + 2)) n m = R) := by
          show _ = _
          rw [← hdd, ← deepS_esc, ← g92]; exact hgo.out
        have e1 : (((c.toNat : Nat) : Int) == 92) = true := by rw [g92]; rfl
        clear hgo hdd e92 e40 e41
        go_wp2_with fail
        go_roundw
        case rel => exact ⟨j + 2, n, m, by omega, by go_num, rfl, rfl, by omega, by omega, by omega, by omega, HG.out, rfl⟩
        case measure => simp [intOf]; omega
      · have HG : Hid ((if c = 40 then PS.deepS (s.drop (j + 1)) (n + 1) (max m (n + 1)) else if c = 41 then PS.deepS (s.drop (j + 1)) (n - 1) m else PS.deepS (s.drop (j + 1)) n m) = R) := by
          show _ = _
          rw [← PS.deepS_cons _ _ _ _ g92]; exact hgo.out
        have e1 : (((c.toNat : Nat) : Int) == 92) = false := by
          have e := e92; rw [decide_eq_false g92] at e; exact e
        clear hgo hdd e92
        by_cases g40 : c = 40
        · rw [if_pos g40] at HG
          have e2 : (((c.toNat : Nat) : Int) == 40) = true := by rw [g40]; rfl
          clear e40 e41
          go_wp2_with fail
          go_roundw
          case rel => exact ⟨j + 1, n + 1, max m (n + 1), by omega, by go_num, by go_num, by first | rfl | go_num, by omega, by omega, by omega, by omega, HG.out, rfl⟩
          case measure => simp [intOf]; omega
        · rw [if_neg g40] at HG
          have e2 : (((c.toNat : Nat) : Int) == 40) = false := by have e := e40; rw [decide_eq_false g40] at e; exact e
          by_cases g41 : c = 41
          · rw [if_pos g41] at HG
            have e3 : (((c.toNat : Nat) : Int) == 41) = true := by rw [g41]; rfl
            clear e40 e41
            go_wp2_with fail
            go_roundw
            case rel => exact ⟨j + 1, n - 1, m, by omega, by go_num, by go_num, rfl, by omega, by omega, by omega, by omega, HG.out, rfl⟩
            case measure => simp [intOf]; omega
          · rw [if_neg g41] at HG
            have e3 : (((c.toNat : Nat) : Int) == 41) = false := by have e := e41; rw [decide_eq_false g41] at e; exact e
            clear e40 e41
            go_wp2_with fail
            go_roundw
            case rel => exact ⟨j + 1, n, m, by omega, by go_num, rfl, rfl, by omega, by omega, by omega, by omega, HG.out, rfl⟩
            case measure => simp [intOf]; omega
    · have HE : Hid (R = m) := by
        show _ = _
        have := hgo.out
        rw [List.drop_eq_nil_of_le (by omega)] at this
        rw [← this]; rfl
      have hlt' : ¬ (j : Int) < (s.length : Nat) := by omega
      clear hgo
      go_wp2_with fail
      go_ret
      exact ⟨by rw [HE.out]; rfl, rfl⟩
end Go.Proofs.YtgamknphlmcgnaaGreatDoor
namespace Go.Proofs.YtgamknphlmcgnaaGreatDoor
theorem readW_nf1 (s : List UInt8) (r : RE) (h : (readW s).1 = some r) : RE.nf r ∧ RE.size r ≤ 1000 := by
  obtain ⟨h1, h2, _⟩ := readW_nf (s := s) (x := r) (e := (readW s).2.1) (a := (readW s).2.2) (by rw [← h])
  exact ⟨h1, h2⟩
namespace LX
theorem qGo_len : ∀ (f : Nat) (l : List UInt8) (i : Nat) (out o : List UInt8) (j : Option Nat), qGo f l i out = (o, j) → o.length ≤ out.length + l.length
  | 0, l, i, out, o, j, h => by rw [qGo] at h; cases h; omega
  | f + 1, [], i, out, o, j, h => by rw [qGo] at h; cases h; omega
  | f + 1, c :: r, i, out, o, j, h => by
    rw [qGo] at h
    split at h
    · have := qGo_len f _ _ _ _ _ h; simp at this ⊢; omega
    · split at h
      · cases h; omega
      · have := qGo_len f _ _ _ _ _ h
        rw [List.length_drop] at this
        have hq : 1 ≤ qStep c r := by unfold qStep; split <;> (try split) <;> omega
        simp at this ⊢
        omega
/-- what else is known of a token -/
structure TokMore (s : List UInt8) (t : LT) : Prop where
  nf : ∀ r, t.re = some r → RE.nf r ∧ RE.size r ≤ 1000
  len : t.text.length ≤ s.length
theorem token_more (s : List UInt8) (a : Nat) (h : (token s a).2.1 = 0) : TokMore s (token s a).1 := by
  unfold token at h ⊢
  have hdl : (s.drop a).length ≤ s.length := by rw [List.length_drop]; omega
  match hd : s.drop a with
  | [] => exact ⟨fun r hr => (by simp at hr), by simp⟩
  | b :: r =>
    rw [hd] at h hdl
    have hdl : r.length + 1 ≤ s.length := hdl
    simp only at h ⊢
    have hn := nameN_le (b :: r)
    split
    · split
      · exact ⟨fun r hr => by simp at hr, by simp at hn ⊢; omega⟩
      · exact ⟨fun r hr => by simp at hr, by simp at hn ⊢; omega⟩
    split
    · exact ⟨fun r hr => by simp at hr, by simp; omega⟩
    split
    · unfold quoted
      split
      · exact ⟨fun r hr => by simp at hr, by simp⟩
      · rename_i k hk
        split
        · rename_i o hq
          have := qGo_len _ _ _ _ _ _ hq
          exact ⟨fun r hr => by simp at hr, by simp at this ⊢; omega⟩
        · exact ⟨fun r hr => by simp at hr, by simp⟩
    split
    · unfold expr
      split
      · exact ⟨fun r hr => by simp at hr, by simp⟩
      · split
        · exact ⟨fun r hr => readW_nf1 _ _ hr, by simp⟩
        · exact ⟨fun r hr => by simp at hr, by simp⟩
    · exact ⟨fun r hr => by simp at hr, by simp⟩
theorem allGo_more (s : List UInt8) : ∀ (f p : Nat) (out : List LT), (∀ t ∈ out, TokMore s t) → ∀ t ∈ (allGo s f p out).1, TokMore s t
  | 0, _, _, _, t, h => by rw [allGo] at h; cases h
  | f + 1, p, out, ho, t, h => by
    rw [allGo] at h
    split at h
    · cases h
    · rename_i he
      have hn : TokMore s (next s p).1 := token_more s _ (by unfold next at he; omega)
      have ho' : ∀ t ∈ out ++ [(next s p).1], TokMore s t := fun t ht => by
        rcases List.mem_append.1 ht with h | h
        · exact ho t h
        · rw [List.mem_singleton.1 h]; exact hn
      split at h
      · exact ho' t h
      · exact allGo_more s f _ _ ho' t h
end LX
theorem lexW_more (s : List UInt8) : ∀ t ∈ (lexW s).1, LX.TokMore s t := fun t ht => by
  unfold lexW at ht
  split at ht
  · cases ht
  · exact LX.allGo_more s _ _ _ (by simp) t ht
theorem lexW_short (s : List UInt8) (h : (lexW s).2.1 = 0) : s.length ≤ 65536 := by
  unfold lexW at h
  split at h
  · cases h
  · omega
theorem mem_getD {l : List LT} {k : Nat} (h : k < l.length) : l.getD k lt0 ∈ l := by
  simp only [List.getD, List.getElem?_eq_getElem h, Option.getD_some]; exact List.getElem_mem h
/-- a text's tokens -/
theorem lexW_fine (s : List UInt8) (h : (lexW s).2.1 = 0) : TFine (lexW s).1 ∧ 0 < (lexW s).1.length := by
  rcases lexW_res s with ⟨_, _, hf⟩ | ⟨_, he, _⟩
  · have hs := lexW_short s h
    have hm := lexW_more s
    generalize (lexW s).1 = T at *
    obtain ⟨⟨h1, h2⟩, m, t, rfl, ht, hmm⟩ := hf
    have hpos : ∀ k, k < (m ++ [t]).length → k ≤ ((m ++ [t]).getD k lt0).at_ := by
      intro k
      induction k with
      | zero => intro _; exact Nat.zero_le _
      | succ k ih =>
        intro hk
        have h3 := ih (by omega)
        have := List.pairwise_iff_getElem.1 h2 k (k + 1) (by omega) hk (by omega)
        have e : ∀ j (hj : j < (m ++ [t]).length), (m ++ [t]).getD j lt0 = (m ++ [t])[j] := fun j hj => by simp only [List.getD, List.getElem?_eq_getElem hj, Option.getD_some]
        rw [e _ hk]
        rw [e _ (by omega)] at h3
        omega
    have hlen : (m ++ [t]).length ≤ s.length + 1 := by
      have h3 := hpos ((m ++ [t]).length - 1) (by simp)
      have := (h1 _ (mem_getD (show (m ++ [t]).length - 1 < (m ++ [t]).length by simp))).le
      omega
    refine ⟨⟨by omega, fun k hk => ?_, fun k hk r hr => (hm _ (mem_getD hk)).nf r hr, fun k hk => ?_, fun k hk => ?_, fun k hk => (h1 _ (mem_getD hk)).kind, fun k hk h4 => ?_⟩, by simp⟩
    · rw [List.length_append, List.length_singleton] at hk ⊢
      by_cases e : k < m.length
      · have : (m ++ [t]).getD k lt0 ∈ m := by
          simp only [List.getD, List.getElem?_append_left e, List.getElem?_eq_getElem e, Option.getD_some]; exact List.getElem_mem e
        exact ⟨fun h => absurd h (hmm _ this), fun h => by omega⟩
      · obtain rfl : k = m.length := by omega
        have : (m ++ [t]).getD m.length lt0 = t := by simp [List.getD]
        rw [this]
        exact ⟨fun _ => rfl, fun _ => ht⟩
    · have := (h1 _ (mem_getD hk)).le; omega
    · have := (hm _ (mem_getD hk)).len; omega
    · exact ((h1 _ (mem_getD hk)).re h4).2.2
  · omega
end Go.Proofs.YtgamknphlmcgnaaGreatDoor
