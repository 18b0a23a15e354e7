/-
  'SetRuns', walked through the program: for whatever set and whatever number the statement's function returns true, and nothing that lay has turned.
-/
import Derived.Test.YtampjjllpdljaaaSetRP
import Derived.Test.YtampjjllpdljaaaBut
import Derived.Test.YtampjjllpdljaaaSetH
import Derived.Test.YtampjjllpdljaaaSetB
set_option linter.unusedSimpArgs false
set_option linter.unusedVariables false
namespace Go.Proofs.Ytampjjllpdljaaa
open Go.RowKit Go.Shelf
attribute [local go_sem] Oper.semAt_some wide_fn wide_depth

/-- what stands still while the loops go round: the set's box, the number's, the result's, the row of yes and no, and where it is kept -/
structure Stat (n X g : Nat) (s : BS) (stop : Int) (W : World) : Prop where
  box : BoxS W n s
  num : W.cell? ⟨n + 1, 0, none⟩ = some (.int .i64 stop)
  res : W.cell? ⟨n + 1 + 1, 0, none⟩ = some (.bool false)
  resf : W.frozen? ⟨n + 1 + 1, 0, none⟩ = false
  numf : W.frozen? ⟨n + 1, 0, none⟩ = false
  kept : W.cell? ⟨X, 0, none⟩ = some (.slice (some ⟨g, 0, none⟩) 256 256)
  row : ∀ i, i < 256 → W.cell? ⟨g, i, none⟩ = some (.bool (s.has i))
  l1 : n + 3 ≤ X
  l2 : g < X
  l3 : X < W.heap.size
theorem Stat.but {n X g : Nat} {s : BS} {stop : Int} {W W' : World} {M : List Nat} (h : Stat n X g s stop W) (hb : But M W W') (hm : ∀ k ∈ M, X < k) : Stat n X g s stop W' := by
  have l1 := h.l1; have l2 := h.l2; have l3 := h.l3
  have no : ∀ k, k ≤ X → k ∉ M := fun k hk hm' => by have := hm k hm'; omega
  have c : ∀ b o, b ≤ X → W'.cell? ⟨b, o, none⟩ = W.cell? ⟨b, o, none⟩ := fun b o hb' => hb.cell (p := ⟨b, o, none⟩) (by simp; omega) (no b hb')
  have f : ∀ b o, b ≤ X → W'.frozen? ⟨b, o, none⟩ = W.frozen? ⟨b, o, none⟩ := fun b o hb' => hb.frozen (p := ⟨b, o, none⟩) (by simp; omega) (no b hb')
  refine ⟨⟨?_, ?_, ?_, ?_⟩, ?_, ?_, ?_, ?_, ?_, ?_, l1, l2, by have := hb.size; omega⟩
  · rw [c _ _ (by omega)]; exact h.box.1
  · rw [c _ _ (by omega)]; exact h.box.2.1
  · rw [c _ _ (by omega)]; exact h.box.2.2.1
  · rw [c _ _ (by omega)]; exact h.box.2.2.2
  · rw [c _ _ (by omega)]; exact h.num
  · rw [c _ _ (by omega)]; exact h.res
  · rw [f _ _ (by omega)]; exact h.resf
  · rw [f _ _ (by omega)]; exact h.numf
  · rw [c _ _ (by omega)]; exact h.kept
  · intro i hi; rw [c _ _ (by omega)]; exact h.row i hi
theorem Stat.later {n X g : Nat} {s : BS} {stop : Int} {W W' : World} (h : Stat n X g s stop W) (hb : Below W.heap.size W W') : Stat n X g s stop W' :=
  h.but (M := []) ((But.refl [] W).below hb) (fun k hk => by simp at hk)

/-- between two rounds of the first loop: where it stands, how many it has seen -/
def I1 (s : BS) (W3 : World) (A N : Nat) (pre : List Byt) (W : World) : Prop :=
  ∃ at' : Nat, at' ≤ 256 ∧ W.cell? ⟨A, 0, none⟩ = some (.int .i64 at') ∧ W.frozen? ⟨A, 0, none⟩ = false ∧ W.cell? ⟨N, 0, none⟩ = some (.int .i64 pre.length) ∧ W.frozen? ⟨N, 0, none⟩ = false ∧ But [A, N] W3 W ∧
    (pre <+: s.bytes → at' = nextB pre)
theorem I1_own (s : BS) (W3 : World) (A N B : Nat) (hB : W3.heap.size ≤ B) : OwnFrom B (I1 s W3 A N) := fun pre W W' row hs hg hr => by
  obtain ⟨t, h1, h2, h3, h4, h5, h6, h7⟩ := hs
  have hr' := fun r e => (hr r e).2
  exact ⟨t, h1, cell_kept h2 hg hr', (frozen_kept h2 hg hr').trans h3, cell_kept h4 hg hr', (frozen_kept h4 hg hr').trans h5, ownFrom_but (β := Unit) hB () W W' row h6 hg hr, h7⟩
def In1 (s : BS) (W3 W : World) (A N Bs at0 n : Nat) (wr : World) : Prop :=
  ∃ at' : Nat, at0 ≤ at' ∧ at' ≤ 256 ∧ wr.cell? ⟨A, 0, none⟩ = some (.int .i64 at') ∧ wr.frozen? ⟨A, 0, none⟩ = false ∧ wr.cell? ⟨N, 0, none⟩ = some (.int .i64 n) ∧ wr.frozen? ⟨N, 0, none⟩ = false ∧ But [A, N] W3 wr ∧
    KeepsOthers W wr ∧ KeepB Bs W wr ∧ ∀ j, at0 ≤ j → j < at' → s.has j = false
theorem But.trans {M M' : List Nat} {w W W' : World} (h : But M w W) (h' : But M' W W') (hm : ∀ k ∈ M', k ∈ M ∨ w.heap.size ≤ k) : But M w W' :=
  ⟨h'.os.trans h.os, h'.tape.trans h.tape, h'.output.trans h.output, Nat.le_trans h.size h'.size, fun k hk hM => (h'.block k (by have := h.size; omega) (fun e => (hm k e).elim hM (fun e' => by omega))).trans (h.block k hk hM)⟩
theorem below_trans {n : Nat} {a b c : World} (h : Below n a b) (h' : Below n b c) : Below n a c :=
  ⟨h'.os.trans h.os, h'.tape.trans h.tape, h'.output.trans h.output, Nat.le_trans h.size h'.size, fun k hk => (h'.block k hk).trans (h.block k hk)⟩
/-- what the last region reads -/
structure FinB (n N S : Nat) (mn m : Int) (a0 a1 a2 a3 : BitVec 64) (W : World) : Prop where
  c : W.cell? ⟨N, 0, none⟩ = some (.int .i64 0) ∧ W.cell? ⟨S, 0, none⟩ = some (.int .i64 mn) ∧ W.cell? ⟨n + 1, 0, none⟩ = some (.int .i64 m) ∧ W.cell? ⟨n, 0, none⟩ = some (.int .u64 (wN a0)) ∧ W.cell? ⟨n, 1, none⟩ = some (.int .u64 (wN a1)) ∧ W.cell? ⟨n, 2, none⟩ = some (.int .u64 (wN a2)) ∧ W.cell? ⟨n, 3, none⟩ = some (.int .u64 (wN a3)) ∧ W.frozen? ⟨n + 1 + 1, 0, none⟩ = false
  l1 : n + 2 < N
  l2 : n + 2 < S
  l3 : N < W.heap.size
  l4 : S < W.heap.size
theorem FinB.but {n N S : Nat} {mn m : Int} {a0 a1 a2 a3 : BitVec 64} {W W' : World} (h : FinB n N S mn m a0 a1 a2 a3 W) (hb : But [] W W') : FinB n N S mn m a0 a1 a2 a3 W' := by
  obtain ⟨⟨h1, h2, h3, h4, h5, h6, h7, h8⟩, l1, l2, l3, l4⟩ := h
  have c : ∀ b o, b < W.heap.size → W'.cell? ⟨b, o, none⟩ = W.cell? ⟨b, o, none⟩ := fun b o hb' => hb.cell (p := ⟨b, o, none⟩) hb' (by simp)
  have f : ∀ b o, b < W.heap.size → W'.frozen? ⟨b, o, none⟩ = W.frozen? ⟨b, o, none⟩ := fun b o hb' => hb.frozen (p := ⟨b, o, none⟩) hb' (by simp)
  have hz := hb.size
  exact ⟨⟨(c _ _ l3).trans h1, (c _ _ l4).trans h2, (c _ _ (by omega)).trans h3, (c _ _ (by omega)).trans h4, (c _ _ (by omega)).trans h5, (c _ _ (by omega)).trans h6, (c _ _ (by omega)).trans h7, (f _ _ (by omega)).trans h8⟩, l1, l2, by omega, by omega⟩
theorem FinB.alloc {n N S : Nat} {mn m : Int} {a0 a1 a2 a3 : BitVec 64} {W : World} (h : FinB n N S mn m a0 a1 a2 a3 W) (o : Obj) : FinB n N S mn m a0 a1 a2 a3 (W.alloc o) := h.but ((But.refl [] W).alloc o)
theorem FinB.drew {n N S : Nat} {mn m : Int} {a0 a1 a2 a3 : BitVec 64} {W : World} (h : FinB n N S mn m a0 a1 a2 a3 W) : FinB n N S mn m a0 a1 a2 a3 W.drew := h.but (But.refl [] W).drew
theorem FinB.put {n N S : Nat} {mn m : Int} {a0 a1 a2 a3 : BitVec 64} {W : World} (h : FinB n N S mn m a0 a1 a2 a3 W) (v : Value) : FinB n N S mn m a0 a1 a2 a3 (W.setCell ⟨n + 1 + 1, 0, none⟩ v) := by
  obtain ⟨⟨h1, h2, h3, h4, h5, h6, h7, h8⟩, l1, l2, l3, l4⟩ := h
  have c : ∀ b o, b ≠ n + 1 + 1 → (W.setCell ⟨n + 1 + 1, 0, none⟩ v).cell? ⟨b, o, none⟩ = W.cell? ⟨b, o, none⟩ := fun b o hb => World.cell?_setCell_other _ _ _ _ (by simp <;> omega)
  refine ⟨⟨(c _ _ (by omega)).trans h1, (c _ _ (by omega)).trans h2, (c _ _ (by omega)).trans h3, (c _ _ (by omega)).trans h4, (c _ _ (by omega)).trans h5, (c _ _ (by omega)).trans h6, (c _ _ (by omega)).trans h7, ?_⟩, l1, l2, by simp <;> omega, by simp <;> omega⟩
  rw [World.frozen?_setCell]; exact h8
/-- what the rest of the way needs -/
structure Stat2 (n : Nat) (s : BS) (m : Int) (W : World) : Prop where
  box : BoxS W n s
  num : W.cell? ⟨n + 1, 0, none⟩ = some (.int .i64 m)
  res : W.cell? ⟨n + 1 + 1, 0, none⟩ = some (.bool false)
  resf : W.frozen? ⟨n + 1 + 1, 0, none⟩ = false
  lt : n + 3 ≤ W.heap.size
theorem Stat2.but {n : Nat} {s : BS} {m : Int} {W W' : World} {M : List Nat} (h : Stat2 n s m W) (hb : But M W W') (hm : ∀ k ∈ M, n + 3 ≤ k) : Stat2 n s m W' := by
  have lt := h.lt
  have no : ∀ k, k < n + 3 → k ∉ M := fun k hk hm' => by have := hm k hm'; omega
  have c : ∀ b o, b < n + 3 → W'.cell? ⟨b, o, none⟩ = W.cell? ⟨b, o, none⟩ := fun b o hb' => hb.cell (p := ⟨b, o, none⟩) (by simp; omega) (no b hb')
  have f : ∀ b o, b < n + 3 → W'.frozen? ⟨b, o, none⟩ = W.frozen? ⟨b, o, none⟩ := fun b o hb' => hb.frozen (p := ⟨b, o, none⟩) (by simp; omega) (no b hb')
  refine ⟨⟨?_, ?_, ?_, ?_⟩, ?_, ?_, ?_, by have := hb.size; omega⟩
  · rw [c _ _ (by omega)]; exact h.box.1
  · rw [c _ _ (by omega)]; exact h.box.2.1
  · rw [c _ _ (by omega)]; exact h.box.2.2.1
  · rw [c _ _ (by omega)]; exact h.box.2.2.2
  · rw [c _ _ (by omega)]; exact h.num
  · rw [c _ _ (by omega)]; exact h.res
  · rw [f _ _ (by omega)]; exact h.resf
theorem Stat2.later {n : Nat} {s : BS} {m : Int} {W W' : World} (h : Stat2 n s m W) (hb : Below W.heap.size W W') : Stat2 n s m W' :=
  h.but (M := []) ((But.refl [] W).below hb) (fun k hk => by simp at hk)
theorem Stat.put {n X g : Nat} {s : BS} {stop : Int} {W : World} (h : Stat n X g s stop W) (m : Int) : Stat2 n s m (W.setCell ⟨n + 1, 0, none⟩ (.int .i64 m)) := by
  have l1 := h.l1; have l3 := h.l3
  refine ⟨⟨?_, ?_, ?_, ?_⟩, ?_, ?_, ?_, by simp; omega⟩
  · rw [World.cell?_setCell_other _ _ _ _ (by simp)]; exact h.box.1
  · rw [World.cell?_setCell_other _ _ _ _ (by simp)]; exact h.box.2.1
  · rw [World.cell?_setCell_other _ _ _ _ (by simp)]; exact h.box.2.2.1
  · rw [World.cell?_setCell_other _ _ _ _ (by simp)]; exact h.box.2.2.2
  · exact World.cell?_setCell_same' _ _ _ (by rw [h.num]; rfl)
  · rw [World.cell?_setCell_other _ _ _ _ (by simp)]; exact h.res
  · rw [World.frozen?_setCell]; exact h.resf
/-- between two rounds of the third loop: how many it has seen -/
def I3 {β : Type} (W6 : World) (S m : Nat) (pre : List β) (W : World) : Prop :=
  W.cell? ⟨S, 0, none⟩ = some (.int .i64 pre.length) ∧ W.frozen? ⟨S, 0, none⟩ = false ∧ But [S] W6 W ∧ pre.length ≤ m
theorem I3_own {β : Type} (W6 : World) (S m B : Nat) (hB : W6.heap.size ≤ B) : OwnFrom B (I3 (β := β) W6 S m) := fun pre W W' row hs hg hr => by
  obtain ⟨h1, h2, h3, h4⟩ := hs
  have hr' := fun r e => (hr r e).2
  exact ⟨cell_kept h1 hg hr', (frozen_kept h1 hg hr').trans h2, ownFrom_but (β := Unit) hB () W W' row h3 hg hr, h4⟩
def Ix3 {β : Type} (W6 : World) (S m : Nat) (x : Code) (c : Code) (pre : List β) (W : World) : Prop :=
  c = x ∧ W.cell? ⟨S, 0, none⟩ = some (.int .i64 m) ∧ W.frozen? ⟨S, 0, none⟩ = false ∧ But [S] W6 W ∧ m < pre.length
theorem Ix3_own {β : Type} (W6 : World) (S m B : Nat) (x c : Code) (hB : W6.heap.size ≤ B) : OwnFrom B (Ix3 (β := β) W6 S m x c) := fun pre W W' row hs hg hr => by
  obtain ⟨h0, h1, h2, h3, h4⟩ := hs
  have hr' := fun r e => (hr r e).2
  exact ⟨h0, cell_kept h1 hg hr', (frozen_kept h1 hg hr').trans h2, ownFrom_but (β := Unit) hB () W W' row h3 hg hr, h4⟩
/-- between two rounds of the second loop: where the next run may begin, what is left to count -/
def I2 (s : BS) (W4 : World) (N X : Nat) (pre : List Rn) (W : World) : Prop :=
  ∃ (nx : Nat) (v : Int), nx ≤ 256 ∧ W.cell? ⟨X, 0, none⟩ = some (.int .i64 nx) ∧ W.frozen? ⟨X, 0, none⟩ = false ∧ W.cell? ⟨N, 0, none⟩ = some (.int .i64 v) ∧ W.frozen? ⟨N, 0, none⟩ = false ∧ -(256 * (pre.length : Int)) ≤ v ∧ v ≤ 256 ∧ But [N, X] W4 W ∧
    (pre <+: s.runs → nx = nextR 0 pre ∧ v = (s.len : Nat) - tot pre)
theorem I2_own (s : BS) (W4 : World) (N X B : Nat) (hB : W4.heap.size ≤ B) : OwnFrom B (I2 s W4 N X) := fun pre W W' row hs hg hr => by
  obtain ⟨t, v, h1, h2, h3, h4, h5, h8, h9, h6, h7⟩ := hs
  have hr' := fun r e => (hr r e).2
  exact ⟨t, v, h1, cell_kept h2 hg hr', (frozen_kept h2 hg hr').trans h3, cell_kept h4 hg hr', (frozen_kept h4 hg hr').trans h5, h8, h9, ownFrom_but (β := Unit) hB () W W' row h6 hg hr, h7⟩
def In2 (s : BS) (V : World) (N Bs : Nat) (v : Int) (a b : Nat) (i : Value) (wr : World) : Prop :=
  ∃ k : Nat, a ≤ k ∧ k ≤ b + 1 ∧ i = .int .i64 k ∧ wr.cell? ⟨N, 0, none⟩ = some (.int .i64 (v - ((k : Int) - a))) ∧ wr.frozen? ⟨N, 0, none⟩ = false ∧ But [N] V wr ∧ KeepsOthers V wr ∧ KeepB Bs V wr
theorem cellInt {w : World} {a : Addr} {n : Int} (h : w.cell? a = some (.int .i64 n)) : intOf ((w.cell? a).getD undef) = n := by rw [h]; rfl

set_option maxRecDepth 100000 in
set_option maxHeartbeats 4000000 in
theorem SetRuns_any (w : World) (a0 a1 a2 a3 : BitVec 64) (stop : Int) (hstop : (Lit.int .i64 stop).wf = true) :
    Calls Try.prog 5 #[.agg #[.int .u64 (wN a0), .int .u64 (wN a1), .int .u64 (wN a2), .int .u64 (wN a3)], .int .i64 stop] w fun e w' => e = .returned (.bool true) ∧ Below w.heap.size w w' := by
  refine (callsIn_wide (n := 5)).1 ?_
  refine callsIn_of_wp_marks Try.func5 rfl trivial ?_ rfl
  simp only [Try.ntmps5, List.size_toArray, List.length_cons, List.length_nil, Nat.reduceAdd, Nat.reduceSub, Array.replicate_succ, Array.replicate_zero, List.push_toArray, List.append_toArray, List.nil_append, List.cons_append]
  gi_wp2_with fail
  have hE0 : Below w.heap.size w (((w.alloc (.cells #[.int .u64 (wN a0), .int .u64 (wN a1), .int .u64 (wN a2), .int .u64 (wN a3)] 24)).alloc (.cells #[.int .i64 stop] 3)).alloc (.cells #[.bool false] 4)) := by repeat (first | exact Below.refl _ _ | assumption | refine Below.drew ?_ | refine ext_drewN ?_ _ | refine ext_alloc ?_ _ | refine Below.setCell ?_ (by (try simp only [World.size_alloc, World.size_setCell, World.size_drew]); omega) _ | refine ext_step ?_ (by assumption))
  have hS0 : BoxS (((w.alloc (.cells #[.int .u64 (wN a0), .int .u64 (wN a1), .int .u64 (wN a2), .int .u64 (wN a3)] 24)).alloc (.cells #[.int .i64 stop] 3)).alloc (.cells #[.bool false] 4)) w.heap.size ⟨a0, a1, a2, a3⟩ := by
    refine ⟨?_, ?_, ?_, ?_⟩ <;> simp [go_sem]
  have hT0 : (((w.alloc (.cells #[.int .u64 (wN a0), .int .u64 (wN a1), .int .u64 (wN a2), .int .u64 (wN a3)] 24)).alloc (.cells #[.int .i64 stop] 3)).alloc (.cells #[.bool false] 4)).cell? ⟨w.heap.size + 1, 0, none⟩ = some (.int .i64 stop) := by simp [go_sem]
  have hR0 : (((w.alloc (.cells #[.int .u64 (wN a0), .int .u64 (wN a1), .int .u64 (wN a2), .int .u64 (wN a3)] 24)).alloc (.cells #[.int .i64 stop] 3)).alloc (.cells #[.bool false] 4)).cell? ⟨w.heap.size + 1 + 1, 0, none⟩ = some (.bool false) := by simp [go_sem]
  have hz0 : (((w.alloc (.cells #[.int .u64 (wN a0), .int .u64 (wN a1), .int .u64 (wN a2), .int .u64 (wN a3)] 24)).alloc (.cells #[.int .i64 stop] 3)).alloc (.cells #[.bool false] 4)).heap.size = w.heap.size + 3 := by simp
  have hF0 : (((w.alloc (.cells #[.int .u64 (wN a0), .int .u64 (wN a1), .int .u64 (wN a2), .int .u64 (wN a3)] 24)).alloc (.cells #[.int .i64 stop] 3)).alloc (.cells #[.bool false] 4)).frozen? ⟨w.heap.size + 1 + 1, 0, none⟩ = false ∧ (((w.alloc (.cells #[.int .u64 (wN a0), .int .u64 (wN a1), .int .u64 (wN a2), .int .u64 (wN a3)] 24)).alloc (.cells #[.int .i64 stop] 3)).alloc (.cells #[.bool false] 4)).frozen? ⟨w.heap.size + 1, 0, none⟩ = false := by constructor <;> simp [go_sem]
  generalize ((w.alloc (.cells #[.int .u64 (wN a0), .int .u64 (wN a1), .int .u64 (wN a2), .int .u64 (wN a3)] 24)).alloc (.cells #[.int .i64 stop] 3)).alloc (.cells #[.bool false] 4) = W0 at *
  refine (callsIn_wide.2 (head_any _)).mono ?_
  rintro e W ⟨rfl, hb⟩
  obtain ⟨c0, c1, c2, c3⟩ := hS0.later hb (by omega)
  dsimp only at c0 c1 c2 c3
  gi_wp2_with fail
  refine (callsIn_wide.2 (bools_any a0 a1 a2 a3 _)).mono ?_
  rintro e W1 ⟨v, rfl, hH, hb1⟩
  obtain ⟨g, rfl, hrow⟩ := hH
  have hg : g < W1.heap.size := World.block_lt_of_cell? W1 _ (hrow 0 (by omega))
  have hb01 := ext_step hb hb1
  have hE1 := ext_step hE0 hb01
  have hz1 : w.heap.size + 3 ≤ W1.heap.size := by have := hb01.size; omega
  have hS1 := hS0.later hb01 (by omega)
  have hT1 : W1.cell? ⟨w.heap.size + 1, 0, none⟩ = some (.int .i64 stop) := (hb01.cell (p := ⟨w.heap.size + 1, 0, none⟩) (by simp; omega)).trans hT0
  have hR1 : W1.cell? ⟨w.heap.size + 1 + 1, 0, none⟩ = some (.bool false) := (hb01.cell (p := ⟨w.heap.size + 1 + 1, 0, none⟩) (by simp; omega)).trans hR0
  have hF1 : W1.frozen? ⟨w.heap.size + 1 + 1, 0, none⟩ = false := (hb01.frozen (p := ⟨w.heap.size + 1 + 1, 0, none⟩) (by simp; omega)).trans hF0.1
  have hF1' : W1.frozen? ⟨w.heap.size + 1, 0, none⟩ = false := (hb01.frozen (p := ⟨w.heap.size + 1, 0, none⟩) (by simp; omega)).trans hF0.2
  clear c0 c1 c2 c3 hb hb1 hb01 hS0 hT0 hR0 hF0 hz0 hE0
  obtain ⟨c0, c1, c2, c3⟩ := hS1
  have HROW := Lib.hid hrow
  clear hrow
  dsimp only at c0 c1 c2 c3
  have l0 : w.heap.size < W1.heap.size := by omega
  have l1 : w.heap.size < W1.heap.size + 1 := by omega
  have l2 : w.heap.size < W1.heap.size + 1 + 1 := by omega
  gi_wp2_with fail
  refine (callsIn_wide.2 (Bytes_any a0 a1 a2 a3 _)).mono ?_
  rintro e W3 ⟨rfl, hW3⟩
  have hz3 : W3.heap.size = W1.heap.size + 4 := by rw [hW3]; simp
  have hb3 : Below W1.heap.size W1 W3 := by rw [hW3]; repeat (first | exact Below.refl _ _ | assumption | refine Below.drew ?_ | refine ext_drewN ?_ _ | refine ext_alloc ?_ _ | refine Below.setCell ?_ (by (try simp only [World.size_alloc, World.size_setCell, World.size_drew]); omega) _ | refine ext_step ?_ (by assumption))
  have hX3 : W3.cell? ⟨W1.heap.size, 0, none⟩ = some (.slice (some ⟨g, 0, none⟩) 256 256) := by rw [hW3]; simp [go_sem]
  have hA3 : W3.cell? ⟨W1.heap.size + 1, 0, none⟩ = some (.int .i64 0) ∧ W3.frozen? ⟨W1.heap.size + 1, 0, none⟩ = false := by rw [hW3]; constructor <;> simp [go_sem]
  have hN3 : W3.cell? ⟨W1.heap.size + 1 + 1, 0, none⟩ = some (.int .i64 0) ∧ W3.frozen? ⟨W1.heap.size + 1 + 1, 0, none⟩ = false := by rw [hW3]; constructor <;> simp [go_sem]
  have hB3 : BoxS W3 (W1.heap.size + 3) ⟨a0, a1, a2, a3⟩ := by rw [hW3]; refine ⟨?_, ?_, ?_, ?_⟩ <;> simp [go_sem]
  have hS3 : BoxS W3 w.heap.size ⟨a0, a1, a2, a3⟩ := BoxS.later ⟨c0, c1, c2, c3⟩ hb3 (by omega)
  have hT3 : W3.cell? ⟨w.heap.size + 1, 0, none⟩ = some (.int .i64 stop) := (hb3.cell (p := ⟨w.heap.size + 1, 0, none⟩) (by simp; omega)).trans hT1
  have hR3 : W3.cell? ⟨w.heap.size + 1 + 1, 0, none⟩ = some (.bool false) := (hb3.cell (p := ⟨w.heap.size + 1 + 1, 0, none⟩) (by simp; omega)).trans hR1
  have hF3 : W3.frozen? ⟨w.heap.size + 1 + 1, 0, none⟩ = false := (hb3.frozen (p := ⟨w.heap.size + 1 + 1, 0, none⟩) (by simp; omega)).trans hF1
  have hF3' : W3.frozen? ⟨w.heap.size + 1, 0, none⟩ = false := (hb3.frozen (p := ⟨w.heap.size + 1, 0, none⟩) (by simp; omega)).trans hF1'
  have hrow3 : ∀ i, i < 256 → W3.cell? ⟨g, i, none⟩ = some (.bool ((⟨a0, a1, a2, a3⟩ : BS).has i)) := fun i hi => (hb3.cell (p := ⟨g, i, none⟩) hg).trans (HROW.out i hi)
  have HROW3 := Lib.hid hrow3
  have hE3 := ext_step hE1 hb3
  have St3 : Stat w.heap.size W1.heap.size g ⟨a0, a1, a2, a3⟩ stop W3 := ⟨hS3, hT3, hR3, hF3, hF3', hX3, hrow3, hz1, hg, by omega⟩
  rw [show (((W1.alloc (.cells #[.slice (some ⟨g, 0, none⟩) 256 256] 31)).alloc (.cells #[.int .i64 0] 3)).alloc (.cells #[.int .i64 0] 3)).heap.size = W1.heap.size + 3 by simp]
  clear hW3 hb3 hrow3 HROW hT1 hR1 hF1 hF1' c0 c1 c2 c3 l0 l1 l2 hE1 hS3 hT3 hF3' HROW3
  have HZ3 := Lib.hid hz3
  have hz3' : W1.heap.size + 3 < W3.heap.size := by omega
  clear hz3
  gi_wp2_with fail
  refine wpIn_rangeFunc_ownF rfl (by omega) (gf := 32) (lb := #[.pointer (some ⟨W1.heap.size + 3, 0, none⟩)]) rfl trivial (enters_of Try.func32 (by kernel_rfl) rfl)
    (Bytes_stops _ (W1.heap.size + 3) ⟨a0, a1, a2, a3⟩ _ hz3' hB3) keepB_t (keepB_b hz3') (Below.refl _ _) (fun _ => rfl)
    (I1 ⟨a0, a1, a2, a3⟩ W3 (W1.heap.size + 1) (W1.heap.size + 1 + 1))
    (fun c pre W => c = .ret ∧ ¬ pre <+: (⟨a0, a1, a2, a3⟩ : BS).bytes)
    (I1_own _ _ _ _ _ (Nat.le_refl _))
    (fun c => fun _ _ _ _ hs _ _ => hs)
    ⟨0, by omega, hA3.1, hA3.2, hN3.1, hN3.2, But.refl _ _, fun _ => rfl⟩
    ?a1 ?assign ?body ?done ?stop
  case assign =>
    intro l x W K hK
    gi_wp2
    exact hK
  case body =>
    rintro l pre x V ⟨t0, ht0, hA, hAf, hN, hNf, hBut, hex⟩ hlen
    have HEX := Lib.hid hex
    clear hex
    gi_wp2_with fail
    gi_loopw [] (fun wr => In1 ⟨a0, a1, a2, a3⟩ W3 V (W1.heap.size + 1) (W1.heap.size + 1 + 1) (W1.heap.size + 3) t0 pre.length wr) (fun wr => 256 - (intOf ((wr.cell? ⟨W1.heap.size + 1, 0, none⟩).getD undef)).toNat)
    case atStart => exact ⟨t0, Nat.le_refl _, ht0, hA, hAf, hN, hNf, hBut, KeepsOthers.refl _, KeepB.refl _ _, fun j a b => by omega⟩
    case round =>
      obtain ⟨t, htt, ht, hA', hAf', hN', hNf', hBut', hK', hKB', hgap⟩ := hrel
      have HGAP := Lib.hid hgap
      clear hgap hA hAf hN hNf hBut
      have hX' : wr.cell? ⟨W1.heap.size, 0, none⟩ = some (.slice (some ⟨g, 0, none⟩) 256 256) := (hBut'.cell (p := ⟨W1.heap.size, 0, none⟩) (by simp; omega) (by simp; omega)).trans St3.kept
      by_cases hlt : t < 256
      · have hrow' : wr.cell? ⟨g, t, none⟩ = some (.bool ((⟨a0, a1, a2, a3⟩ : BS).has t)) := (hBut'.cell (p := ⟨g, t, none⟩) (by simp; omega) (by simp; omega)).trans (St3.row t hlt)
        cases hhas : (⟨a0, a1, a2, a3⟩ : BS).has t with
        | false =>
          have HH := Lib.hid hhas
          rw [hhas] at hrow'
          clear hhas
          gi_wp2
          refine ⟨⟨t + 1, by omega, by omega, ?_, ?_, ?_, ?_, hBut'.setCell (.inl (by simp)) _, hK'.trans (KeepsOthers.setCell _ _ _), hKB'.setCell (by simp) _, ?_⟩, ?_⟩
          · rw [World.cell?_setCell_same' _ _ _ (by rw [hA']; rfl)]; push_cast; rfl
          · rw [World.frozen?_setCell]; exact hAf'
          · rw [World.cell?_setCell_other _ _ _ _ (by simp)]; exact hN'
          · rw [World.frozen?_setCell]; exact hNf'
          · intro j h1 h2
            by_cases e : j = t
            · rw [e]; exact HH.out
            · exact HGAP.out j h1 (by omega)
          · rw [cellInt hA', cellInt (World.cell?_setCell_same' _ _ _ (by rw [hA']; rfl))]; omega
        | true =>
          have HEND : Hid (t = 256 ∨ (⟨a0, a1, a2, a3⟩ : BS).has t = true) := .inr hhas
          rw [hhas] at hrow'
          clear hhas
          have hx255 : (x.n : Int) ≤ 255 := by have := x.h; omega
          by_cases hxe : t = x.n
          · have hq : ((t : Int) != (x.n : Int)) = false := by rw [bne_eq_false_iff_eq]; omega
            have hxl := x.h
            have HXE := Lib.hid hxe
            clear hxe
            gi_wp2
            have cA : (wr.setCell ⟨W1.heap.size + 1, 0, none⟩ (.int .i64 ((t : Int) + 1))).cell? ⟨W1.heap.size + 1, 0, none⟩ = some (.int .i64 ((t : Int) + 1)) := World.cell?_setCell_same' _ _ _ (by rw [hA']; rfl)
            have cN : (wr.setCell ⟨W1.heap.size + 1, 0, none⟩ (.int .i64 ((t : Int) + 1))).cell? ⟨W1.heap.size + 1 + 1, 0, none⟩ = some (.int .i64 pre.length) := by
              rw [World.cell?_setCell_other _ _ _ _ (by simp)]; exact hN'
            refine ⟨(hK'.trans (KeepsOthers.setCell _ _ _)).trans (KeepsOthers.setCell _ _ _), (hKB'.setCell (by simp) _).setCell (by simp) _, t + 1, by have := HXE.out; omega, ?_, ?_, ?_, ?_, (hBut'.setCell (.inl (by simp)) _).setCell (.inl (by simp)) _, fun hp => ?_⟩
            · rw [World.cell?_setCell_other _ _ _ _ (by simp), cA]; push_cast; rfl
            · rw [World.frozen?_setCell, World.frozen?_setCell]; exact hAf'
            · rw [World.cell?_setCell_same' _ _ _ (by rw [cN]; rfl), List.length_append]; simp
            · rw [World.frozen?_setCell, World.frozen?_setCell]; exact hNf'
            · rw [nextB_snoc, HXE.out]
          · have hq : ((t : Int) != (x.n : Int)) = true := by rw [bne_iff_ne]; omega
            have hno : ¬ pre ++ [x] <+: (⟨a0, a1, a2, a3⟩ : BS).bytes := fun hp => by
              obtain ⟨s1, s2, s3⟩ := BS.bytes_step _ _ _ 256 (Nat.le_refl _) hp
              have hpre := HEX.out ((List.prefix_append pre [x]).trans hp)
              rcases Nat.lt_trichotomy t x.n with h | h | h
              · rcases HEND.out with h' | h'
                · have := x.h; omega
                · rw [s3 t (by omega) h] at h'; cases h'
              · exact hxe h
              · rw [HGAP.out x.n (by omega) h] at s1; cases s1
            have HNO := Lib.hid hno
            clear hno hxe
            have hRr : wr.cell? ⟨w.heap.size + 1 + 1, 0, none⟩ = some (.bool false) := (hBut'.cell (p := ⟨w.heap.size + 1 + 1, 0, none⟩) (by simp; omega) (by simp; omega)).trans St3.res
            have hRf : wr.frozen? ⟨w.heap.size + 1 + 1, 0, none⟩ = false := (hBut'.frozen (p := ⟨w.heap.size + 1 + 1, 0, none⟩) (by simp; omega) (by simp; omega)).trans St3.resf
            gi_wp2
            exact ⟨hK'.trans (KeepsOthers.setCell _ _ _), rfl, HNO.out⟩
      · have HEND : Hid (t = 256 ∨ (⟨a0, a1, a2, a3⟩ : BS).has t = true) := .inl (by omega)
        have h256 : 256 ≤ (t : Int) := by omega
        have hx255 : (x.n : Int) ≤ 255 := by have := x.h; omega
        by_cases hxe : t = x.n
        · have hq : ((t : Int) != (x.n : Int)) = false := by rw [bne_eq_false_iff_eq]; omega
          have hxl := x.h
          have HXE := Lib.hid hxe
          clear hxe
          gi_wp2
          have cA : (wr.setCell ⟨W1.heap.size + 1, 0, none⟩ (.int .i64 ((t : Int) + 1))).cell? ⟨W1.heap.size + 1, 0, none⟩ = some (.int .i64 ((t : Int) + 1)) := World.cell?_setCell_same' _ _ _ (by rw [hA']; rfl)
          have cN : (wr.setCell ⟨W1.heap.size + 1, 0, none⟩ (.int .i64 ((t : Int) + 1))).cell? ⟨W1.heap.size + 1 + 1, 0, none⟩ = some (.int .i64 pre.length) := by
            rw [World.cell?_setCell_other _ _ _ _ (by simp)]; exact hN'
          refine ⟨(hK'.trans (KeepsOthers.setCell _ _ _)).trans (KeepsOthers.setCell _ _ _), (hKB'.setCell (by simp) _).setCell (by simp) _, t + 1, by have := HXE.out; omega, ?_, ?_, ?_, ?_, (hBut'.setCell (.inl (by simp)) _).setCell (.inl (by simp)) _, fun hp => ?_⟩
          · rw [World.cell?_setCell_other _ _ _ _ (by simp), cA]; push_cast; rfl
          · rw [World.frozen?_setCell, World.frozen?_setCell]; exact hAf'
          · rw [World.cell?_setCell_same' _ _ _ (by rw [cN]; rfl), List.length_append]; simp
          · rw [World.frozen?_setCell, World.frozen?_setCell]; exact hNf'
          · rw [nextB_snoc, HXE.out]
        · have hq : ((t : Int) != (x.n : Int)) = true := by rw [bne_iff_ne]; omega
          have hno : ¬ pre ++ [x] <+: (⟨a0, a1, a2, a3⟩ : BS).bytes := fun hp => by
            obtain ⟨s1, s2, s3⟩ := BS.bytes_step _ _ _ 256 (Nat.le_refl _) hp
            have hpre := HEX.out ((List.prefix_append pre [x]).trans hp)
            rcases Nat.lt_trichotomy t x.n with h | h | h
            · rcases HEND.out with h' | h'
              · have := x.h; omega
              · rw [s3 t (by omega) h] at h'; cases h'
            · exact hxe h
            · rw [HGAP.out x.n (by omega) h] at s1; cases s1
          have HNO := Lib.hid hno
          clear hno hxe
          have hRr : wr.cell? ⟨w.heap.size + 1 + 1, 0, none⟩ = some (.bool false) := (hBut'.cell (p := ⟨w.heap.size + 1 + 1, 0, none⟩) (by simp; omega) (by simp; omega)).trans St3.res
          have hRf : wr.frozen? ⟨w.heap.size + 1 + 1, 0, none⟩ = false := (hBut'.frozen (p := ⟨w.heap.size + 1 + 1, 0, none⟩) (by simp; omega) (by simp; omega)).trans St3.resf
          gi_wp2
          exact ⟨hK'.trans (KeepsOthers.setCell _ _ _), rfl, HNO.out⟩
  case done =>
    rintro D1 ys V hD1 rfl ⟨t, ht, hA, hAf, hN, hNf, hBut, hex⟩ hK1
    have StV := St3.but hBut (fun k hk => by simp at hk; omega)
    have hEV : Below w.heap.size w V := hBut.to_below hE3 (fun k hk => by simp at hk; omega)
    rw [BS.bytes_len] at hN
    have hzV : W3.heap.size ≤ V.heap.size := hBut.size
    have hMk1 : Mark V D1 := hK1
    clear hex hA hAf hBut hK1 hA3 hN3 hB3 hX3 hR3 hF3 ht hE3
    obtain ⟨c0, c1, c2, c3⟩ := StV.box
    dsimp only at c0 c1 c2 c3
    gi_wp2_with fail
    refine wpIn_wide.2 ?_
    go_region_held3 (fun W' => W'.cell? ⟨W1.heap.size + 1 + 1, 0, none⟩ = some (.int .i64 ((⟨a0, a1, a2, a3⟩ : BS).len : Nat)) ∧ W'.cell? ⟨w.heap.size, 0, none⟩ = some (.int .u64 (wN a0)) ∧ W'.cell? ⟨w.heap.size, 1, none⟩ = some (.int .u64 (wN a1)) ∧ W'.cell? ⟨w.heap.size, 2, none⟩ = some (.int .u64 (wN a2)) ∧ W'.cell? ⟨w.heap.size, 3, none⟩ = some (.int .u64 (wN a3))) (go_keep) ((go_at_call 15; refine (Len_any a0 a1 a2 a3 _).mono ?_; rintro e w' ⟨rfl, rfl⟩))
    have hb2 : Below V.heap.size V (V.alloc (.cells #[.int .u64 (wN a0), .int .u64 (wN a1), .int .u64 (wN a2), .int .u64 (wN a3)] 24)).drew := (ext_alloc (Below.refl _ V) _).drew
    have hz2 : (V.alloc (.cells #[.int .u64 (wN a0), .int .u64 (wN a1), .int .u64 (wN a2), .int .u64 (wN a3)] 24)).drew.heap.size = V.heap.size + 1 := by simp
    generalize (V.alloc (.cells #[.int .u64 (wN a0), .int .u64 (wN a1), .int .u64 (wN a2), .int .u64 (wN a3)] 24)).drew = V2 at *
    have hl1 := St3.l3
    have hl2 := hD1
    have hN2 : V2.cell? ⟨W1.heap.size + 1 + 1, 0, none⟩ = some (.int .i64 ((⟨a0, a1, a2, a3⟩ : BS).len : Nat)) := (hb2.cell (p := ⟨W1.heap.size + 1 + 1, 0, none⟩) (by simp; omega)).trans hN
    have hNf2 : V2.frozen? ⟨W1.heap.size + 1 + 1, 0, none⟩ = false := (hb2.frozen (p := ⟨W1.heap.size + 1 + 1, 0, none⟩) (by simp; omega)).trans hNf
    have St2 := StV.later hb2
    have hE2 := ext_step hEV hb2
    have hMk2 := hMk1.later hb2
    have hDV : D1 < V.heap.size := (Array.getElem?_eq_some_iff.1 hMk1).1
    have l0 : w.heap.size < V2.heap.size := by omega
    have l1 : w.heap.size < V2.heap.size + 1 := by omega
    have HZ2 := Lib.hid hz2
    clear hN hNf StV hEV hMk1 hb2 c0 c1 c2 c3 hz2
    obtain ⟨c0, c1, c2, c3⟩ := St2.box
    dsimp only at c0 c1 c2 c3
    gi_wp2_with fail
    refine (callsIn_wide.2 (Runs_any a0 a1 a2 a3 _)).mono ?_
    rintro e W4 ⟨rfl, hW4⟩
    have hz4 : W4.heap.size = V2.heap.size + 2 := by rw [hW4]; simp
    have hb4 : Below V2.heap.size V2 W4 := by rw [hW4]; repeat (first | exact Below.refl _ _ | assumption | refine Below.drew ?_ | refine ext_drewN ?_ _ | refine ext_alloc ?_ _ | refine Below.setCell ?_ (by (try simp only [World.size_alloc, World.size_setCell, World.size_drew]); omega) _ | refine ext_step ?_ (by assumption))
    have hX4 : W4.cell? ⟨V2.heap.size, 0, none⟩ = some (.int .i64 0) ∧ W4.frozen? ⟨V2.heap.size, 0, none⟩ = false := by rw [hW4]; constructor <;> simp [go_sem]
    have hB4 : BoxS W4 (V2.heap.size + 1) ⟨a0, a1, a2, a3⟩ := by rw [hW4]; refine ⟨?_, ?_, ?_, ?_⟩ <;> simp [go_sem]
    have hN4 : W4.cell? ⟨W1.heap.size + 1 + 1, 0, none⟩ = some (.int .i64 ((⟨a0, a1, a2, a3⟩ : BS).len : Nat)) := (hb4.cell (p := ⟨W1.heap.size + 1 + 1, 0, none⟩) (by have := HZ2.out; have := HZ3.out; simp; omega)).trans hN2
    have hNf4 : W4.frozen? ⟨W1.heap.size + 1 + 1, 0, none⟩ = false := (hb4.frozen (p := ⟨W1.heap.size + 1 + 1, 0, none⟩) (by have := HZ2.out; have := HZ3.out; simp; omega)).trans hNf2
    have St4 := St2.later hb4
    have hE4 := ext_step hE2 hb4
    have hMk4 := hMk2.later hb4
    have hl4 : V2.heap.size + 1 < W4.heap.size := by omega
    have hlN : W1.heap.size + 1 + 1 < V2.heap.size := by have := HZ2.out; have := HZ3.out; omega
    have hDV2 : W1.heap.size + 3 < D1 ∧ D1 < V2.heap.size := by have := HZ2.out; have := HZ3.out; omega
    rw [show (V2.alloc (.cells #[.int .i64 0] 3)).heap.size = V2.heap.size + 1 by simp]
    have HZ4 := Lib.hid hz4
    clear hW4 hb4 hN2 hNf2 St2 hE2 hMk2 c0 c1 c2 c3 l0 l1 hz4 hD1 hzV hDV hz3' hl2
    gi_wp2_with fail
    have hlen4 := (⟨a0, a1, a2, a3⟩ : BS).len_256
    refine wpIn_rangeFunc_ownF rfl (by omega) (gf := 33) (lb := #[.pointer (some ⟨V2.heap.size + 1, 0, none⟩)]) rfl trivial (enters_of Try.func33 (by kernel_rfl) rfl)
      (Runs_stops _ (V2.heap.size + 1) ⟨a0, a1, a2, a3⟩ _ hl4 hB4) keepB_t (keepB_b hl4) (Below.refl _ _) (fun _ => rfl)
      (I2 ⟨a0, a1, a2, a3⟩ W4 (W1.heap.size + 1 + 1) V2.heap.size)
      (fun c pre W => c = .ret ∧ ¬ pre <+: (⟨a0, a1, a2, a3⟩ : BS).runs)
      (I2_own _ _ _ _ _ (Nat.le_refl _))
      (fun c => fun _ _ _ _ hs _ _ => hs)
      ⟨0, _, by omega, hX4.1, hX4.2, hN4, hNf4, by simp, by omega, But.refl _ _, fun _ => ⟨rfl, by simp [tot]⟩⟩
      ?a2 ?assign2 ?body2 ?done2 ?stop2
    case assign2 =>
      intro l x W K hK
      gi_wp2
      exact hK
    case body2 =>
      rintro l pre ⟨xa, xb, ha, hb⟩ V ⟨nx, v, hnx, hX, hXf, hN, hNf, hv1, hv2, hBut, hex⟩ hlen
      have HEX := Lib.hid hex
      clear hex hX4 hN4 hNf4 hB4
      have hKp : V.cell? ⟨W1.heap.size, 0, none⟩ = some (.slice (some ⟨g, 0, none⟩) 256 256) := (hBut.cell (p := ⟨W1.heap.size, 0, none⟩) (by simp; omega) (by simp; omega)).trans St4.kept
      have hRow : ∀ i, i < 256 → V.cell? ⟨g, i, none⟩ = some (.bool ((⟨a0, a1, a2, a3⟩ : BS).has i)) := fun i hi => (hBut.cell (p := ⟨g, i, none⟩) (by simp; omega) (by simp; omega)).trans (St4.row i hi)
      have HRow := Lib.hid hRow
      have hRr : V.cell? ⟨w.heap.size + 1 + 1, 0, none⟩ = some (.bool false) := (hBut.cell (p := ⟨w.heap.size + 1 + 1, 0, none⟩) (by simp; omega) (by simp; omega)).trans St4.res
      have hRf : V.frozen? ⟨w.heap.size + 1 + 1, 0, none⟩ = false := (hBut.frozen (p := ⟨w.heap.size + 1 + 1, 0, none⟩) (by simp; omega) (by simp; omega)).trans St4.resf
      clear hRow
      have hxa : (xa : Int) ≤ 255 := by omega
      have hxb : (xb : Int) ≤ 255 := by omega
      have HSTEP : Hid (pre ++ [⟨xa, xb, ha, hb⟩] <+: (⟨a0, a1, a2, a3⟩ : BS).runs → Good ⟨a0, a1, a2, a3⟩ ⟨xa, xb, ha, hb⟩ ∧ nx ≤ xa) := Lib.hid fun hp => by
        obtain ⟨g1, g2⟩ := BS.runs_step _ 0 _ _ (.inl rfl) hp
        have := HEX.out ((List.prefix_append pre _).trans hp)
        exact ⟨g1, by rw [this.1]; exact g2⟩
      clear hlen4 hE4 hMk4 hl4 HZ4
      by_cases h1 : xa < nx
      · have h1' : (xa : Int) < nx := by omega
        have HNO : Hid (¬ pre ++ [⟨xa, xb, ha, hb⟩] <+: (⟨a0, a1, a2, a3⟩ : BS).runs) := Lib.hid fun hp => by have := (HSTEP.out hp).2; omega
        clear h1
        gi_wp2
        exact ⟨KeepsOthers.setCell _ _ _, rfl, HNO.out⟩
      have h1' : (nx : Int) ≤ xa := by omega
      clear h1
      by_cases h2 : xb < xa
      · have h2' : (xb : Int) < xa := by omega
        have HNO : Hid (¬ pre ++ [⟨xa, xb, ha, hb⟩] <+: (⟨a0, a1, a2, a3⟩ : BS).runs) := Lib.hid fun hp => by have := (HSTEP.out hp).1.le; dsimp only at this; omega
        clear h2
        gi_wp2
        exact ⟨KeepsOthers.setCell _ _ _, rfl, HNO.out⟩
      have h2' : (xa : Int) ≤ xb := by omega
      clear h2
      have HLOW : Hid ((xa : Int) ≤ 0 ∨ ∃ p : Nat, 0 < (xa : Int) ∧ (xa : Int) - 1 = (p : Int) ∧ (p : Int) ≤ 254 ∧ p < 256 ∧ xa - 1 = p) := Lib.hid (by
        by_cases h : xa = 0
        · left; omega
        · right; exact ⟨xa - 1, by omega, by omega, by omega, by omega, rfl⟩)
      have HHIGH : Hid (255 ≤ (xb : Int) ∨ ∃ q : Nat, (xb : Int) < 255 ∧ (xb : Int) + 1 = (q : Int) ∧ (q : Int) ≤ 255 ∧ q < 256 ∧ xb + 1 = q) := Lib.hid (by
        by_cases h : xb = 255
        · left; omega
        · right; exact ⟨xb + 1, by omega, by omega, by omega, by omega, rfl⟩)
      by_cases hbl : 0 < xa ∧ (⟨a0, a1, a2, a3⟩ : BS).has (xa - 1) = true
      · obtain ⟨hbl1, hbl2⟩ := hbl
        have HNO : Hid (¬ pre ++ [⟨xa, xb, ha, hb⟩] <+: (⟨a0, a1, a2, a3⟩ : BS).runs) := Lib.hid fun hp => by
          have := (HSTEP.out hp).1.low hbl1
          dsimp only at this; rw [hbl2] at this; cases this
        rcases HLOW.out with h | ⟨p, p1, p2, p3, p4, p5⟩
        · omega
        have hcP := HRow.out p p4
        rw [← p5, hbl2, p5] at hcP
        clear hbl1 hbl2 p5
        gi_wp2
        exact ⟨KeepsOthers.setCell _ _ _, rfl, HNO.out⟩
      have HBL : Hid (∀ p, 0 < (xa : Int) → xa - 1 = p → (⟨a0, a1, a2, a3⟩ : BS).has p = false) := Lib.hid fun p h e => by
        subst e
        cases hh : (⟨a0, a1, a2, a3⟩ : BS).has (xa - 1) with
        | false => rfl
        | true => exact absurd ⟨by omega, hh⟩ hbl
      clear hbl
      by_cases hbh : xb < 255 ∧ (⟨a0, a1, a2, a3⟩ : BS).has (xb + 1) = true
      · obtain ⟨hbh1, hbh2⟩ := hbh
        have HNO : Hid (¬ pre ++ [⟨xa, xb, ha, hb⟩] <+: (⟨a0, a1, a2, a3⟩ : BS).runs) := Lib.hid fun hp => by
          have := (HSTEP.out hp).1.high hbh1
          dsimp only at this; rw [hbh2] at this; cases this
        rcases HHIGH.out with h | ⟨q, q1, q2, q3, q4, q5⟩
        · omega
        have hcQ := HRow.out q q4
        rw [← q5, hbh2, q5] at hcQ
        clear hbh1 hbh2 q5
        rcases HLOW.out with hz | ⟨p, p1, p2, p3, p4, p5⟩
        · gi_wp2
          exact ⟨KeepsOthers.setCell _ _ _, rfl, HNO.out⟩
        · have hcP := HRow.out p p4
          rw [HBL.out p p1 p5] at hcP
          clear p5
          gi_wp2
          exact ⟨KeepsOthers.setCell _ _ _, rfl, HNO.out⟩
      have HBH : Hid (∀ p, (xb : Int) < 255 → xb + 1 = p → (⟨a0, a1, a2, a3⟩ : BS).has p = false) := Lib.hid fun p h e => by
        subst e
        cases hh : (⟨a0, a1, a2, a3⟩ : BS).has (xb + 1) with
        | false => rfl
        | true => exact absurd ⟨by omega, hh⟩ hbh
      clear hbh
      rcases HLOW.out with hz | ⟨p, p1, p2, p3, p4, p5⟩
      · skip
        rcases HHIGH.out with hy | ⟨q, q1, q2, q3, q4, q5⟩
        · clear HLOW HHIGH HBL HBH
          gi_wp2_with fail
          have hVN : W1.heap.size + 3 < V.heap.size := by have := hBut.size; have := St4.l3; have := (World.block_lt_of_cell? V _ hX); dsimp only at this; omega
          have hVX := World.block_lt_of_cell? V _ hX
          dsimp only at hVX
          gi_loopw [12] (fun i wr => In2 ⟨a0, a1, a2, a3⟩ V (W1.heap.size + 1 + 1) (V2.heap.size + 1) v xa xb i wr) (fun i _ => 256 - (intOf i).toNat)
          case atStart => exact ⟨xa, Nat.le_refl _, by omega, rfl, by rw [hN]; simp, hNf, But.refl _ _, KeepsOthers.refl _, KeepB.refl _ _⟩
          case round =>
            obtain ⟨k, hak, hkb, rfl, hN', hNf', hBut', hK', hKB'⟩ := hrel
            clear hN hNf
            have hX' : wr.cell? ⟨V2.heap.size, 0, none⟩ = some (.int .i64 nx) := (hBut'.cell (p := ⟨V2.heap.size, 0, none⟩) hVX (by simp; omega)).trans hX
            have hXf' : wr.frozen? ⟨V2.heap.size, 0, none⟩ = false := (hBut'.frozen (p := ⟨V2.heap.size, 0, none⟩) hVX (by simp; omega)).trans hXf
            have hKp' : wr.cell? ⟨W1.heap.size, 0, none⟩ = some (.slice (some ⟨g, 0, none⟩) 256 256) := (hBut'.cell (p := ⟨W1.heap.size, 0, none⟩) (by simp; omega) (by simp; omega)).trans hKp
            have hRr' : wr.cell? ⟨w.heap.size + 1 + 1, 0, none⟩ = some (.bool false) := (hBut'.cell (p := ⟨w.heap.size + 1 + 1, 0, none⟩) (by simp; omega) (by simp; omega)).trans hRr
            have hRf' : wr.frozen? ⟨w.heap.size + 1 + 1, 0, none⟩ = false := (hBut'.frozen (p := ⟨w.heap.size + 1 + 1, 0, none⟩) (by simp; omega) (by simp; omega)).trans hRf
            by_cases hlt : k ≤ xb
            · have hlt' : (k : Int) ≤ xb := by omega
              have hk256 : k < 256 := by omega
              have hcK : wr.cell? ⟨g, k, none⟩ = some (.bool ((⟨a0, a1, a2, a3⟩ : BS).has k)) := (hBut'.cell (p := ⟨g, k, none⟩) (by simp; omega) (by simp; omega)).trans (HRow.out k hk256)
              cases hhas : (⟨a0, a1, a2, a3⟩ : BS).has k with
              | true =>
                rw [hhas] at hcK
                clear hhas hX hXf hKp hRr hRf
                generalize hd : v - ((k : Int) - xa) = d at hN'
                have hd1 : -(65536 : Int) ≤ d := by omega
                have hd2 : d ≤ 256 := by omega
                have HD := Lib.hid hd
                clear hd hv1 hv2
                gi_wp2
                refine ⟨⟨k + 1, by omega, by omega, by push_cast; rfl, ?_, ?_, hBut'.setCell (.inl (by simp)) _, hK'.trans (KeepsOthers.setCell _ _ _), hKB'.setCell (by simp; omega) _⟩, ?_⟩
                · rw [World.cell?_setCell_same' _ _ _ (by rw [hN']; rfl)]
                  congr 2
                  have := HD.out
                  push_cast
                  omega
                · rw [World.frozen?_setCell]; exact hNf'
                · simp [intOf]; omega
              | false =>
                have HNO : Hid (¬ pre ++ [⟨xa, xb, ha, hb⟩] <+: (⟨a0, a1, a2, a3⟩ : BS).runs) := Lib.hid fun hp => by
                  have := (HSTEP.out hp).1.all k hak hlt
                  rw [hhas] at this; cases this
                rw [hhas] at hcK
                clear hhas hX hXf hKp hRr hRf hv1 hv2 hN' hNf' hX' hXf'
                gi_wp2
                exact ⟨hK'.trans (KeepsOthers.setCell _ _ _), rfl, HNO.out⟩
            · have hlt' : (xb : Int) < k := by omega
              have hk : k = xb + 1 := by omega
              subst hk
              clear hlt hX hXf hKp hRr hRf
              have hpc : ((xb + 1 : Nat) : Int) = (xb : Int) + 1 := by push_cast; rfl
              rw [hpc] at hN' hlt'
              generalize hd : v - ((xb : Int) + 1 - xa) = d at hN'
              have HD := Lib.hid hd
              have HV := Lib.hid (And.intro hv1 hv2)
              clear hd hv1 hv2
              gi_wp2
              refine ⟨hK'.trans (KeepsOthers.setCell _ _ _), hKB'.setCell (by simp) _, xb + 1, d, by omega, ?_, ?_, ?_, ?_, ?_, ?_, (hBut.trans hBut' (by simp)).setCell (.inl (by simp)) _, fun hp => ?_⟩
              · rw [World.cell?_setCell_same' _ _ _ (by rw [hX']; rfl)]; push_cast; first | rfl | (congr 2; omega)
              · rw [World.frozen?_setCell]; exact hXf'
              · rw [World.cell?_setCell_other _ _ _ _ (by simp <;> omega)]; exact hN'
              · rw [World.frozen?_setCell]; exact hNf'
              · have := HV.out; have := HD.out; rw [List.length_append]; simp only [List.length_singleton]; omega
              · have := HV.out; have := HD.out; omega
              · have h := (HEX.out ((List.prefix_append pre _).trans hp)).2
                have := HD.out
                refine ⟨(nextR_snoc 0 pre ⟨xa, xb, ha, hb⟩).symm, ?_⟩
                rw [tot_snoc]; dsimp only; omega
        · have hcQ := HRow.out q q4
          rw [HBH.out q q1 q5] at hcQ
          clear q5 q4 HLOW HHIGH HBL HBH
          gi_wp2_with fail
          have hVN : W1.heap.size + 3 < V.heap.size := by have := hBut.size; have := St4.l3; have := (World.block_lt_of_cell? V _ hX); dsimp only at this; omega
          have hVX := World.block_lt_of_cell? V _ hX
          dsimp only at hVX
          gi_loopw [12] (fun i wr => In2 ⟨a0, a1, a2, a3⟩ V (W1.heap.size + 1 + 1) (V2.heap.size + 1) v xa xb i wr) (fun i _ => 256 - (intOf i).toNat)
          case atStart => exact ⟨xa, Nat.le_refl _, by omega, rfl, by rw [hN]; simp, hNf, But.refl _ _, KeepsOthers.refl _, KeepB.refl _ _⟩
          case round =>
            obtain ⟨k, hak, hkb, rfl, hN', hNf', hBut', hK', hKB'⟩ := hrel
            clear hN hNf
            have hX' : wr.cell? ⟨V2.heap.size, 0, none⟩ = some (.int .i64 nx) := (hBut'.cell (p := ⟨V2.heap.size, 0, none⟩) hVX (by simp; omega)).trans hX
            have hXf' : wr.frozen? ⟨V2.heap.size, 0, none⟩ = false := (hBut'.frozen (p := ⟨V2.heap.size, 0, none⟩) hVX (by simp; omega)).trans hXf
            have hKp' : wr.cell? ⟨W1.heap.size, 0, none⟩ = some (.slice (some ⟨g, 0, none⟩) 256 256) := (hBut'.cell (p := ⟨W1.heap.size, 0, none⟩) (by simp; omega) (by simp; omega)).trans hKp
            have hRr' : wr.cell? ⟨w.heap.size + 1 + 1, 0, none⟩ = some (.bool false) := (hBut'.cell (p := ⟨w.heap.size + 1 + 1, 0, none⟩) (by simp; omega) (by simp; omega)).trans hRr
            have hRf' : wr.frozen? ⟨w.heap.size + 1 + 1, 0, none⟩ = false := (hBut'.frozen (p := ⟨w.heap.size + 1 + 1, 0, none⟩) (by simp; omega) (by simp; omega)).trans hRf
            by_cases hlt : k ≤ xb
            · have hlt' : (k : Int) ≤ xb := by omega
              have hk256 : k < 256 := by omega
              have hcK : wr.cell? ⟨g, k, none⟩ = some (.bool ((⟨a0, a1, a2, a3⟩ : BS).has k)) := (hBut'.cell (p := ⟨g, k, none⟩) (by simp; omega) (by simp; omega)).trans (HRow.out k hk256)
              cases hhas : (⟨a0, a1, a2, a3⟩ : BS).has k with
              | true =>
                rw [hhas] at hcK
                clear hhas hX hXf hKp hRr hRf
                generalize hd : v - ((k : Int) - xa) = d at hN'
                have hd1 : -(65536 : Int) ≤ d := by omega
                have hd2 : d ≤ 256 := by omega
                have HD := Lib.hid hd
                clear hd hv1 hv2
                gi_wp2
                refine ⟨⟨k + 1, by omega, by omega, by push_cast; rfl, ?_, ?_, hBut'.setCell (.inl (by simp)) _, hK'.trans (KeepsOthers.setCell _ _ _), hKB'.setCell (by simp; omega) _⟩, ?_⟩
                · rw [World.cell?_setCell_same' _ _ _ (by rw [hN']; rfl)]
                  congr 2
                  have := HD.out
                  push_cast
                  omega
                · rw [World.frozen?_setCell]; exact hNf'
                · simp [intOf]; omega
              | false =>
                have HNO : Hid (¬ pre ++ [⟨xa, xb, ha, hb⟩] <+: (⟨a0, a1, a2, a3⟩ : BS).runs) := Lib.hid fun hp => by
                  have := (HSTEP.out hp).1.all k hak hlt
                  rw [hhas] at this; cases this
                rw [hhas] at hcK
                clear hhas hX hXf hKp hRr hRf hv1 hv2 hN' hNf' hX' hXf'
                gi_wp2
                exact ⟨hK'.trans (KeepsOthers.setCell _ _ _), rfl, HNO.out⟩
            · have hlt' : (xb : Int) < k := by omega
              have hk : k = xb + 1 := by omega
              subst hk
              clear hlt hX hXf hKp hRr hRf
              have hpc : ((xb + 1 : Nat) : Int) = (xb : Int) + 1 := by push_cast; rfl
              rw [hpc] at hN' hlt'
              generalize hd : v - ((xb : Int) + 1 - xa) = d at hN'
              have HD := Lib.hid hd
              have HV := Lib.hid (And.intro hv1 hv2)
              clear hd hv1 hv2
              gi_wp2
              refine ⟨hK'.trans (KeepsOthers.setCell _ _ _), hKB'.setCell (by simp) _, xb + 1, d, by omega, ?_, ?_, ?_, ?_, ?_, ?_, (hBut.trans hBut' (by simp)).setCell (.inl (by simp)) _, fun hp => ?_⟩
              · rw [World.cell?_setCell_same' _ _ _ (by rw [hX']; rfl)]; push_cast; first | rfl | (congr 2; omega)
              · rw [World.frozen?_setCell]; exact hXf'
              · rw [World.cell?_setCell_other _ _ _ _ (by simp <;> omega)]; exact hN'
              · rw [World.frozen?_setCell]; exact hNf'
              · have := HV.out; have := HD.out; rw [List.length_append]; simp only [List.length_singleton]; omega
              · have := HV.out; have := HD.out; omega
              · have h := (HEX.out ((List.prefix_append pre _).trans hp)).2
                have := HD.out
                refine ⟨(nextR_snoc 0 pre ⟨xa, xb, ha, hb⟩).symm, ?_⟩
                rw [tot_snoc]; dsimp only; omega
      · have hcP := HRow.out p p4
        rw [HBL.out p p1 p5] at hcP
        clear p5 p4
        rcases HHIGH.out with hy | ⟨q, q1, q2, q3, q4, q5⟩
        · clear HLOW HHIGH HBL HBH
          gi_wp2_with fail
          have hVN : W1.heap.size + 3 < V.heap.size := by have := hBut.size; have := St4.l3; have := (World.block_lt_of_cell? V _ hX); dsimp only at this; omega
          have hVX := World.block_lt_of_cell? V _ hX
          dsimp only at hVX
          gi_loopw [12] (fun i wr => In2 ⟨a0, a1, a2, a3⟩ V (W1.heap.size + 1 + 1) (V2.heap.size + 1) v xa xb i wr) (fun i _ => 256 - (intOf i).toNat)
          case atStart => exact ⟨xa, Nat.le_refl _, by omega, rfl, by rw [hN]; simp, hNf, But.refl _ _, KeepsOthers.refl _, KeepB.refl _ _⟩
          case round =>
            obtain ⟨k, hak, hkb, rfl, hN', hNf', hBut', hK', hKB'⟩ := hrel
            clear hN hNf
            have hX' : wr.cell? ⟨V2.heap.size, 0, none⟩ = some (.int .i64 nx) := (hBut'.cell (p := ⟨V2.heap.size, 0, none⟩) hVX (by simp; omega)).trans hX
            have hXf' : wr.frozen? ⟨V2.heap.size, 0, none⟩ = false := (hBut'.frozen (p := ⟨V2.heap.size, 0, none⟩) hVX (by simp; omega)).trans hXf
            have hKp' : wr.cell? ⟨W1.heap.size, 0, none⟩ = some (.slice (some ⟨g, 0, none⟩) 256 256) := (hBut'.cell (p := ⟨W1.heap.size, 0, none⟩) (by simp; omega) (by simp; omega)).trans hKp
            have hRr' : wr.cell? ⟨w.heap.size + 1 + 1, 0, none⟩ = some (.bool false) := (hBut'.cell (p := ⟨w.heap.size + 1 + 1, 0, none⟩) (by simp; omega) (by simp; omega)).trans hRr
            have hRf' : wr.frozen? ⟨w.heap.size + 1 + 1, 0, none⟩ = false := (hBut'.frozen (p := ⟨w.heap.size + 1 + 1, 0, none⟩) (by simp; omega) (by simp; omega)).trans hRf
            by_cases hlt : k ≤ xb
            · have hlt' : (k : Int) ≤ xb := by omega
              have hk256 : k < 256 := by omega
              have hcK : wr.cell? ⟨g, k, none⟩ = some (.bool ((⟨a0, a1, a2, a3⟩ : BS).has k)) := (hBut'.cell (p := ⟨g, k, none⟩) (by simp; omega) (by simp; omega)).trans (HRow.out k hk256)
              cases hhas : (⟨a0, a1, a2, a3⟩ : BS).has k with
              | true =>
                rw [hhas] at hcK
                clear hhas hX hXf hKp hRr hRf
                generalize hd : v - ((k : Int) - xa) = d at hN'
                have hd1 : -(65536 : Int) ≤ d := by omega
                have hd2 : d ≤ 256 := by omega
                have HD := Lib.hid hd
                clear hd hv1 hv2
                gi_wp2
                refine ⟨⟨k + 1, by omega, by omega, by push_cast; rfl, ?_, ?_, hBut'.setCell (.inl (by simp)) _, hK'.trans (KeepsOthers.setCell _ _ _), hKB'.setCell (by simp; omega) _⟩, ?_⟩
                · rw [World.cell?_setCell_same' _ _ _ (by rw [hN']; rfl)]
                  congr 2
                  have := HD.out
                  push_cast
                  omega
                · rw [World.frozen?_setCell]; exact hNf'
                · simp [intOf]; omega
              | false =>
                have HNO : Hid (¬ pre ++ [⟨xa, xb, ha, hb⟩] <+: (⟨a0, a1, a2, a3⟩ : BS).runs) := Lib.hid fun hp => by
                  have := (HSTEP.out hp).1.all k hak hlt
                  rw [hhas] at this; cases this
                rw [hhas] at hcK
                clear hhas hX hXf hKp hRr hRf hv1 hv2 hN' hNf' hX' hXf'
                gi_wp2
                exact ⟨hK'.trans (KeepsOthers.setCell _ _ _), rfl, HNO.out⟩
            · have hlt' : (xb : Int) < k := by omega
              have hk : k = xb + 1 := by omega
              subst hk
              clear hlt hX hXf hKp hRr hRf
              have hpc : ((xb + 1 : Nat) : Int) = (xb : Int) + 1 := by push_cast; rfl
              rw [hpc] at hN' hlt'
              generalize hd : v - ((xb : Int) + 1 - xa) = d at hN'
              have HD := Lib.hid hd
              have HV := Lib.hid (And.intro hv1 hv2)
              clear hd hv1 hv2
              gi_wp2
              refine ⟨hK'.trans (KeepsOthers.setCell _ _ _), hKB'.setCell (by simp) _, xb + 1, d, by omega, ?_, ?_, ?_, ?_, ?_, ?_, (hBut.trans hBut' (by simp)).setCell (.inl (by simp)) _, fun hp => ?_⟩
              · rw [World.cell?_setCell_same' _ _ _ (by rw [hX']; rfl)]; push_cast; first | rfl | (congr 2; omega)
              · rw [World.frozen?_setCell]; exact hXf'
              · rw [World.cell?_setCell_other _ _ _ _ (by simp <;> omega)]; exact hN'
              · rw [World.frozen?_setCell]; exact hNf'
              · have := HV.out; have := HD.out; rw [List.length_append]; simp only [List.length_singleton]; omega
              · have := HV.out; have := HD.out; omega
              · have h := (HEX.out ((List.prefix_append pre _).trans hp)).2
                have := HD.out
                refine ⟨(nextR_snoc 0 pre ⟨xa, xb, ha, hb⟩).symm, ?_⟩
                rw [tot_snoc]; dsimp only; omega
        · have hcQ := HRow.out q q4
          rw [HBH.out q q1 q5] at hcQ
          clear q5 q4 HLOW HHIGH HBL HBH
          gi_wp2_with fail
          have hVN : W1.heap.size + 3 < V.heap.size := by have := hBut.size; have := St4.l3; have := (World.block_lt_of_cell? V _ hX); dsimp only at this; omega
          have hVX := World.block_lt_of_cell? V _ hX
          dsimp only at hVX
          gi_loopw [12] (fun i wr => In2 ⟨a0, a1, a2, a3⟩ V (W1.heap.size + 1 + 1) (V2.heap.size + 1) v xa xb i wr) (fun i _ => 256 - (intOf i).toNat)
          case atStart => exact ⟨xa, Nat.le_refl _, by omega, rfl, by rw [hN]; simp, hNf, But.refl _ _, KeepsOthers.refl _, KeepB.refl _ _⟩
          case round =>
            obtain ⟨k, hak, hkb, rfl, hN', hNf', hBut', hK', hKB'⟩ := hrel
            clear hN hNf
            have hX' : wr.cell? ⟨V2.heap.size, 0, none⟩ = some (.int .i64 nx) := (hBut'.cell (p := ⟨V2.heap.size, 0, none⟩) hVX (by simp; omega)).trans hX
            have hXf' : wr.frozen? ⟨V2.heap.size, 0, none⟩ = false := (hBut'.frozen (p := ⟨V2.heap.size, 0, none⟩) hVX (by simp; omega)).trans hXf
            have hKp' : wr.cell? ⟨W1.heap.size, 0, none⟩ = some (.slice (some ⟨g, 0, none⟩) 256 256) := (hBut'.cell (p := ⟨W1.heap.size, 0, none⟩) (by simp; omega) (by simp; omega)).trans hKp
            have hRr' : wr.cell? ⟨w.heap.size + 1 + 1, 0, none⟩ = some (.bool false) := (hBut'.cell (p := ⟨w.heap.size + 1 + 1, 0, none⟩) (by simp; omega) (by simp; omega)).trans hRr
            have hRf' : wr.frozen? ⟨w.heap.size + 1 + 1, 0, none⟩ = false := (hBut'.frozen (p := ⟨w.heap.size + 1 + 1, 0, none⟩) (by simp; omega) (by simp; omega)).trans hRf
            by_cases hlt : k ≤ xb
            · have hlt' : (k : Int) ≤ xb := by omega
              have hk256 : k < 256 := by omega
              have hcK : wr.cell? ⟨g, k, none⟩ = some (.bool ((⟨a0, a1, a2, a3⟩ : BS).has k)) := (hBut'.cell (p := ⟨g, k, none⟩) (by simp; omega) (by simp; omega)).trans (HRow.out k hk256)
              cases hhas : (⟨a0, a1, a2, a3⟩ : BS).has k with
              | true =>
                rw [hhas] at hcK
                clear hhas hX hXf hKp hRr hRf
                generalize hd : v - ((k : Int) - xa) = d at hN'
                have hd1 : -(65536 : Int) ≤ d := by omega
                have hd2 : d ≤ 256 := by omega
                have HD := Lib.hid hd
                clear hd hv1 hv2
                gi_wp2
                refine ⟨⟨k + 1, by omega, by omega, by push_cast; rfl, ?_, ?_, hBut'.setCell (.inl (by simp)) _, hK'.trans (KeepsOthers.setCell _ _ _), hKB'.setCell (by simp; omega) _⟩, ?_⟩
                · rw [World.cell?_setCell_same' _ _ _ (by rw [hN']; rfl)]
                  congr 2
                  have := HD.out
                  push_cast
                  omega
                · rw [World.frozen?_setCell]; exact hNf'
                · simp [intOf]; omega
              | false =>
                have HNO : Hid (¬ pre ++ [⟨xa, xb, ha, hb⟩] <+: (⟨a0, a1, a2, a3⟩ : BS).runs) := Lib.hid fun hp => by
                  have := (HSTEP.out hp).1.all k hak hlt
                  rw [hhas] at this; cases this
                rw [hhas] at hcK
                clear hhas hX hXf hKp hRr hRf hv1 hv2 hN' hNf' hX' hXf'
                gi_wp2
                exact ⟨hK'.trans (KeepsOthers.setCell _ _ _), rfl, HNO.out⟩
            · have hlt' : (xb : Int) < k := by omega
              have hk : k = xb + 1 := by omega
              subst hk
              clear hlt hX hXf hKp hRr hRf
              have hpc : ((xb + 1 : Nat) : Int) = (xb : Int) + 1 := by push_cast; rfl
              rw [hpc] at hN' hlt'
              generalize hd : v - ((xb : Int) + 1 - xa) = d at hN'
              have HD := Lib.hid hd
              have HV := Lib.hid (And.intro hv1 hv2)
              clear hd hv1 hv2
              gi_wp2
              refine ⟨hK'.trans (KeepsOthers.setCell _ _ _), hKB'.setCell (by simp) _, xb + 1, d, by omega, ?_, ?_, ?_, ?_, ?_, ?_, (hBut.trans hBut' (by simp)).setCell (.inl (by simp)) _, fun hp => ?_⟩
              · rw [World.cell?_setCell_same' _ _ _ (by rw [hX']; rfl)]; push_cast; first | rfl | (congr 2; omega)
              · rw [World.frozen?_setCell]; exact hXf'
              · rw [World.cell?_setCell_other _ _ _ _ (by simp <;> omega)]; exact hN'
              · rw [World.frozen?_setCell]; exact hNf'
              · have := HV.out; have := HD.out; rw [List.length_append]; simp only [List.length_singleton]; omega
              · have := HV.out; have := HD.out; omega
              · have h := (HEX.out ((List.prefix_append pre _).trans hp)).2
                have := HD.out
                refine ⟨(nextR_snoc 0 pre ⟨xa, xb, ha, hb⟩).symm, ?_⟩
                rw [tot_snoc]; dsimp only; omega
    case done2 =>
      rintro D2 ys V hD2 rfl ⟨nx, v, hnx, hX, hXf, hN, hNf, -, -, hBut, hex⟩ hK2
      have hv0 : v = 0 := by
        have h := (hex (List.prefix_refl _)).2
        rw [BS.tot_runs] at h; omega
      subst hv0
      have hm4 : ∀ k ∈ [W1.heap.size + 1 + 1, V2.heap.size], W1.heap.size < k ∧ w.heap.size ≤ k ∧ k ≠ D1 ∧ k < D2 := fun k hk => by simp at hk; omega
      have St5 := St4.but hBut (fun k hk => (hm4 k hk).1)
      have hE5 : Below w.heap.size w V := hBut.to_below hE4 (fun k hk => (hm4 k hk).2.1)
      have hMk5 : Mark V D1 := (hBut.block D1 (by omega) (fun e => (hm4 D1 e).2.2.1 rfl)).trans hMk4
      have hMk5' : Mark V D2 := hK2
      have hD2V : D2 < V.heap.size := (Array.getElem?_eq_some_iff.1 hK2).1
      have hlD : V2.heap.size < D2 := by omega
      clear hex hX hXf hBut hX4 hB4 hN4 hNf4 St4 hE4 hMk4 hl4 HZ4 hlen4 hK2 St3
      obtain ⟨c0, c1, c2, c3⟩ := St5.box
      have l0 : w.heap.size < V.heap.size := by omega
      have l1 : w.heap.size < V.heap.size + 1 := by omega
      have hT5 := St5.num
      have hT5f := St5.numf
      dsimp only at c0 c1 c2 c3
      gi_wp2_with fail
      obtain ⟨m, hm0, hm15⟩ : ∃ m : Nat, bits .and .i64 stop 15 = (m : Int) ∧ m ≤ 15 := and15 stop
      rw [hm0]
      refine (callsIn_wide.2 (Bytes_any a0 a1 a2 a3 _)).mono ?_
      rintro e W6 ⟨rfl, hW6⟩
      have hz6 : W6.heap.size = V.heap.size + 2 := by rw [hW6]; simp
      have hE6 : Below w.heap.size w W6 := by rw [hW6]; exact ext_alloc (ext_alloc (hE5.setCell (by simp <;> omega) _) _) _
      have hb6 : Below (V.setCell ⟨w.heap.size + 1, 0, none⟩ (.int .i64 m)).heap.size (V.setCell ⟨w.heap.size + 1, 0, none⟩ (.int .i64 m)) W6 := by rw [hW6]; repeat (first | exact Below.refl _ _ | assumption | refine Below.drew ?_ | refine ext_drewN ?_ _ | refine ext_alloc ?_ _ | refine Below.setCell ?_ (by (try simp only [World.size_alloc, World.size_setCell, World.size_drew]); omega) _ | refine ext_step ?_ (by assumption))
      have St6 := (St5.put (m : Int)).later hb6
      have hS6 : W6.cell? ⟨V.heap.size, 0, none⟩ = some (.int .i64 0) ∧ W6.frozen? ⟨V.heap.size, 0, none⟩ = false := by rw [hW6]; constructor <;> simp [go_sem]
      have hB6 : BoxS W6 (V.heap.size + 1) ⟨a0, a1, a2, a3⟩ := by rw [hW6]; refine ⟨?_, ?_, ?_, ?_⟩ <;> simp [go_sem]
      have hN6 : W6.cell? ⟨W1.heap.size + 1 + 1, 0, none⟩ = some (.int .i64 0) := by
        rw [hb6.cell (p := ⟨W1.heap.size + 1 + 1, 0, none⟩) (by simp; omega), World.cell?_setCell_other _ _ _ _ (by simp <;> omega)]; exact hN
      have hMk6 : Mark W6 D1 := (hMk5.put _ _).later hb6
      have hMk6' : Mark W6 D2 := (hMk5'.put _ _).later hb6
      have hl6 : V.heap.size + 1 < W6.heap.size := by omega
      have HZ6 := Lib.hid hz6
      rw [show ((V.setCell ⟨w.heap.size + 1, 0, none⟩ (.int .i64 m)).alloc (.cells #[.int .i64 0] 3)).heap.size = V.heap.size + 1 by simp]
      clear hW6 hb6 hz6 hN hNf c0 c1 c2 c3 l0 l1 hT5 hT5f hm0 St5 hE5 hMk5 hMk5' hm4
      gi_wp2_with fail
      refine wpIn_rangeFunc_ownF rfl (by omega) (gf := 32) (lb := #[.pointer (some ⟨V.heap.size + 1, 0, none⟩)]) rfl trivial (enters_of Try.func32 (by kernel_rfl) rfl)
        (Bytes_stops _ (V.heap.size + 1) ⟨a0, a1, a2, a3⟩ _ hl6 hB6) keepB_t (keepB_b hl6) (Below.refl _ _) (fun _ => rfl)
        (I3 W6 V.heap.size m)
        (Ix3 W6 V.heap.size m (.exit 8))
        (I3_own _ _ _ _ (Nat.le_refl _))
        (fun c => Ix3_own _ _ _ _ _ _ (Nat.le_refl _))
        ⟨hS6.1, hS6.2, But.refl _ _, by simp⟩
        ?a3 ?assign3 ?body3 ?done3 ?stop3
      case assign3 =>
        intro l x W K hK
        gi_wp2
        exact hK
      case body3 =>
        rintro l pre x V7 ⟨hS, hSf, hBut, hle⟩ hlen
        have hM7 := (St6.but hBut (by simp; omega)).num
        have hSz := World.block_lt_of_cell? V7 _ hS
        dsimp only at hSz
        by_cases he : pre.length = m
        · subst he
          clear hle hm15
          gi_wp2
          exact ⟨KeepsOthers.refl _, rfl, hS, hSf, hBut, by simp⟩
        · have hq : ((pre.length : Int) == (m : Int)) = false := by rw [beq_eq_false_iff_ne]; omega
          have hL1 : (pre.length : Int) ≤ 256 := by omega
          clear he
          gi_wp2
          refine ⟨KeepsOthers.setCell _ _ _, (KeepB.refl _ _).setCell (by simp) _, ?_, ?_, hBut.setCell (.inl (by simp)) _, ?_⟩
          · rw [World.cell?_setCell_same' _ _ _ (by rw [hS]; rfl), List.length_append]; simp
          · rw [World.frozen?_setCell]; exact hSf
          · have h : pre.length ≠ m := by intro e; rw [e] at hq; simp at hq
            rw [List.length_append]; simp; omega
      case done3 =>
        rintro D3 ys V7 hD3 rfl ⟨hS, hSf, hBut, hle⟩ hK3
        rw [BS.bytes_len] at hS hle
        have hmin : (((⟨a0, a1, a2, a3⟩ : BS).len : Nat) : Int) = min (m : Int) ((⟨a0, a1, a2, a3⟩ : BS).len : Nat) := by omega
        rw [hmin] at hS
        have hm6 : ∀ k ∈ [V.heap.size], w.heap.size + 3 ≤ k ∧ k ≠ D1 ∧ k ≠ D2 ∧ k < D3 := fun k hk => by simp at hk; omega
        have St7 := St6.but hBut (fun k hk => (hm6 k hk).1)
        have hE7 : Below w.heap.size w V7 := hBut.to_below hE6 (fun k hk => by have := (hm6 k hk).1; omega)
        have hMk7 : Mark V7 D1 := (hBut.block D1 (by omega) (fun e => (hm6 D1 e).2.1 rfl)).trans hMk6
        have hMk7' : Mark V7 D2 := (hBut.block D2 (by omega) (fun e => (hm6 D2 e).2.2.1 rfl)).trans hMk6'
        have hMk7'' : Mark V7 D3 := hK3
        have hN7 : V7.cell? ⟨W1.heap.size + 1 + 1, 0, none⟩ = some (.int .i64 0) := (hBut.cell (p := ⟨W1.heap.size + 1 + 1, 0, none⟩) (by simp; omega) (by simp; omega)).trans hN6
        have hD3V : D3 < V7.heap.size := (Array.getElem?_eq_some_iff.1 hK3).1
        have hlD3 : D2 < D3 := by omega
        have hlS := World.block_lt_of_cell? V7 _ hS
        dsimp only at hlS
        have HMIN := Lib.hid hmin
        clear hSf hBut hle hK3 hmin hm6 hS6 hB6 hN6 hMk6 hMk6' hl6 HZ6 hE6 St6 hD3
        obtain ⟨c0, c1, c2, c3⟩ := St7.box
        dsimp only at c0 c1 c2 c3
        have l0 : w.heap.size < V7.heap.size := by omega
        gi_wp2_with fail
        refine (callsIn_wide.2 (Runs_any a0 a1 a2 a3 _)).mono ?_
        rintro e W8 ⟨rfl, hW8⟩
        have hz8 : W8.heap.size = V7.heap.size + 1 := by rw [hW8]; simp
        have hb8 : Below V7.heap.size V7 W8 := by rw [hW8]; repeat (first | exact Below.refl _ _ | assumption | refine Below.drew ?_ | refine ext_drewN ?_ _ | refine ext_alloc ?_ _ | refine Below.setCell ?_ (by (try simp only [World.size_alloc, World.size_setCell, World.size_drew]); omega) _ | refine ext_step ?_ (by assumption))
        have hB8 : BoxS W8 V7.heap.size ⟨a0, a1, a2, a3⟩ := by rw [hW8]; refine ⟨?_, ?_, ?_, ?_⟩ <;> simp [go_sem]
        have hl8 : V7.heap.size < W8.heap.size := by omega
        clear hW8 c0 c1 c2 c3 l0
        gi_wp2_with fail
        refine wpIn_rangeFunc_ownF rfl (by omega) (gf := 33) (lb := #[.pointer (some ⟨V7.heap.size, 0, none⟩)]) rfl trivial (enters_of Try.func33 (by kernel_rfl) rfl)
          (Runs_stops _ V7.heap.size ⟨a0, a1, a2, a3⟩ _ hl8 hB8) keepB_t (keepB_b hl8) (Below.refl _ _) (fun _ => rfl)
          (fun _ W => But [] W8 W)
          (fun c _ W => c = .exit 10 ∧ But [] W8 W)
          (ownFrom_but (Nat.le_refl _))
          (fun c => fun pre W W' row hs hg hr => ⟨hs.1, ownFrom_but (β := Unit) (Nat.le_refl _) () W W' row hs.2 hg hr⟩)
          (But.refl _ _)
          ?a4_1 ?assign4_1 ?body4_1 ?done4_1 ?stop4_1
        case assign4_1 =>
          intro l x W K hK
          gi_wp2
          exact hK
        case body4_1 =>
          rintro l pre x V9 hBut hlen
          gi_wp2
          exact ⟨KeepsOthers.refl _, rfl, hBut⟩
        case done4_1 =>
          rintro D4 ys V9 hD4 - hBut hK4
          have hb9 : Below V7.heap.size V7 V9 := hBut.to_below hb8 (fun k hk => by simp at hk)
          have St9 := St7.later hb9
          have hE9 := ext_step hE7 hb9
          have hMk9 := hMk7.later hb9
          have hMk9' := hMk7'.later hb9
          have hMk9'' := hMk7''.later hb9
          have hMk9d : Mark V9 D4 := hK4
          have hN9 := (hb9.cell (p := ⟨W1.heap.size + 1 + 1, 0, none⟩) (by simp; omega)).trans hN7
          have hS9 := (hb9.cell (p := ⟨V.heap.size, 0, none⟩) hlS).trans hS
          have hM9 := St9.num
          have hDD : D1 < D2 ∧ D2 < D3 ∧ D3 < D4 ∧ D4 < V9.heap.size := ⟨by omega, by omega, by omega, (Array.getElem?_eq_some_iff.1 hK4).1⟩
          clear hb9 hBut hK4 hMk7 hMk7' hMk7'' hN7 hS hE7 St7 hb8 hB8 hl8 hz8
          have hR9 := St9.res
          have hRf9 := St9.resf
          obtain ⟨c0, c1, c2, c3⟩ := St9.box
          dsimp only at c0 c1 c2 c3
          have l0 : w.heap.size < V9.heap.size := by have := St9.lt; omega
          have l9 : w.heap.size + 1 + 1 < V9.heap.size := by have := St9.lt; omega
          gi_wp2_with fail
          refine wpIn_wide.2 ?_
          have hF : FinB w.heap.size (W1.heap.size + 1 + 1) V.heap.size (min (m : Int) ((⟨a0, a1, a2, a3⟩ : BS).len : Nat)) m a0 a1 a2 a3 V9 := ⟨⟨hN9, hS9, hM9, c0, c1, c2, c3, hRf9⟩, by omega, by omega, by omega, World.block_lt_of_cell? V9 _ hS9⟩
          go_region_held3 (fun W' => W'.cell? ⟨W1.heap.size + 1 + 1, 0, none⟩ = some (.int .i64 0) ∧ W'.cell? ⟨V.heap.size, 0, none⟩ = some (.int .i64 (min (m : Int) ((⟨a0, a1, a2, a3⟩ : BS).len : Nat))) ∧ W'.cell? ⟨w.heap.size + 1, 0, none⟩ = some (.int .i64 m) ∧ W'.cell? ⟨w.heap.size, 0, none⟩ = some (.int .u64 (wN a0)) ∧ W'.cell? ⟨w.heap.size, 1, none⟩ = some (.int .u64 (wN a1)) ∧ W'.cell? ⟨w.heap.size, 2, none⟩ = some (.int .u64 (wN a2)) ∧ W'.cell? ⟨w.heap.size, 3, none⟩ = some (.int .u64 (wN a3)) ∧ W'.frozen? ⟨w.heap.size + 1 + 1, 0, none⟩ = false) ((refine FinB.c (n := w.heap.size) (N := W1.heap.size + 1 + 1) (S := V.heap.size) ?_; repeat (first | exact hF | refine FinB.drew ?_ | refine FinB.alloc ?_ _ | refine FinB.put ?_ _))) ((go_at_call 15; refine (Len_any a0 a1 a2 a3 _).mono ?_; rintro e w' ⟨rfl, rfl⟩))
          rw [show (min (m : Int) ((⟨a0, a1, a2, a3⟩ : BS).len : Nat) == if (⟨a0, a1, a2, a3⟩ : BS).len < m then (((⟨a0, a1, a2, a3⟩ : BS).len : Nat) : Int) else (m : Int)) = true by
            generalize (⟨a0, a1, a2, a3⟩ : BS).len = L
            rw [beq_iff_eq]; split <;> omega]
          gi_wp2_with fail
          all_goals (
            have hcell : (((V9.setCell ⟨w.heap.size + 1 + 1, 0, none⟩ (.bool true)).alloc (.cells #[.int .u64 (wN a0), .int .u64 (wN a1), .int .u64 (wN a2), .int .u64 (wN a3)] 24)).drew).cell? ⟨w.heap.size + 1 + 1, 0, none⟩ = some (.bool true) := by
              rw [((But.refl [] (V9.setCell ⟨w.heap.size + 1 + 1, 0, none⟩ (.bool true))).alloc (.cells #[.int .u64 (wN a0), .int .u64 (wN a1), .int .u64 (wN a2), .int .u64 (wN a3)] 24)).drew.cell (p := ⟨w.heap.size + 1 + 1, 0, none⟩) (by simp; omega) (by simp)]
              exact World.cell?_setCell_same' _ _ _ (by rw [hR9]; rfl)
            have hEnd : Below w.heap.size w (((V9.setCell ⟨w.heap.size + 1 + 1, 0, none⟩ (.bool true)).alloc (.cells #[.int .u64 (wN a0), .int .u64 (wN a1), .int .u64 (wN a2), .int .u64 (wN a3)] 24)).drew) := (ext_alloc (hE9.setCell (by simp <;> omega) _) _).drew
            refine leaves_marks w.heap.size [D4, D3, D2, D1] _ ?_ ?_ ?_ ?_
            · simp; omega
            · intro D hD
              simp at hD
              rcases hD with rfl | rfl | rfl | rfl
              · exact ⟨by omega, (hMk9d.put _ _).alloc _⟩
              · exact ⟨by omega, (hMk9''.put _ _).alloc _⟩
              · exact ⟨by omega, (hMk9'.put _ _).alloc _⟩
              · exact ⟨by omega, (hMk9.put _ _).alloc _⟩
            · simp; omega
            · intro W' hc hb
              have h := hc _ _ hcell
              refine ⟨.bool true, ?_, rfl, below_trans hEnd hb⟩
              simp [results, go_sem, h])
        case stop4_1 =>
          rintro D4 c pre V9 hD4 - ⟨rfl, hBut⟩ hK4
          have hb9 : Below V7.heap.size V7 V9 := hBut.to_below hb8 (fun k hk => by simp at hk)
          have St9 := St7.later hb9
          have hE9 := ext_step hE7 hb9
          have hMk9 := hMk7.later hb9
          have hMk9' := hMk7'.later hb9
          have hMk9'' := hMk7''.later hb9
          have hMk9d : Mark V9 D4 := hK4
          have hN9 := (hb9.cell (p := ⟨W1.heap.size + 1 + 1, 0, none⟩) (by simp; omega)).trans hN7
          have hS9 := (hb9.cell (p := ⟨V.heap.size, 0, none⟩) hlS).trans hS
          have hM9 := St9.num
          have hDD : D1 < D2 ∧ D2 < D3 ∧ D3 < D4 ∧ D4 < V9.heap.size := ⟨by omega, by omega, by omega, (Array.getElem?_eq_some_iff.1 hK4).1⟩
          clear hb9 hBut hK4 hMk7 hMk7' hMk7'' hN7 hS hE7 St7 hb8 hB8 hl8 hz8
          have hR9 := St9.res
          have hRf9 := St9.resf
          obtain ⟨c0, c1, c2, c3⟩ := St9.box
          dsimp only at c0 c1 c2 c3
          have l0 : w.heap.size < V9.heap.size := by have := St9.lt; omega
          have l9 : w.heap.size + 1 + 1 < V9.heap.size := by have := St9.lt; omega
          gi_wp2_with fail
          refine wpIn_wide.2 ?_
          have hF : FinB w.heap.size (W1.heap.size + 1 + 1) V.heap.size (min (m : Int) ((⟨a0, a1, a2, a3⟩ : BS).len : Nat)) m a0 a1 a2 a3 V9 := ⟨⟨hN9, hS9, hM9, c0, c1, c2, c3, hRf9⟩, by omega, by omega, by omega, World.block_lt_of_cell? V9 _ hS9⟩
          go_region_held3 (fun W' => W'.cell? ⟨W1.heap.size + 1 + 1, 0, none⟩ = some (.int .i64 0) ∧ W'.cell? ⟨V.heap.size, 0, none⟩ = some (.int .i64 (min (m : Int) ((⟨a0, a1, a2, a3⟩ : BS).len : Nat))) ∧ W'.cell? ⟨w.heap.size + 1, 0, none⟩ = some (.int .i64 m) ∧ W'.cell? ⟨w.heap.size, 0, none⟩ = some (.int .u64 (wN a0)) ∧ W'.cell? ⟨w.heap.size, 1, none⟩ = some (.int .u64 (wN a1)) ∧ W'.cell? ⟨w.heap.size, 2, none⟩ = some (.int .u64 (wN a2)) ∧ W'.cell? ⟨w.heap.size, 3, none⟩ = some (.int .u64 (wN a3)) ∧ W'.frozen? ⟨w.heap.size + 1 + 1, 0, none⟩ = false) ((refine FinB.c (n := w.heap.size) (N := W1.heap.size + 1 + 1) (S := V.heap.size) ?_; repeat (first | exact hF | refine FinB.drew ?_ | refine FinB.alloc ?_ _ | refine FinB.put ?_ _))) ((go_at_call 15; refine (Len_any a0 a1 a2 a3 _).mono ?_; rintro e w' ⟨rfl, rfl⟩))
          rw [show (min (m : Int) ((⟨a0, a1, a2, a3⟩ : BS).len : Nat) == if (⟨a0, a1, a2, a3⟩ : BS).len < m then (((⟨a0, a1, a2, a3⟩ : BS).len : Nat) : Int) else (m : Int)) = true by
            generalize (⟨a0, a1, a2, a3⟩ : BS).len = L
            rw [beq_iff_eq]; split <;> omega]
          gi_wp2_with fail
          all_goals (
            have hcell : (((V9.setCell ⟨w.heap.size + 1 + 1, 0, none⟩ (.bool true)).alloc (.cells #[.int .u64 (wN a0), .int .u64 (wN a1), .int .u64 (wN a2), .int .u64 (wN a3)] 24)).drew).cell? ⟨w.heap.size + 1 + 1, 0, none⟩ = some (.bool true) := by
              rw [((But.refl [] (V9.setCell ⟨w.heap.size + 1 + 1, 0, none⟩ (.bool true))).alloc (.cells #[.int .u64 (wN a0), .int .u64 (wN a1), .int .u64 (wN a2), .int .u64 (wN a3)] 24)).drew.cell (p := ⟨w.heap.size + 1 + 1, 0, none⟩) (by simp; omega) (by simp)]
              exact World.cell?_setCell_same' _ _ _ (by rw [hR9]; rfl)
            have hEnd : Below w.heap.size w (((V9.setCell ⟨w.heap.size + 1 + 1, 0, none⟩ (.bool true)).alloc (.cells #[.int .u64 (wN a0), .int .u64 (wN a1), .int .u64 (wN a2), .int .u64 (wN a3)] 24)).drew) := (ext_alloc (hE9.setCell (by simp <;> omega) _) _).drew
            refine leaves_marks w.heap.size [D4, D3, D2, D1] _ ?_ ?_ ?_ ?_
            · simp; omega
            · intro D hD
              simp at hD
              rcases hD with rfl | rfl | rfl | rfl
              · exact ⟨by omega, (hMk9d.put _ _).alloc _⟩
              · exact ⟨by omega, (hMk9''.put _ _).alloc _⟩
              · exact ⟨by omega, (hMk9'.put _ _).alloc _⟩
              · exact ⟨by omega, (hMk9.put _ _).alloc _⟩
            · simp; omega
            · intro W' hc hb
              have h := hc _ _ hcell
              refine ⟨.bool true, ?_, rfl, below_trans hEnd hb⟩
              simp [results, go_sem, h])
      case stop3 =>
        rintro D3 c pre V7 hD3 hpre ⟨rfl, hS, hSf, hBut, hlt⟩ hK3
        have hle := hpre.length_le
        rw [BS.bytes_len] at hle
        have hmin : (m : Int) = min (m : Int) ((⟨a0, a1, a2, a3⟩ : BS).len : Nat) := by omega
        rw [hmin] at hS
        have hm6 : ∀ k ∈ [V.heap.size], w.heap.size + 3 ≤ k ∧ k ≠ D1 ∧ k ≠ D2 ∧ k < D3 := fun k hk => by simp at hk; omega
        have St7 := St6.but hBut (fun k hk => (hm6 k hk).1)
        have hE7 : Below w.heap.size w V7 := hBut.to_below hE6 (fun k hk => by have := (hm6 k hk).1; omega)
        have hMk7 : Mark V7 D1 := (hBut.block D1 (by omega) (fun e => (hm6 D1 e).2.1 rfl)).trans hMk6
        have hMk7' : Mark V7 D2 := (hBut.block D2 (by omega) (fun e => (hm6 D2 e).2.2.1 rfl)).trans hMk6'
        have hMk7'' : Mark V7 D3 := hK3
        have hN7 : V7.cell? ⟨W1.heap.size + 1 + 1, 0, none⟩ = some (.int .i64 0) := (hBut.cell (p := ⟨W1.heap.size + 1 + 1, 0, none⟩) (by simp; omega) (by simp; omega)).trans hN6
        have hD3V : D3 < V7.heap.size := (Array.getElem?_eq_some_iff.1 hK3).1
        have hlD3 : D2 < D3 := by omega
        have hlS := World.block_lt_of_cell? V7 _ hS
        dsimp only at hlS
        have HMIN := Lib.hid hmin
        clear hSf hBut hle hK3 hmin hm6 hS6 hB6 hN6 hMk6 hMk6' hl6 HZ6 hE6 St6 hD3
        obtain ⟨c0, c1, c2, c3⟩ := St7.box
        dsimp only at c0 c1 c2 c3
        have l0 : w.heap.size < V7.heap.size := by omega
        gi_wp2_with fail
        refine (callsIn_wide.2 (Runs_any a0 a1 a2 a3 _)).mono ?_
        rintro e W8 ⟨rfl, hW8⟩
        have hz8 : W8.heap.size = V7.heap.size + 1 := by rw [hW8]; simp
        have hb8 : Below V7.heap.size V7 W8 := by rw [hW8]; repeat (first | exact Below.refl _ _ | assumption | refine Below.drew ?_ | refine ext_drewN ?_ _ | refine ext_alloc ?_ _ | refine Below.setCell ?_ (by (try simp only [World.size_alloc, World.size_setCell, World.size_drew]); omega) _ | refine ext_step ?_ (by assumption))
        have hB8 : BoxS W8 V7.heap.size ⟨a0, a1, a2, a3⟩ := by rw [hW8]; refine ⟨?_, ?_, ?_, ?_⟩ <;> simp [go_sem]
        have hl8 : V7.heap.size < W8.heap.size := by omega
        clear hW8 c0 c1 c2 c3 l0
        gi_wp2_with fail
        refine wpIn_rangeFunc_ownF rfl (by omega) (gf := 33) (lb := #[.pointer (some ⟨V7.heap.size, 0, none⟩)]) rfl trivial (enters_of Try.func33 (by kernel_rfl) rfl)
          (Runs_stops _ V7.heap.size ⟨a0, a1, a2, a3⟩ _ hl8 hB8) keepB_t (keepB_b hl8) (Below.refl _ _) (fun _ => rfl)
          (fun _ W => But [] W8 W)
          (fun c _ W => c = .exit 10 ∧ But [] W8 W)
          (ownFrom_but (Nat.le_refl _))
          (fun c => fun pre W W' row hs hg hr => ⟨hs.1, ownFrom_but (β := Unit) (Nat.le_refl _) () W W' row hs.2 hg hr⟩)
          (But.refl _ _)
          ?a4_2 ?assign4_2 ?body4_2 ?done4_2 ?stop4_2
        case assign4_2 =>
          intro l x W K hK
          gi_wp2
          exact hK
        case body4_2 =>
          rintro l pre x V9 hBut hlen
          gi_wp2
          exact ⟨KeepsOthers.refl _, rfl, hBut⟩
        case done4_2 =>
          rintro D4 ys V9 hD4 - hBut hK4
          have hb9 : Below V7.heap.size V7 V9 := hBut.to_below hb8 (fun k hk => by simp at hk)
          have St9 := St7.later hb9
          have hE9 := ext_step hE7 hb9
          have hMk9 := hMk7.later hb9
          have hMk9' := hMk7'.later hb9
          have hMk9'' := hMk7''.later hb9
          have hMk9d : Mark V9 D4 := hK4
          have hN9 := (hb9.cell (p := ⟨W1.heap.size + 1 + 1, 0, none⟩) (by simp; omega)).trans hN7
          have hS9 := (hb9.cell (p := ⟨V.heap.size, 0, none⟩) hlS).trans hS
          have hM9 := St9.num
          have hDD : D1 < D2 ∧ D2 < D3 ∧ D3 < D4 ∧ D4 < V9.heap.size := ⟨by omega, by omega, by omega, (Array.getElem?_eq_some_iff.1 hK4).1⟩
          clear hb9 hBut hK4 hMk7 hMk7' hMk7'' hN7 hS hE7 St7 hb8 hB8 hl8 hz8
          have hR9 := St9.res
          have hRf9 := St9.resf
          obtain ⟨c0, c1, c2, c3⟩ := St9.box
          dsimp only at c0 c1 c2 c3
          have l0 : w.heap.size < V9.heap.size := by have := St9.lt; omega
          have l9 : w.heap.size + 1 + 1 < V9.heap.size := by have := St9.lt; omega
          gi_wp2_with fail
          refine wpIn_wide.2 ?_
          have hF : FinB w.heap.size (W1.heap.size + 1 + 1) V.heap.size (min (m : Int) ((⟨a0, a1, a2, a3⟩ : BS).len : Nat)) m a0 a1 a2 a3 V9 := ⟨⟨hN9, hS9, hM9, c0, c1, c2, c3, hRf9⟩, by omega, by omega, by omega, World.block_lt_of_cell? V9 _ hS9⟩
          go_region_held3 (fun W' => W'.cell? ⟨W1.heap.size + 1 + 1, 0, none⟩ = some (.int .i64 0) ∧ W'.cell? ⟨V.heap.size, 0, none⟩ = some (.int .i64 (min (m : Int) ((⟨a0, a1, a2, a3⟩ : BS).len : Nat))) ∧ W'.cell? ⟨w.heap.size + 1, 0, none⟩ = some (.int .i64 m) ∧ W'.cell? ⟨w.heap.size, 0, none⟩ = some (.int .u64 (wN a0)) ∧ W'.cell? ⟨w.heap.size, 1, none⟩ = some (.int .u64 (wN a1)) ∧ W'.cell? ⟨w.heap.size, 2, none⟩ = some (.int .u64 (wN a2)) ∧ W'.cell? ⟨w.heap.size, 3, none⟩ = some (.int .u64 (wN a3)) ∧ W'.frozen? ⟨w.heap.size + 1 + 1, 0, none⟩ = false) ((refine FinB.c (n := w.heap.size) (N := W1.heap.size + 1 + 1) (S := V.heap.size) ?_; repeat (first | exact hF | refine FinB.drew ?_ | refine FinB.alloc ?_ _ | refine FinB.put ?_ _))) ((go_at_call 15; refine (Len_any a0 a1 a2 a3 _).mono ?_; rintro e w' ⟨rfl, rfl⟩))
          rw [show (min (m : Int) ((⟨a0, a1, a2, a3⟩ : BS).len : Nat) == if (⟨a0, a1, a2, a3⟩ : BS).len < m then (((⟨a0, a1, a2, a3⟩ : BS).len : Nat) : Int) else (m : Int)) = true by
            generalize (⟨a0, a1, a2, a3⟩ : BS).len = L
            rw [beq_iff_eq]; split <;> omega]
          gi_wp2_with fail
          all_goals (
            have hcell : (((V9.setCell ⟨w.heap.size + 1 + 1, 0, none⟩ (.bool true)).alloc (.cells #[.int .u64 (wN a0), .int .u64 (wN a1), .int .u64 (wN a2), .int .u64 (wN a3)] 24)).drew).cell? ⟨w.heap.size + 1 + 1, 0, none⟩ = some (.bool true) := by
              rw [((But.refl [] (V9.setCell ⟨w.heap.size + 1 + 1, 0, none⟩ (.bool true))).alloc (.cells #[.int .u64 (wN a0), .int .u64 (wN a1), .int .u64 (wN a2), .int .u64 (wN a3)] 24)).drew.cell (p := ⟨w.heap.size + 1 + 1, 0, none⟩) (by simp; omega) (by simp)]
              exact World.cell?_setCell_same' _ _ _ (by rw [hR9]; rfl)
            have hEnd : Below w.heap.size w (((V9.setCell ⟨w.heap.size + 1 + 1, 0, none⟩ (.bool true)).alloc (.cells #[.int .u64 (wN a0), .int .u64 (wN a1), .int .u64 (wN a2), .int .u64 (wN a3)] 24)).drew) := (ext_alloc (hE9.setCell (by simp <;> omega) _) _).drew
            refine leaves_marks w.heap.size [D4, D3, D2, D1] _ ?_ ?_ ?_ ?_
            · simp; omega
            · intro D hD
              simp at hD
              rcases hD with rfl | rfl | rfl | rfl
              · exact ⟨by omega, (hMk9d.put _ _).alloc _⟩
              · exact ⟨by omega, (hMk9''.put _ _).alloc _⟩
              · exact ⟨by omega, (hMk9'.put _ _).alloc _⟩
              · exact ⟨by omega, (hMk9.put _ _).alloc _⟩
            · simp; omega
            · intro W' hc hb
              have h := hc _ _ hcell
              refine ⟨.bool true, ?_, rfl, below_trans hEnd hb⟩
              simp [results, go_sem, h])
        case stop4_2 =>
          rintro D4 c pre V9 hD4 - ⟨rfl, hBut⟩ hK4
          have hb9 : Below V7.heap.size V7 V9 := hBut.to_below hb8 (fun k hk => by simp at hk)
          have St9 := St7.later hb9
          have hE9 := ext_step hE7 hb9
          have hMk9 := hMk7.later hb9
          have hMk9' := hMk7'.later hb9
          have hMk9'' := hMk7''.later hb9
          have hMk9d : Mark V9 D4 := hK4
          have hN9 := (hb9.cell (p := ⟨W1.heap.size + 1 + 1, 0, none⟩) (by simp; omega)).trans hN7
          have hS9 := (hb9.cell (p := ⟨V.heap.size, 0, none⟩) hlS).trans hS
          have hM9 := St9.num
          have hDD : D1 < D2 ∧ D2 < D3 ∧ D3 < D4 ∧ D4 < V9.heap.size := ⟨by omega, by omega, by omega, (Array.getElem?_eq_some_iff.1 hK4).1⟩
          clear hb9 hBut hK4 hMk7 hMk7' hMk7'' hN7 hS hE7 St7 hb8 hB8 hl8 hz8
          have hR9 := St9.res
          have hRf9 := St9.resf
          obtain ⟨c0, c1, c2, c3⟩ := St9.box
          dsimp only at c0 c1 c2 c3
          have l0 : w.heap.size < V9.heap.size := by have := St9.lt; omega
          have l9 : w.heap.size + 1 + 1 < V9.heap.size := by have := St9.lt; omega
          gi_wp2_with fail
          refine wpIn_wide.2 ?_
          have hF : FinB w.heap.size (W1.heap.size + 1 + 1) V.heap.size (min (m : Int) ((⟨a0, a1, a2, a3⟩ : BS).len : Nat)) m a0 a1 a2 a3 V9 := ⟨⟨hN9, hS9, hM9, c0, c1, c2, c3, hRf9⟩, by omega, by omega, by omega, World.block_lt_of_cell? V9 _ hS9⟩
          go_region_held3 (fun W' => W'.cell? ⟨W1.heap.size + 1 + 1, 0, none⟩ = some (.int .i64 0) ∧ W'.cell? ⟨V.heap.size, 0, none⟩ = some (.int .i64 (min (m : Int) ((⟨a0, a1, a2, a3⟩ : BS).len : Nat))) ∧ W'.cell? ⟨w.heap.size + 1, 0, none⟩ = some (.int .i64 m) ∧ W'.cell? ⟨w.heap.size, 0, none⟩ = some (.int .u64 (wN a0)) ∧ W'.cell? ⟨w.heap.size, 1, none⟩ = some (.int .u64 (wN a1)) ∧ W'.cell? ⟨w.heap.size, 2, none⟩ = some (.int .u64 (wN a2)) ∧ W'.cell? ⟨w.heap.size, 3, none⟩ = some (.int .u64 (wN a3)) ∧ W'.frozen? ⟨w.heap.size + 1 + 1, 0, none⟩ = false) ((refine FinB.c (n := w.heap.size) (N := W1.heap.size + 1 + 1) (S := V.heap.size) ?_; repeat (first | exact hF | refine FinB.drew ?_ | refine FinB.alloc ?_ _ | refine FinB.put ?_ _))) ((go_at_call 15; refine (Len_any a0 a1 a2 a3 _).mono ?_; rintro e w' ⟨rfl, rfl⟩))
          rw [show (min (m : Int) ((⟨a0, a1, a2, a3⟩ : BS).len : Nat) == if (⟨a0, a1, a2, a3⟩ : BS).len < m then (((⟨a0, a1, a2, a3⟩ : BS).len : Nat) : Int) else (m : Int)) = true by
            generalize (⟨a0, a1, a2, a3⟩ : BS).len = L
            rw [beq_iff_eq]; split <;> omega]
          gi_wp2_with fail
          all_goals (
            have hcell : (((V9.setCell ⟨w.heap.size + 1 + 1, 0, none⟩ (.bool true)).alloc (.cells #[.int .u64 (wN a0), .int .u64 (wN a1), .int .u64 (wN a2), .int .u64 (wN a3)] 24)).drew).cell? ⟨w.heap.size + 1 + 1, 0, none⟩ = some (.bool true) := by
              rw [((But.refl [] (V9.setCell ⟨w.heap.size + 1 + 1, 0, none⟩ (.bool true))).alloc (.cells #[.int .u64 (wN a0), .int .u64 (wN a1), .int .u64 (wN a2), .int .u64 (wN a3)] 24)).drew.cell (p := ⟨w.heap.size + 1 + 1, 0, none⟩) (by simp; omega) (by simp)]
              exact World.cell?_setCell_same' _ _ _ (by rw [hR9]; rfl)
            have hEnd : Below w.heap.size w (((V9.setCell ⟨w.heap.size + 1 + 1, 0, none⟩ (.bool true)).alloc (.cells #[.int .u64 (wN a0), .int .u64 (wN a1), .int .u64 (wN a2), .int .u64 (wN a3)] 24)).drew) := (ext_alloc (hE9.setCell (by simp <;> omega) _) _).drew
            refine leaves_marks w.heap.size [D4, D3, D2, D1] _ ?_ ?_ ?_ ?_
            · simp; omega
            · intro D hD
              simp at hD
              rcases hD with rfl | rfl | rfl | rfl
              · exact ⟨by omega, (hMk9d.put _ _).alloc _⟩
              · exact ⟨by omega, (hMk9''.put _ _).alloc _⟩
              · exact ⟨by omega, (hMk9'.put _ _).alloc _⟩
              · exact ⟨by omega, (hMk9.put _ _).alloc _⟩
            · simp; omega
            · intro W' hc hb
              have h := hc _ _ hcell
              refine ⟨.bool true, ?_, rfl, below_trans hEnd hb⟩
              simp [results, go_sem, h])
    case stop2 =>
      rintro D c pre V hD hpre ⟨rfl, hno⟩ hK
      exact absurd hpre hno
  case stop =>
    rintro D c pre V hD hpre ⟨rfl, hno⟩ hK
    exact absurd hpre hno
end Go.Proofs.Ytampjjllpdljaaa
