/-
  'Index', walked through the program: of each byte the last set of a list that has it.
-/
import Derived.Test.YtampjjllpdljaaaDoorPartP
import Derived.Test.YtampjjllpdljaaaDoorBut
import Derived.Test.YtampjjllpdljaaaDoorSetH
import Derived.Deep.WholeRow
import Derived.Deep.MidRow
set_option linter.unusedSimpArgs false
set_option linter.unusedVariables false
set_option maxRecDepth 100000
namespace Go.Proofs.YtampjjllpdljaaaDoor
open Go.RowKit Go.Shelf
attribute [local go_sem] Oper.semAt_some wide_fn wide_depth

/-- 256 small numbers, as cells -/
def rowU (f : Nat → Nat) : Array Value := (Array.range 256).map fun i => .int .u8 (f i : Int)
theorem rowU_size (f : Nat → Nat) : (rowU f).size = 256 := by simp [rowU]
theorem rowU_get (f : Nat → Nat) (i : Nat) (h : i < 256) : (rowU f)[i]? = some (.int .u8 (f i : Int)) := by unfold rowU; simp [h]
theorem rowU_one (f : Nat → Nat) : (rowU f).all (·.oneCell') = true := by
  rw [Array.all_eq_true_iff_forall_mem]
  intro v hv
  obtain ⟨i, _, rfl⟩ := Array.mem_map.1 hv
  rfl
theorem rowU_ext {f g : Nat → Nat} (h : ∀ i, i < 256 → f i = g i) : rowU f = rowU g := by
  apply Array.ext_getElem?
  intro i
  by_cases hi : i < 256
  · rw [rowU_get _ _ hi, rowU_get _ _ hi, h i hi]
  · rw [Array.getElem?_eq_none (by simp [rowU_size]; omega), Array.getElem?_eq_none (by simp [rowU_size]; omega)]
def setU (f : Nat → Nat) (k n : Nat) : Nat → Nat := fun i => if i = k then n else f i
theorem rowU_set (f : Nat → Nat) (k n : Nat) (h : k < 256) : (rowU f).setIfInBounds k (.int .u8 (n : Int)) = rowU (setU f k n) := by
  apply Array.ext_getElem?
  intro i
  by_cases hi : i < 256
  · rw [Array.getElem?_setIfInBounds, rowU_get _ _ hi, rowU_get _ _ hi, rowU_size]
    unfold setU
    by_cases hik : k = i
    · subst hik; simp [h]
    · rw [if_neg hik, if_neg (fun e => hik e.symm)]
  · rw [Array.getElem?_eq_none (by simp [rowU_size]; omega), Array.getElem?_eq_none (by simp [rowU_size]; omega)]
/-- behind some bytes: these bear n -/
def afterU (f : Nat → Nat) (n : Nat) (pre : List Byt) : Nat → Nat := fun i => if pre.any (fun x => x.n == i) then n else f i
theorem afterU_nil (f : Nat → Nat) (n : Nat) : afterU f n [] = f := by funext i; simp [afterU]
theorem afterU_snoc (f : Nat → Nat) (n : Nat) (pre : List Byt) (x : Byt) : setU (afterU f n pre) x.n n = afterU f n (pre ++ [x]) := by
  funext i
  unfold setU afterU
  rw [List.any_append]
  by_cases h : i = x.n
  · subst h; simp
  · have : (x.n == i) = false := by simpa using fun e => h e.symm
    simp [h, this]
theorem bytesTo_any (s : BS) (i : Nat) : ∀ k, k ≤ 256 → (s.bytesTo k).any (fun x => x.n == i) = (decide (i < k) && s.has i)
  | 0, _ => by simp [BS.bytesTo]
  | k + 1, h => by
    have ih := bytesTo_any s i k (by omega)
    cases hs : s.has k with
    | false =>
      rw [s.bytesTo_no k hs, ih]
      by_cases e : i = k
      · subst e; simp [hs]
      · have : (i < k + 1) ↔ (i < k) := by omega
        simp [this]
    | true =>
      rw [s.bytesTo_yes k (by omega) hs, List.any_append, ih]
      by_cases e : i = k
      · subst e; simp [hs]
      · have h1 : (i < k + 1) ↔ (i < k) := by omega
        have h2 : (k == i) = false := by simpa using fun e' => e e'.symm
        simp [h1, h2]
theorem afterU_bytes (l : List BS) (k i : Nat) (hi : i < 256) : afterU (idxTo l k) k (l.getD k BS.none).bytes i = idxTo l (k + 1) i := by
  unfold afterU BS.bytes
  rw [bytesTo_any _ _ 256 (Nat.le_refl _), idxTo]
  simp [hi]

/-- the four words of a set lie at an address -/
def SetAt (w : World) (b o : Nat) (s : BS) : Prop :=
  w.cell? ⟨b, o, none⟩ = some (.int .u64 (wN s.a)) ∧ w.cell? ⟨b, o + 1, none⟩ = some (.int .u64 (wN s.b)) ∧ w.cell? ⟨b, o + 2, none⟩ = some (.int .u64 (wN s.c)) ∧ w.cell? ⟨b, o + 3, none⟩ = some (.int .u64 (wN s.d))
/-- a list of sets lies in a row -/
def SetsAt (w : World) (b off : Nat) (l : List BS) : Prop := ∀ i, i < l.length → SetAt w b (off + i * 4) (l.getD i BS.none)
theorem SetAt.lt {w : World} {b o : Nat} {s : BS} (h : SetAt w b o s) : b < w.heap.size := World.block_lt_of_cell? w _ h.1
theorem SetAt.same {w w1 : World} {b o : Nat} {s : BS} (h : SetAt w b o s) (hb : w1.heap[b]? = w.heap[b]?) : SetAt w1 b o s :=
  ⟨(World.cell?_of_block (w := w) (a := ⟨b, o, none⟩) hb).trans h.1, (World.cell?_of_block (w := w) (a := ⟨b, o + 1, none⟩) hb).trans h.2.1, (World.cell?_of_block (w := w) (a := ⟨b, o + 2, none⟩) hb).trans h.2.2.1, (World.cell?_of_block (w := w) (a := ⟨b, o + 3, none⟩) hb).trans h.2.2.2⟩
theorem SetsAt.later {B : Nat} {w w1 : World} {b off : Nat} {l : List BS} (h : SetsAt w b off l) (hb : Below B w w1) (hlt : 0 < l.length → b < B) : SetsAt w1 b off l :=
  fun i hi => (h i hi).same (hb.block b (hlt (by omega)))

theorem infoRow : (Tryd.prog.info? 37).map (fun i => (i.zero, i.size)) = some (some (.agg (rowU fun _ => 0)), 256) := by kernel_rfl
theorem undRow : Tryd.prog.underlying 37 = some (.array 256 5) := by kernel_rfl
abbrev mkMark (D : Nat) : Deferred := { target := .collected D, args := #[] }
/-- between two rounds -/
structure IdxW (l : List BS) (w : World) (f : Nat → Nat) (Ds : List Nat) (W : World) : Prop where
  nd : Ds.Nodup
  marks : ∀ D ∈ Ds, w.heap.size + 2 ≤ D ∧ Mark W D
  row : W.heap[w.heap.size + 1]? = some (.cells (rowU f) 37 (0, 0))
  res : W.heap[w.heap.size]? = some (.cells (rowU fun _ => 0) 37 (0, 0))
  bel : Below w.heap.size w W
theorem IdxW.sz {l : List BS} {w : World} {f : Nat → Nat} {Ds : List Nat} {W : World} (h : IdxW l w f Ds W) : w.heap.size + 1 < W.heap.size := (Array.getElem?_eq_some_iff.1 h.row).1

theorem exec_load {P : Program} {ρ : Operand → Value} {o : Oper} {ty : TypeId} {x : Operand} {w w' : World} {v : Value} (ho : o.op = .load ty x) (h : (Instr.loadAt ty (ρ x)).run P w = .ok v w') : (execOp ρ o).run P w = .ok (.value v) w' := by
  unfold execOp; simp only [ho, Sem.run_bind, h, Result.andThen_ok, Sem.run_pure]
theorem exec_store {P : Program} {ρ : Operand → Value} {o : Oper} {ty : TypeId} {x y : Operand} {w w' : World} (ho : o.op = .store ty x y) (h : (Instr.storeAt ty (ρ x) (ρ y)).run P w = .ok () w') : (execOp ρ o).run P w = .ok .skip w' := by
  unfold execOp; simp only [ho, Sem.run_bind, h, Result.andThen_ok, Sem.run_pure]
theorem wpIn_value {n : Nat} {P : Program} {o : Oper} {a : Act} {w w' : World} {K : Act → World → Prop} {Q : Exit → Act → World → Prop} {v : Value} (hs : o.semAt none a.eval = execOp a.eval o) (hab : o.about P w a.eval = none)
   (h : (execOp a.eval o).run P w = .ok (.value v) w') (hk : K (a.put o.dst v) w') : o.wpIn Fence.wide n P a w K Q :=
  ⟨fun f hf => (by rw [hab] at hf; cases hf), by show o.uponIn _ _ _ _ _ _ ((o.semAt none a.eval).run P w); rw [hs, h]; exact hk⟩
theorem wpIn_skip {n : Nat} {P : Program} {o : Oper} {a : Act} {w w' : World} {K : Act → World → Prop} {Q : Exit → Act → World → Prop} (hs : o.semAt none a.eval = execOp a.eval o) (hab : o.about P w a.eval = none)
   (h : (execOp a.eval o).run P w = .ok .skip w') (hk : K (a.put o.dst undef) w') : o.wpIn Fence.wide n P a w K Q :=
  ⟨fun f hf => (by rw [hab] at hf; cases hf), by show o.uponIn _ _ _ _ _ _ ((o.semAt none a.eval).run P w); rw [hs, h]; exact hk⟩
set_option maxRecDepth 100000 in
set_option maxHeartbeats 4000000 in
theorem Index_any (p : Option Addr) (b off cap : Nat) (l : List BS) (hp : 0 < l.length → p = some ⟨b, off, none⟩) (hl : l.length ≤ 256) (w : World) (hc : SetsAt w b off l) :
    Calls Tryd.prog 17 #[.slice p l.length cap] w fun e w' => e = .returned (.agg (rowU (idxTo l l.length))) ∧ Below w.heap.size w w' := by
  have HC := Lib.hid hc
  have HP := Lib.hid hp
  clear hc hp
  obtain ⟨hzr, hsz⟩ := zero_of_info infoRow
  have HSZ := Lib.hid hsz
  clear hsz
  refine (callsIn_wide (n := 5)).1 ?_
  refine callsIn_of_wp_marks Tryd.func17 rfl trivial ?_ rfl
  simp only [Tryd.ntmps17, List.size_toArray, List.length_cons, List.length_nil, Nat.reduceAdd, Nat.reduceSub, Array.replicate_succ, Array.replicate_zero, List.push_toArray, List.append_toArray, List.nil_append, List.cons_append]
  gi_wp2_with fail
  refine wpIn_loop (fun a' W' => ∃ (k : Nat) (Ds : List Nat) (u4 u5 u6 u10 u11 u12 u13 u14 u15 u16 u17 u18 u19 u20 u21 : Value), k ≤ l.length ∧ IdxW l w (idxTo l k) Ds W' ∧ a' = ⟨#[.slice p l.length cap, undef, .pointer (some ⟨w.heap.size, 0, none⟩), .pointer (some ⟨w.heap.size + 1, 0, none⟩), u4, u5, u6, .slice p l.length cap, .int .i64 l.length, .int .i64 k, u10, u11, u12, u13, u14, u15, u16, u17, u18, u19, u20, u21, undef], Ds.map mkMark⟩)
    (fun a' _ => l.length - (intOf (a'.tmps.getD 9 undef)).toNat) ?_ ?_
  · refine ⟨0, [], _, _, _, _, _, _, _, _, _, _, _, _, _, _, _, by omega, ⟨List.nodup_nil, fun D hD => by simp at hD, ?_, ?_, ?_⟩, rfl⟩
    · have := heap_alloc2_new w (.cells (rowU fun _ => 0) 37) (.cells (rowU fun _ => 0) 37)
      exact this
    · have := heap_alloc2_old w (.cells (rowU fun _ => 0) 37) (.cells (rowU fun _ => 0) 37)
      exact this
    · repeat (first | exact Below.refl _ _ | assumption | refine Below.drew ?_ | refine ext_drewN ?_ _ | refine ext_alloc ?_ _ | refine Below.setCell ?_ (by (try simp only [World.size_alloc, World.size_setCell, World.size_drew]); omega) _ | refine ext_step ?_ (by assumption))
  · rintro a' W' ⟨k, Ds, u4, u5, u6, u10, u11, u12, u13, u14, u15, u16, u17, u18, u19, u20, u21, hk, hI, rfl⟩
    have hsz := hI.sz
    by_cases hlt : k < l.length
    · have e := HP.out (by omega)
      subst e
      have hset := HC.out k hlt
      have hb := hset.lt
      have hset := hset.same (hI.bel.block b hb)
      have hrow1 := afterU_bytes l k
      have HROW1 := Lib.hid hrow1
      clear hrow1
      generalize hs : l.getD k BS.none = s at *
      have HS := Lib.hid hs
      clear hs
      obtain ⟨a0, a1, a2, a3⟩ := s
      obtain ⟨c0, c1, c2, c3⟩ := hset
      dsimp only at c0 c1 c2 c3
      have hk0 : (0 : Int) ≤ k := by omega
      gi_wp2_with fail
      refine (callsIn_wide.2 (Bytes_any a0 a1 a2 a3 _)).mono ?_
      rintro e W3 ⟨rfl, hW3⟩
      have hz3 : W3.heap.size = W'.heap.size + 3 := by rw [hW3]; simp
      have hb3 : Below W'.heap.size W' W3 := by rw [hW3]; repeat (first | exact Below.refl _ _ | assumption | refine Below.drew ?_ | refine ext_drewN ?_ _ | refine ext_alloc ?_ _ | refine Below.setCell ?_ (by (try simp only [World.size_alloc, World.size_setCell, World.size_drew]); omega) _ | refine ext_step ?_ (by assumption))
      have hI3 : W3.cell? ⟨W'.heap.size, 0, none⟩ = some (.int .i64 k) := by rw [hW3]; simp [go_sem]
      have hB3 : BoxS W3 (W'.heap.size + 2) ⟨a0, a1, a2, a3⟩ := by rw [hW3]; refine ⟨?_, ?_, ?_, ?_⟩ <;> simp [go_sem]
      have hrow3 : W3.heap[w.heap.size + 1]? = some (.cells (rowU (idxTo l k)) 37 (0, 0)) := (hb3.block _ hsz).trans hI.row
      rw [show ((W'.alloc (.cells #[.int .i64 k] 3)).alloc (.cells #[.int .u64 (wN a0), .int .u64 (wN a1), .int .u64 (wN a2), .int .u64 (wN a3)] 24)).heap.size = W'.heap.size + 2 by simp]
      have HZ3 := Lib.hid hz3
      have hz3' : W'.heap.size + 2 < W3.heap.size := by omega
      clear hz3 hW3 c0 c1 c2 c3 hset
      gi_wp2_with fail
      refine wpIn_rangeFunc_ownF rfl (by omega) (gf := 32) (lb := #[.pointer (some ⟨W'.heap.size + 2, 0, none⟩)]) rfl trivial (enters_of Tryd.func32 (by kernel_rfl) rfl)
        (Bytes_stops _ (W'.heap.size + 2) ⟨a0, a1, a2, a3⟩ _ hz3' hB3) keepB_t (keepB_b hz3') (Below.refl _ _) (fun _ => rfl)
        (fun pre V => V.heap[w.heap.size + 1]? = some (.cells (rowU (afterU (idxTo l k) k pre)) 37 (0, 0)) ∧ V.cell? ⟨W'.heap.size, 0, none⟩ = some (.int .i64 k) ∧ But [w.heap.size + 1] W3 V)
        (fun _ _ _ => False)
        (OwnFrom.and (fun pre W W' row hs hg hr => (ownFrom_block (β := List Byt) (by omega)) pre W W' row hs hg hr) (OwnFrom.and (Own.from (fun s A B row hs hg hr => cell_kept hs hg hr) _) (ownFrom_but (Nat.le_refl _))))
        (fun c => fun _ _ _ _ hs _ _ => hs)
        ⟨by rw [afterU_nil]; exact hrow3, hI3, But.refl _ _⟩
        ?a1 ?assign ?body ?done ?stop
      case assign =>
        intro l x W K hK
        gi_wp2
        exact hK
      case body =>
        rintro l' pre x V ⟨hrow, hcI, hBut⟩ hlen
        have hx := x.h
        have hx0 : (0 : Int) ≤ (x.n : Int) := by omega
        have hx1 : (x.n : Int) ≤ 255 := by omega
        have hlo : (k : Int) ≤ 255 := by omega
        have hcell : V.cell? ⟨w.heap.size + 1, x.n, none⟩ = some (.int .u8 (afterU (idxTo l k) k pre x.n : Int)) := by rw [cell_of_row _ _ _ _ _ _ hrow, rowU_get _ _ hx]
        have hfr : V.frozen? ⟨w.heap.size + 1, x.n, none⟩ = false := frozen_of_row _ _ _ _ _ hrow
        have HROW := Lib.hid hrow
        clear hrow
        gi_wp2_with fail
        refine ⟨KeepsOthers.setCell _ _ _, (KeepB.refl _ _).setCell (by simp; omega) _, ?_, ?_, hBut.setCell (.inl (by simp)) _⟩
        · rw [heap_setCell_same _ _ _ _ _ _ HROW.out, rowU_set _ _ _ hx, afterU_snoc]
        · rw [World.cell?_setCell_other _ _ _ _ (by simp <;> omega)]; exact hcI
      case done =>
        rintro D ys V hD rfl ⟨hrow, hcI, hBut⟩ hMk
        have HZ := HZ3.out
        have hInext : IdxW l w (idxTo l (k + 1)) (D :: Ds) V := by
          refine ⟨List.nodup_cons.2 ⟨fun hm => ?_, hI.nd⟩, fun E hE => ?_, ?_, ?_, ?_⟩
          · have := (Array.getElem?_eq_some_iff.1 (hI.marks D hm).2).1
            omega
          · rcases List.mem_cons.1 hE with rfl | hE'
            · exact ⟨by omega, hMk⟩
            · obtain ⟨h1, h2⟩ := hI.marks E hE'
              have hlt' := (Array.getElem?_eq_some_iff.1 h2).1
              refine ⟨h1, ?_⟩
              show V.heap[E]? = _
              rw [hBut.block E (by omega) (by simp; omega), hb3.block E hlt']; exact h2
          · rw [rowU_ext HROW1.out] at hrow; exact hrow
          · rw [hBut.block _ (by omega) (by simp), hb3.block _ (by omega)]; exact hI.res
          · exact hBut.to_below (ext_step hI.bel hb3) (fun k hk => by simp at hk; omega)
        have HIN := Lib.hid hInext
        clear hInext hrow hcI hBut hMk hI hb3 hI3 hB3 hrow3
        gi_wp2_with fail
        refine ⟨⟨k + 1, D :: Ds, _, _, _, _, _, _, _, _, _, _, _, _, _, _, _, by omega, HIN.out, rfl⟩, ?_⟩
        simp [intOf] <;> omega
      case stop =>
        rintro D c pre W hD hp hf hM
        exact hf.elim
    · obtain rfl : k = l.length := by omega
      have hld : (Instr.loadAt 37 (.pointer (some ⟨w.heap.size + 1, 0, none⟩))).run Tryd.prog W' = .ok (.agg (rowU (idxTo l l.length))) W' := by
        simp only [Instr.loadAt, Instr.sureAddr, Sem.run_bind, Sem.run_pure, Result.andThen_ok, run_loadVar_row W' (w.heap.size + 1) 37 37 _ _ _ hI.row undRow rfl (by rw [rowU_size]; exact HSZ.out)]
      have h256 : (rowU (idxTo l l.length)).size = 256 := rowU_size _
      have hst : (storeCells ⟨w.heap.size, 0, none⟩ (rowU (idxTo l l.length)).toList).run Tryd.prog W' = .ok () (W'.setRow w.heap.size (rowU (idxTo l l.length))) := by
        have hv := run_storeVar_row (P := Tryd.prog) _ _ 37 37 _ _ hI.res (by rw [rowU_size]; exact HSZ.out) (by rw [rowU_size, rowU_size]) (rowU_one (idxTo l l.length))
        have hz := HSZ.out
        cases hq : Tryd.prog.info? 37 with
        | none => rw [hq] at hz; cases hz
        | some i =>
          rw [hq] at hz
          have hs : 256 = i.size := by simpa using hz.symm
          simpa [storeVar, sizeOf, typeInfo, hq, Value.cells, rowU_size, ← hs] using hv
      gi_wp2_with fail
      refine wpIn_value rfl rfl (exec_load (ty := 37) (x := .tmp 3) rfl hld) ?_
      gi_wp2_with fail
      have hbR : Below w.heap.size W' (W'.setRow w.heap.size (rowU (idxTo l l.length))) := ⟨rfl, rfl, rfl, by simp, fun k hk => setRow_other W' _ _ _ (by omega)⟩
      refine leaves_marks (w.heap.size + 1) Ds _ hI.nd (fun D hD => ⟨by have := (hI.marks D hD).1; omega, ?_⟩) (by simp; omega) fun W'' hcl hbl => ?_
      · show (W'.setRow _ _).heap[D]? = _
        rw [setRow_other W' _ _ _ (by have := (hI.marks D hD).1; omega)]; exact (hI.marks D hD).2
      · have hrow2 : W''.heap[w.heap.size]? = some (.cells (rowU (idxTo l l.length)) 37 (0, 0)) := by
          rw [hbl.block _ (by omega)]; exact setRow_heap W' _ _ _ _ _ hI.res
        refine ⟨_, results_cell_row (P := Tryd.prog) rfl _ _ w.heap.size 37 (rowU (idxTo l l.length)) _ _ rfl hrow2 undRow rfl (by rw [rowU_size]; exact HSZ.out), rfl, ?_⟩
        exact hI.bel.trans (hbR.trans (hbl.mono (by omega)))
end Go.Proofs.YtampjjllpdljaaaDoor
