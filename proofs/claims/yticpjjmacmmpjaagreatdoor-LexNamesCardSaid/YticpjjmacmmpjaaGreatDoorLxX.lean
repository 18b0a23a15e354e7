/-
  An expression between slashes, read as a token: walked through the program.
-/
import Derived.Test.YticpjjmacmmpjaaGreatDoorLxW
import Derived.Test.YticpjjmacmmpjaaGreatDoorLxR
set_option linter.unusedSimpArgs false
set_option linter.unusedVariables false
set_option maxRecDepth 100000
set_option linter.unnecessarySimpa false
namespace Go.Proofs.YticpjjmacmmpjaaGreatDoor
open Go.RowKit
theorem untilI_eq (b : UInt8) (s : List UInt8) (k : Nat) : untilI b s k = match LX.untilN b (s.drop k) with | none => -1 | some j => ((k + j : Nat) : Int) := by
  unfold untilI
  cases LX.untilN b (s.drop k) with
  | none => rfl
  | some j => simp
theorem heap_in {w w' : World} {k : Nat} {o : Obj} (h : w.heap[k]? = some o) (hb : Below w.heap.size w w') : w'.heap[k]? = some o := (hb.block k (Array.getElem?_eq_some_iff.1 h).1).trans h
/-- a token that is being read: the lexer, two tokens in blocks of their own, an expression -/
structure TkW (w : World) (p : Nat) (s : List UInt8) (a : Nat) (rv : Value) (ro : Option RE) (W : World) : Prop where
  pl : p < w.heap.size
  lx : LxAt W p s a
  far : Far p w W
  t0 : ∃ cs, W.heap[w.heap.size]? = some (.cells cs 40 (0, 0))
  t1 : ∃ cs, W.heap[w.heap.size + 1]? = some (.cells cs 40 (0, 0))
  re : IsReO W rv ro
section
variable {w W W' : World} {p a : Nat} {s : List UInt8} {rv : Value} {ro : Option RE}
theorem Far.setNew {c : Nat} (h : Far p w W) (hc : w.heap.size ≤ c) (j : Nat) (v : Value) : Far p w (W.setCell ⟨c, j, none⟩ v) :=
  ⟨h.os, h.tape, h.output, by simpa using h.size, fun k hk hne => (Below.heap_setCell _ _ _ _ (by show k ≠ c; omega)).trans (h.block k hk hne)⟩
theorem reO_putT {W : World} {c j : Nat} {cs : Array Value} {x : Value} (h : W.heap[c]? = some (.cells cs 40 (0, 0))) {u : Value} {o : Option RE} (hu : IsReO W u o) : IsReO (W.setCell ⟨c, j, none⟩ x) u o :=
  hu.put h (by decide) (by decide) fun k _ hk => Below.heap_setCell _ _ _ _ hk
theorem TkW.later (h : TkW w p s a rv ro W) (hb : Below W.heap.size W W') : TkW w p s a rv ro W' :=
  ⟨h.pl, h.lx.later hb, h.far.trans (Far.below hb), by obtain ⟨cs, hc⟩ := h.t0; exact ⟨cs, heap_in hc hb⟩, by obtain ⟨cs, hc⟩ := h.t1; exact ⟨cs, heap_in hc hb⟩, h.re.later hb⟩
theorem TkW.with {rv' : Value} {ro' : Option RE} (h : TkW w p s a rv ro W) (hr : IsReO W rv' ro') : TkW w p s a rv' ro' W := ⟨h.pl, h.lx, h.far, h.t0, h.t1, hr⟩
theorem TkW.tok0 (h : TkW w p s a rv ro W) (j : Nat) (v : Value) : TkW w p s a rv ro (W.setCell ⟨w.heap.size, j, none⟩ v) := by
  obtain ⟨cs, hc⟩ := h.t0
  obtain ⟨ds, hd⟩ := h.t1
  have hp := h.pl
  exact ⟨hp, (Below.heap_setCell _ _ _ _ (by show p ≠ w.heap.size; omega)).trans h.lx, h.far.setNew (Nat.le_refl _) j v, ⟨_, heap_setCell_same _ _ _ _ _ _ hc⟩, ⟨ds, (Below.heap_setCell _ _ _ _ (by show w.heap.size + 1 ≠ w.heap.size; omega)).trans hd⟩, reO_putT hc h.re⟩
theorem TkW.tok1 (h : TkW w p s a rv ro W) (j : Nat) (v : Value) : TkW w p s a rv ro (W.setCell ⟨w.heap.size + 1, j, none⟩ v) := by
  obtain ⟨cs, hc⟩ := h.t0
  obtain ⟨ds, hd⟩ := h.t1
  have hp := h.pl
  exact ⟨hp, (Below.heap_setCell _ _ _ _ (by show p ≠ w.heap.size + 1; omega)).trans h.lx, h.far.setNew (Nat.le_succ _) j v, ⟨cs, (Below.heap_setCell _ _ _ _ (by show w.heap.size ≠ w.heap.size + 1; omega)).trans hc⟩, ⟨_, heap_setCell_same _ _ _ _ _ _ hd⟩, reO_putT hd h.re⟩
theorem TkW.pos (h : TkW w p s a rv ro W) (b : Nat) (v : Int) (hv : v = (b : Nat)) : TkW w p s b rv ro (W.setCell ⟨p, 1, none⟩ (.int .i64 v)) := by
  obtain ⟨cs, hc⟩ := h.t0
  obtain ⟨ds, hd⟩ := h.t1
  have hp := h.pl
  exact ⟨hp, h.lx.put' b v hv, h.far.set 1 _, ⟨cs, (Below.heap_setCell _ _ _ _ (by show w.heap.size ≠ p; omega)).trans hc⟩, ⟨ds, (Below.heap_setCell _ _ _ _ (by show w.heap.size + 1 ≠ p; omega)).trans hd⟩, h.re.farL h.lx ((Far.refl p W).set 1 _)⟩
theorem TkW.first (h : LxAt w p s a) (cs ds : Array Value) : TkW w p s a (.pointer none) none ((w.alloc (.cells cs 40)).alloc (.cells ds 40)) := by
  have e1 : (w.alloc (.cells cs 40)).heap.size = w.heap.size + 1 := by simp
  have h4 := heap_alloc_last (w.alloc (.cells cs 40)) (.cells ds 40)
  rw [e1] at h4
  exact ⟨h.lt, h.later (ext_alloc (re_alloc w _) _), Far.below (ext_alloc (re_alloc w _) _), ⟨cs, heap_in (heap_alloc_last w _) (re_alloc _ _)⟩, ⟨ds, h4⟩, rfl⟩
end
set_option maxRecDepth 100000 in
set_option maxHeartbeats 4000000 in
theorem lxExpr_any (w : World) (p a : Nat) (s : List UInt8) (ha : a < s.length) (hs : s.length ≤ 65536) (h : LxAt w p s a) :
    Calls Tryz.prog 95 #[ptr p] w (TokPost p s w (LX.expr s a (s.drop (a + 1)))) := by
  obtain ⟨c0, c1⟩ := h.cells
  have hpl := h.lt
  have hsz : (⟨s.toArray⟩ : ByteArray).size = s.length := str_size s
  have HL := Lib.hid h
  have f1 := h.frz 1
  have HUN := Lib.hid (fun W (h : LxAt W p s a) => until_any (w := W) 47 (a + 1) (by omega) hs h)
  have hcast : ((a + 1 : Nat) : Int) = (a : Int) + 1 := by omega
  rw [hcast, untilI_eq] at HUN
  have HE : Hid (LX.expr s a (s.drop (a + 1)) = match LX.untilN 47 (s.drop (a + 1)) with
    | none => (⟨4, [], none, a⟩, 2, s.length)
    | some k => if (readW ((s.drop (a + 1)).take k)).2.1 = 0 then (⟨4, [], (readW ((s.drop (a + 1)).take k)).1, a⟩, 0, a + k + 2) else (⟨4, [], none, a⟩, (readW ((s.drop (a + 1)).take k)).2.1, a + 1 + (readW ((s.drop (a + 1)).take k)).2.2)) := rfl
  have HLTK := Lib.hid (fun k (hk : LX.untilN 47 (s.drop (a + 1)) = some k) => (LX.untilN_lt _ _ k (Nat.le_refl _) hk).1)
  generalize LX.expr s a (s.drop (a + 1)) = OUT at *
  have hx1 := re_alloc w (.cells #[.int .i64 0, .string ⟨#[]⟩, .pointer none, .int .i64 0] 40)
  have hx2 := ext_alloc hx1 (.cells #[.int .i64 4, .string ⟨#[]⟩, .pointer none, .int .i64 (a : Nat)] 40)
  have HX2 := Lib.hid hx2
  have HLX := Lib.hid (h.later hx2)
  clear hx1 hx2 h hcast
  obtain ⟨U, hU⟩ : ∃ U, LX.untilN 47 (s.drop (a + 1)) = U := ⟨_, rfl⟩
  rw [hU] at HE HUN
  have HU := Lib.hid hU
  clear hU
  cases U with
  | none =>
    simp only at HE HUN
    have HO := Lib.hid HE.out
    generalize hS : (⟨s.toArray⟩ : ByteArray) = S at *
    go_enter Tryz.func95, Tryz.ntmps95
    go_wp2_with fail
    refine (HUN.out _ HLX.out).mono ?_
    rintro e w1 ⟨rfl, rfl⟩
    go_wp2_with fail
    refine bodyPost_ret (v := .tuple #[.agg #[.int .i64 4, .string ⟨#[]⟩, .pointer none, .int .i64 (a : Nat)], .int .i64 2]) (by simp [results, Tryz.results95, go_sem]) rfl ?_
    rw [HO.out]
    exact ⟨.pointer none, rfl, rfl, (HL.out.put' s.length _ rfl).later (ext_alloc (re_alloc _ _) _), ((Far.refl p w).set 1 _).trans (Far.below (ext_alloc (re_alloc _ _) _))⟩
  | some k =>
    simp only at HE HUN
    have hk := HLTK.out k HU.out
    rw [List.length_drop] at hk
    have hE : ((a + 1 + k : Nat) : Int) = (a : Int) + 1 + (k : Int) := by omega
    have hrd := Read_any ((s.drop (a + 1)).take k) (by rw [List.length_take, List.length_drop]; omega)
    have hsl := fun W => strBetweenAt s (a + 1) (a + 1 + k) (by omega) (by omega) ((a : Int) + 1) ((a : Int) + 1 + (k : Int)) (by omega) (by omega) W
    have hsl2 := fun W => strBetween s (a + 1) (a + 1 + k) (by omega) (by omega) ((a : Int) + 1) ((a : Int) + 1 + (k : Int)) (by omega) (by omega) W
    rw [show a + 1 + k - (a + 1) = k by omega] at hsl hsl2
    have hout := readW_out ((s.drop (a + 1)).take k)
    have hlen : ((s.drop (a + 1)).take k).length ≤ 65536 := by rw [List.length_take, List.length_drop]; omega
    generalize (s.drop (a + 1)).take k = T at *
    rw [hE] at HUN
    have h0 : ¬ ((a : Int) + 1 + (k : Int) < 0) := by omega
    have hle : (a : Int) + 1 + (k : Int) ≤ 65536 := by omega
    have HRD := Lib.hid hrd
    have hTs : (⟨T.toArray⟩ : ByteArray).size = T.length := str_size T
    clear hrd
    rcases hout with ⟨r, hr⟩ | ⟨e, q, hr, he, hq⟩
    · rw [hr] at HRD HE
      have HO : Hid (OUT = (⟨4, [], some r, a⟩, 0, a + k + 2)) := by show _ = _; rw [HE.out]; simp
      generalize hS : (⟨s.toArray⟩ : ByteArray) = S at *
      generalize hT : (⟨T.toArray⟩ : ByteArray) = TT at *
      clear HE hr hT
      go_enter Tryz.func95, Tryz.ntmps95
      go_wp2_with fail
      refine (HUN.out _ HLX.out).mono ?_
      rintro e w1 ⟨rfl, rfl⟩
      go_wp2_with fail
      refine (HRD.out _).mono ?_
      rintro e w2 ⟨v, rfl, hre, hb⟩
      have HRE := Lib.hid hre
      have HBR := Lib.hid hb
      obtain ⟨vb, rfl, _⟩ := hre
      have hh2 := heap_in (heap_in (heap_alloc_last w (.cells #[.int .i64 0, .string ⟨#[]⟩, .pointer none, .int .i64 0] 40)) (re_alloc _ (.cells #[.int .i64 4, .string ⟨#[]⟩, .pointer none, .int .i64 (a : Nat)] 40))) hb
      have hh4 := heap_in (heap_alloc_last (w.alloc (.cells #[.int .i64 0, .string ⟨#[]⟩, .pointer none, .int .i64 0] 40)) (.cells #[.int .i64 4, .string ⟨#[]⟩, .pointer none, .int .i64 (a : Nat)] 40)) hb
      have e1 : (w.alloc (.cells #[.int .i64 0, .string ⟨#[]⟩, .pointer none, .int .i64 0] 40)).heap.size = w.heap.size + 1 := by simp
      rw [e1] at hh4
      have HH2 := Lib.hid hh2
      have HH4 := Lib.hid hh4
      have HL2 := Lib.hid (HLX.out.later hb)
      have HB2 := Lib.hid (ext_step HX2.out hb)
      obtain ⟨d0, d1⟩ := HL2.out.cells
      have g1 := HL2.out.frz 1
      have k0 : w2.cell? ⟨w.heap.size + 1, 0, none⟩ = some (.int .i64 4) := by rw [cell_of_row _ _ _ _ _ _ hh4]; rfl
      have k1 : w2.cell? ⟨w.heap.size + 1, 1, none⟩ = some (.string ⟨#[]⟩) := by rw [cell_of_row _ _ _ _ _ _ hh4]; rfl
      have k2 : w2.cell? ⟨w.heap.size + 1, 2, none⟩ = some (.pointer none) := by rw [cell_of_row _ _ _ _ _ _ hh4]; rfl
      have k3 : w2.cell? ⟨w.heap.size + 1, 3, none⟩ = some (.int .i64 (a : Nat)) := by rw [cell_of_row _ _ _ _ _ _ hh4]; rfl
      have kf : ∀ j, w2.frozen? ⟨w.heap.size + 1, j, none⟩ = false := fun j => frozen_of_row _ _ j _ _ hh4
      have q0 : w2.cell? ⟨w.heap.size, 0, none⟩ = some (.int .i64 0) := by rw [cell_of_row _ _ _ _ _ _ hh2]; rfl
      have q1 : w2.cell? ⟨w.heap.size, 1, none⟩ = some (.string ⟨#[]⟩) := by rw [cell_of_row _ _ _ _ _ _ hh2]; rfl
      have q2 : w2.cell? ⟨w.heap.size, 2, none⟩ = some (.pointer none) := by rw [cell_of_row _ _ _ _ _ _ hh2]; rfl
      have q3 : w2.cell? ⟨w.heap.size, 3, none⟩ = some (.int .i64 0) := by rw [cell_of_row _ _ _ _ _ _ hh2]; rfl
      have qf : ∀ j, w2.frozen? ⟨w.heap.size, j, none⟩ = false := fun j => frozen_of_row _ _ j _ _ hh2
      have hne1 : p ≠ w.heap.size := by omega
      have hne2 : p ≠ w.heap.size + 1 := by omega
      clear hb hh2 hh4 e1 c0 c1 f1
      have HTK : Hid (TkW w p s a (ptr vb) (some r) w2) := ((TkW.first HL.out _ _).later HBR.out).with HRE.out
      go_wp2_with fail
      refine bodyPost_ret (v := .tuple #[.agg #[.int .i64 4, .string ⟨#[]⟩, ptr vb, .int .i64 (a : Nat)], .int .i64 0]) (by simp [results, Tryz.results95, go_sem, q0, q1, q2, q3, k0, k1, k2, k3, d1, hne1, hne2, Ne.symm hne1, Ne.symm hne2]) rfl ?_
      rw [HO.out]
      have hfin := (((((HTK.out.tok1 2 (ptr vb)).pos (a + k + 2) ((a : Int) + 1 + (k : Int) + 1) (by omega)).tok0 0 (.int .i64 4)).tok0 1 (.string ⟨#[]⟩)).tok0 2 (ptr vb)).tok0 3 (.int .i64 (a : Nat))
      exact ⟨ptr vb, rfl, hfin.re, hfin.lx, hfin.far⟩
    · rw [hr] at HRD HE
      have HO : Hid (OUT = (⟨4, [], none, a⟩, e, a + 1 + q)) := by show _ = _; rw [HE.out]; simp only; rw [if_neg (by omega)]
      have he0 : (((e : Nat) : Int) != 0) = true := by simp; omega
      have hq1 : q ≤ 65536 := by omega
      generalize hS : (⟨s.toArray⟩ : ByteArray) = S at *
      generalize hT : (⟨T.toArray⟩ : ByteArray) = TT at *
      clear HE hr hT
      go_enter Tryz.func95, Tryz.ntmps95
      go_wp2_with fail
      refine (HUN.out _ HLX.out).mono ?_
      rintro e w1 ⟨rfl, rfl⟩
      go_wp2_with fail
      refine (HRD.out _).mono ?_
      rintro e' w2 ⟨v, rfl, hre, hb⟩
      obtain rfl : v = .pointer none := hre
      have HBR := Lib.hid hb
      have hh2 := heap_in (heap_in (heap_alloc_last w (.cells #[.int .i64 0, .string ⟨#[]⟩, .pointer none, .int .i64 0] 40)) (re_alloc _ (.cells #[.int .i64 4, .string ⟨#[]⟩, .pointer none, .int .i64 (a : Nat)] 40))) hb
      have hh4 := heap_in (heap_alloc_last (w.alloc (.cells #[.int .i64 0, .string ⟨#[]⟩, .pointer none, .int .i64 0] 40)) (.cells #[.int .i64 4, .string ⟨#[]⟩, .pointer none, .int .i64 (a : Nat)] 40)) hb
      have e1 : (w.alloc (.cells #[.int .i64 0, .string ⟨#[]⟩, .pointer none, .int .i64 0] 40)).heap.size = w.heap.size + 1 := by simp
      rw [e1] at hh4
      have HH2 := Lib.hid hh2
      have HH4 := Lib.hid hh4
      have HL2 := Lib.hid (HLX.out.later hb)
      have HB2 := Lib.hid (ext_step HX2.out hb)
      obtain ⟨d0, d1⟩ := HL2.out.cells
      have g1 := HL2.out.frz 1
      have k0 : w2.cell? ⟨w.heap.size + 1, 0, none⟩ = some (.int .i64 4) := by rw [cell_of_row _ _ _ _ _ _ hh4]; rfl
      have k1 : w2.cell? ⟨w.heap.size + 1, 1, none⟩ = some (.string ⟨#[]⟩) := by rw [cell_of_row _ _ _ _ _ _ hh4]; rfl
      have k2 : w2.cell? ⟨w.heap.size + 1, 2, none⟩ = some (.pointer none) := by rw [cell_of_row _ _ _ _ _ _ hh4]; rfl
      have k3 : w2.cell? ⟨w.heap.size + 1, 3, none⟩ = some (.int .i64 (a : Nat)) := by rw [cell_of_row _ _ _ _ _ _ hh4]; rfl
      have kf : ∀ j, w2.frozen? ⟨w.heap.size + 1, j, none⟩ = false := fun j => frozen_of_row _ _ j _ _ hh4
      have q0 : w2.cell? ⟨w.heap.size, 0, none⟩ = some (.int .i64 0) := by rw [cell_of_row _ _ _ _ _ _ hh2]; rfl
      have q1 : w2.cell? ⟨w.heap.size, 1, none⟩ = some (.string ⟨#[]⟩) := by rw [cell_of_row _ _ _ _ _ _ hh2]; rfl
      have q2 : w2.cell? ⟨w.heap.size, 2, none⟩ = some (.pointer none) := by rw [cell_of_row _ _ _ _ _ _ hh2]; rfl
      have q3 : w2.cell? ⟨w.heap.size, 3, none⟩ = some (.int .i64 0) := by rw [cell_of_row _ _ _ _ _ _ hh2]; rfl
      have qf : ∀ j, w2.frozen? ⟨w.heap.size, j, none⟩ = false := fun j => frozen_of_row _ _ j _ _ hh2
      have hne1 : p ≠ w.heap.size := by omega
      have hne2 : p ≠ w.heap.size + 1 := by omega
      clear hb hh2 hh4 e1 c0 c1 f1
      have HTK : Hid (TkW w p s a (.pointer none) none w2) := (TkW.first HL.out _ _).later HBR.out
      go_wp2_with fail
      refine bodyPost_ret (v := .tuple #[.agg #[.int .i64 4, .string ⟨#[]⟩, .pointer none, .int .i64 (a : Nat)], .int .i64 (e : Nat)]) (by simp [results, Tryz.results95, go_sem, q0, q1, q2, q3, k0, k1, k2, k3, d1, hne1, hne2, Ne.symm hne1, Ne.symm hne2]) rfl ?_
      rw [HO.out]
      have hfin := ((((HTK.out.pos (a + 1 + q) ((a : Int) + 1 + (q : Int)) (by omega)).tok0 0 (.int .i64 4)).tok0 1 (.string ⟨#[]⟩)).tok0 2 (.pointer none)).tok0 3 (.int .i64 (a : Nat))
      exact ⟨.pointer none, rfl, rfl, hfin.lx, hfin.far⟩
end Go.Proofs.YticpjjmacmmpjaaGreatDoor
