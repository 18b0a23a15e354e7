/-
  LexReads, walked through the program. Terms made, walked through the program: 'Of'; how closely a term's parts hold together; an op's word. Terms as trees, each node with the block that it lies in: how they lie in memory, how they are written, and what else is asked of them. The parser, plain: what it makes of tokens, or the error by which it gives up. Terms: their blocks, and what leaves them as they are.
-/
import Derived.WalkMore
import Derived.Deep.LoopGhost
import Derived.Deep.RegionHeld3
import Derived.Deep.DeepCutAuto
import Derived.Test.YtgamknphlmcgnaaGreatDoorZlA
import Derived.Test.YtgamknphlmcgnaaGreatDoorZlB
import Derived.Test.YtgamknphlmcgnaaGreatDoorZlC
import Derived.Test.YtgamknphlmcgnaaGreatDoorZlD
import Derived.Test.YtgamknphlmcgnaaGreatDoorZlE
import Derived.Test.YtgamknphlmcgnaaGreatDoorZlF
import Derived.Test.YtgamknphlmcgnaaGreatDoorZlG
import Derived.Test.YtgamknphlmcgnaaGreatDoorZlH
section
set_option linter.unusedSimpArgs false
set_option linter.unusedVariables false
set_option maxRecDepth 100000
set_option linter.unnecessarySimpa false
namespace Go.Proofs.YtgamknphlmcgnaaGreatDoor
open Go.RowKit
theorem skip_drop (s : List UInt8) (j : Nat) (h : j < s.length) : s.drop j = s.getD j 0 :: s.drop (j + 1) := by
  rw [List.drop_eq_getElem_cons h]; congr 1; simp [List.getD, h]
theorem skip_ws (s : List UInt8) (j : Nat) (h : j < s.length) (hc : s.getD j 0 = 32 ∨ s.getD j 0 = 9 ∨ s.getD j 0 = 10 ∨ s.getD j 0 = 13) : j + LX.skipS false (s.drop j) = (j + 1) + LX.skipS false (s.drop (j + 1)) := by
  rw [skip_drop s j h, LX.skipS, if_pos hc]; omega
theorem skip_rem (s : List UInt8) (j : Nat) (h : j < s.length) (hc : ¬ (s.getD j 0 = 32 ∨ s.getD j 0 = 9 ∨ s.getD j 0 = 10 ∨ s.getD j 0 = 13)) (h35 : s.getD j 0 = 35) : j + LX.skipS false (s.drop j) = j + LX.skipS true (s.drop j) := by
  have e1 : LX.skipS false (s.getD j 0 :: s.drop (j + 1)) = LX.skipS true (s.drop (j + 1)) + 1 := by rw [LX.skipS, if_neg hc, if_pos h35]
  have e2 : LX.skipS true (s.getD j 0 :: s.drop (j + 1)) = LX.skipS true (s.drop (j + 1)) + 1 := by rw [LX.skipS, if_neg (by rw [h35]; decide)]
  rw [skip_drop s j h, e1, e2]
theorem skip_stop (s : List UInt8) (j : Nat) (h : j < s.length) (hc : ¬ (s.getD j 0 = 32 ∨ s.getD j 0 = 9 ∨ s.getD j 0 = 10 ∨ s.getD j 0 = 13)) (h35 : s.getD j 0 ≠ 35) : j + LX.skipS false (s.drop j) = j := by
  rw [skip_drop s j h, LX.skipS, if_neg hc, if_neg h35]; rfl
theorem skip_end (s : List UInt8) (j : Nat) (h : s.length ≤ j) (c : Bool) : j + LX.skipS c (s.drop j) = j := by
  rw [List.drop_eq_nil_of_le h]; cases c <;> simp [LX.skipS]
theorem rem_in (s : List UInt8) (j : Nat) (h : j < s.length) (hc : s.getD j 0 ≠ 10) : j + LX.skipS true (s.drop j) = (j + 1) + LX.skipS true (s.drop (j + 1)) := by
  rw [skip_drop s j h, LX.skipS, if_neg hc]; omega
theorem rem_out (s : List UInt8) (j : Nat) (h : j < s.length) (hc : s.getD j 0 = 10) : j + LX.skipS true (s.drop j) = j + LX.skipS false (s.drop j) := by
  have e1 : LX.skipS true (s.getD j 0 :: s.drop (j + 1)) = LX.skipS false (s.drop (j + 1)) + 1 := by rw [LX.skipS, if_pos hc]
  have e2 : LX.skipS false (s.getD j 0 :: s.drop (j + 1)) = LX.skipS false (s.drop (j + 1)) + 1 := by rw [LX.skipS, if_pos (.inr (.inr (.inl hc)))]
  rw [skip_drop s j h, e1, e2]
theorem token_at (s : List UInt8) (j : Nat) (h : j < s.length) : LX.token s j =
    if LX.letter (s.getD j 0) true then
      if 30 < LX.nameN (s.drop j) then (⟨1, (s.drop j).take (LX.nameN (s.drop j)), none, j⟩, 3, j) else (⟨1, (s.drop j).take (LX.nameN (s.drop j)), none, j⟩, 0, j + LX.nameN (s.drop j))
    else if LX.signs.contains (s.getD j 0) then (⟨2, [s.getD j 0], none, j⟩, 0, j + 1)
    else if s.getD j 0 = 34 then LX.quoted s j (s.drop (j + 1))
    else if s.getD j 0 = 47 then LX.expr s j (s.drop (j + 1))
    else (⟨0, [], none, j⟩, 2, j) := by
  unfold LX.token
  rw [skip_drop s j h]
theorem name_in (s : List UInt8) (i : Nat) (h : i < s.length) (hc : LX.letter (s.getD i 0) false = true) : i + LX.nameN (s.drop i) = (i + 1) + LX.nameN (s.drop (i + 1)) := by
  rw [skip_drop s i h, LX.nameN, if_pos hc]; omega
theorem name_stop (s : List UInt8) (i : Nat) (h : i < s.length) (hc : LX.letter (s.getD i 0) false = false) : i + LX.nameN (s.drop i) = i := by
  rw [skip_drop s i h, LX.nameN, if_neg (by rw [hc]; decide)]; rfl
theorem name_end (s : List UInt8) (i : Nat) (h : s.length ≤ i) : i + LX.nameN (s.drop i) = i := by
  rw [List.drop_eq_nil_of_le h]; rfl
/-- a gap, or a remark, is being passed -/
def GapAt (b : Bool) (w : World) (p : Nat) (s : List UInt8) (R g : Nat) (wr : World) : Prop :=
  ∃ j : Nat, j + g = s.length ∧ LxAt wr p s j ∧ Hid (j + LX.skipS b (s.drop j) = R) ∧ Far p w wr ∧ wr.heap.size = w.heap.size
/-- .. a remark, from a place on -/
def RemAt (w : World) (p : Nat) (s : List UInt8) (R lo g : Nat) (wr : World) : Prop :=
  ∃ j : Nat, lo ≤ j ∧ j + g = s.length ∧ LxAt wr p s j ∧ Hid (j + LX.skipS true (s.drop j) = R) ∧ Far p w wr ∧ wr.heap.size = w.heap.size
theorem u8_ne (c d : UInt8) (x : Int) (hx : x = ((d.toNat : Nat) : Int)) (h : c ≠ d) : (((c.toNat : Nat) : Int) == x) = false := by
  subst hx
  rw [beq_eq_false_iff_ne]; exact fun e => h (UInt8.toNat_inj.1 (by omega))
/-- the same, the second token in whatever block -/
structure TkN (w : World) (c1 : Nat) (p : Nat) (s : List UInt8) (a : Nat) (rv : Value) (ro : Option RE) (W : World) : Prop where
  pl : p < w.heap.size
  lx : LxAt W p s a
  far : Far p w W
  t0 : ∃ cs, W.heap[w.heap.size]? = some (.cells cs 47 (0, 0))
  hc1 : w.heap.size < c1
  t1 : ∃ cs, W.heap[c1]? = some (.cells cs 47 (0, 0))
  re : IsReO W rv ro
section
variable {w W W' : World} {c1 p a : Nat} {s : List UInt8} {rv : Value} {ro : Option RE}
theorem TkN.later (h : TkN w c1 p s a rv ro W) (hb : Below W.heap.size W W') : TkN w c1 p s a rv ro W' :=
  ⟨h.pl, h.lx.later hb, h.far.trans (Far.below hb), by obtain ⟨cs, hc⟩ := h.t0; exact ⟨cs, heap_in hc hb⟩, h.hc1, by obtain ⟨cs, hc⟩ := h.t1; exact ⟨cs, heap_in hc hb⟩, h.re.later hb⟩
theorem TkN.tok0 (h : TkN w c1 p s a rv ro W) (j : Nat) (v : Value) : TkN w c1 p s a rv ro (W.setCell ⟨w.heap.size, j, none⟩ v) := by
  obtain ⟨cs, hc⟩ := h.t0
  obtain ⟨ds, hd⟩ := h.t1
  have hp := h.pl
  have hc1 := h.hc1
  exact ⟨hp, (Below.heap_setCell _ _ _ _ (by show p ≠ w.heap.size; omega)).trans h.lx, h.far.setNew (Nat.le_refl _) j v, ⟨_, heap_setCell_same _ _ _ _ _ _ hc⟩, hc1, ⟨ds, (Below.heap_setCell _ _ _ _ (by show c1 ≠ w.heap.size; omega)).trans hd⟩, reO_putT hc h.re⟩
theorem TkN.tok1 (h : TkN w c1 p s a rv ro W) (j : Nat) (v : Value) : TkN w c1 p s a rv ro (W.setCell ⟨c1, j, none⟩ v) := by
  obtain ⟨cs, hc⟩ := h.t0
  obtain ⟨ds, hd⟩ := h.t1
  have hp := h.pl
  have hc1 := h.hc1
  exact ⟨hp, (Below.heap_setCell _ _ _ _ (by show p ≠ c1; omega)).trans h.lx, h.far.setNew (Nat.le_of_lt hc1) j v, ⟨cs, (Below.heap_setCell _ _ _ _ (by show w.heap.size ≠ c1; omega)).trans hc⟩, hc1, ⟨_, heap_setCell_same _ _ _ _ _ _ hd⟩, reO_putT hd h.re⟩
theorem TkN.pos (h : TkN w c1 p s a rv ro W) (b : Nat) (v : Int) (hv : v = (b : Nat)) : TkN w c1 p s b rv ro (W.setCell ⟨p, 1, none⟩ (.int .i64 v)) := by
  obtain ⟨cs, hc⟩ := h.t0
  obtain ⟨ds, hd⟩ := h.t1
  have hp := h.pl
  have hc1 := h.hc1
  exact ⟨hp, h.lx.put' b v hv, h.far.set 1 _, ⟨cs, (Below.heap_setCell _ _ _ _ (by show w.heap.size ≠ p; omega)).trans hc⟩, hc1, ⟨ds, (Below.heap_setCell _ _ _ _ (by show c1 ≠ p; omega)).trans hd⟩, h.re.farL h.lx ((Far.refl p W).set 1 _)⟩
end
theorem TkN.first {w wx : World} {p a : Nat} {s : List UInt8} (hpl : p < w.heap.size) (hl : LxAt wx p s a) (hf : Far p w wx) (h0 : ∃ cs, wx.heap[w.heap.size]? = some (.cells cs 47 (0, 0))) (hs : w.heap.size < wx.heap.size) (ds : Array Value) : TkN w wx.heap.size p s a (.pointer none) none (wx.alloc (.cells ds 47)) := by
  obtain ⟨cs, hc⟩ := h0
  exact ⟨hpl, hl.later (re_alloc wx _), hf.trans (Far.below (re_alloc wx _)), ⟨cs, heap_in hc (re_alloc wx _)⟩, hs, ⟨ds, heap_alloc_last wx _⟩, rfl⟩
theorem TkN.post {w W : World} {c1 p a : Nat} {s : List UInt8} {rv : Value} {t : LT} {e : Nat} (h : TkN w c1 p s a rv t.re W) : TokPost p s w (t, e, a) (.returned (.tuple #[tkV t rv, .int .i64 (e : Nat)])) W := ⟨rv, rfl, h.re, h.lx, h.far⟩
theorem TkN.after {w W W' : World} {c1 p a b : Nat} {s : List UInt8} {rv rv' : Value} {ro ro' : Option RE} (h : TkN w c1 p s a rv ro W) (hl : LxAt W' p s b) (hf : Far p W W') (hr : IsReO W' rv' ro') : TkN w c1 p s b rv' ro' W' := by
  obtain ⟨cs, hc⟩ := h.t0
  obtain ⟨ds, hd⟩ := h.t1
  have hp := h.pl
  have hc1 := h.hc1
  exact ⟨hp, hl, h.far.trans hf, ⟨cs, (hf.block _ (Array.getElem?_eq_some_iff.1 hc).1 (fun e => by have := Option.some.inj e; omega)).trans hc⟩, hc1, ⟨ds, (hf.block _ (Array.getElem?_eq_some_iff.1 hd).1 (fun e => by have := Option.some.inj e; omega)).trans hd⟩, hr⟩
theorem sign_str (c : UInt8) (h : LX.signs.contains c = true) : Utf8.encode (wrap32 ((c.toNat : Nat) : Int)) = ⟨[c].toArray⟩ := by
  have hm := List.contains_iff_mem.1 h
  simp only [LX.signs, List.mem_cons, List.not_mem_nil, or_false] at hm
  rcases hm with rfl | rfl | rfl | rfl | rfl | rfl | rfl | rfl <;> decide +kernel
theorem reO_ptr {W : World} {v : Value} {ro : Option RE} (h : IsReO W v ro) : ∃ po, v = .pointer po := by
  cases ro with
  | none => exact ⟨none, h⟩
  | some r => obtain ⟨vb, rfl, _⟩ := h; exact ⟨_, rfl⟩
/-- a name is being passed -/
def NameAt (w : World) (c1 p : Nat) (s : List UInt8) (j E g : Nat) (wr : World) : Prop :=
  ∃ i : Nat, j ≤ i ∧ i + g = s.length ∧ Hid (TkN w c1 p s i (.pointer none) none wr) ∧ Hid (i + LX.nameN (s.drop i) = E) ∧ Hid (wr.heap[w.heap.size]? = some (.cells #[.int .i64 0, .string ⟨#[]⟩, .pointer none, .int .i64 0] 47 (0, 0))) ∧ Hid (wr.heap[c1]? = some (.cells #[.int .i64 0, .string ⟨#[]⟩, .pointer none, .int .i64 (j : Nat)] 47 (0, 0)))
set_option maxRecDepth 100000 in
set_option maxHeartbeats 1600000 in
theorem lxNext_any (w : World) (p a : Nat) (s : List UInt8) (ha : a ≤ s.length) (hs : s.length ≤ 65536) (h : LxAt w p s a) (hT : Tab w) :
    Calls Tryz.prog 70 #[ptr p] w (TokPost p s w (LX.next s a)) := by
  have hpl := h.lt
  have hsz : (⟨s.toArray⟩ : ByteArray).size = s.length := str_size s
  have HT := Lib.hid hT
  have HL0 := Lib.hid h
  have hx1 := re_alloc w (.cells #[.int .i64 0, .string ⟨#[]⟩, .pointer none, .int .i64 0] 47)
  have h0 := heap_alloc_last w (.cells #[.int .i64 0, .string ⟨#[]⟩, .pointer none, .int .i64 0] 47)
  have hw0s : (w.alloc (.cells #[.int .i64 0, .string ⟨#[]⟩, .pointer none, .int .i64 0] 47)).heap.size = w.heap.size + 1 := by simp
  obtain ⟨w0, hw0⟩ : ∃ w0, w0 = w.alloc (.cells #[.int .i64 0, .string ⟨#[]⟩, .pointer none, .int .i64 0] 47) := ⟨_, rfl⟩
  rw [← hw0] at hx1 h0 hw0s
  have HX1 := Lib.hid hx1
  have HZ := Lib.hid h0
  have HW0 := Lib.hid hw0s
  have hgap : GapAt false w0 p s (a + LX.skipS false (s.drop a)) (s.length - a) w0 := ⟨a, by omega, h.later hx1, rfl, Far.refl _ _, rfl⟩
  have HGAP := Lib.hid hgap
  have HOUT : Hid (LX.next s a = LX.token s (a + LX.skipS false (s.drop a))) := rfl
  rw [HOUT.out]
  have hRle : a + LX.skipS false (s.drop a) ≤ s.length := by have := LX.skipS_le (s.drop a) false; rw [List.length_drop] at this; omega
  generalize a + LX.skipS false (s.drop a) = R at *
  obtain ⟨OUT, hO⟩ : ∃ OUT, LX.token s R = OUT := ⟨_, rfl⟩
  have HOT := Lib.hid hO
  rw [hO]
  clear h hT hx1 hgap HOUT h0 hw0s hO
  go_enter Tryz.func70, Tryz.ntmps70
  go_wp2_with fail
  rw [← hw0]
  clear hw0
  go_step3
  go_wp2_with fail
  go_step3
  go_wp2_with fail
  go_loopg [] (s.length - a) (fun g wr => GapAt false w0 p s R g wr)
  case atStart => exact HGAP.out
  case round =>
    clear HGAP
    obtain ⟨j, hj, hlx, hgo, hfar, hws⟩ := hrel
    obtain ⟨c0, c1⟩ := hlx.cells
    have f1 := hlx.frz 1
    have HLXwr := Lib.hid hlx
    have HFARwr := Lib.hid hfar
    have HWSwr := Lib.hid hws
    clear hlx hfar hws
    cases gk with
    | zero =>
      have hjl : j = s.length := by omega
      have HR : Hid (R = s.length) := by show _ = _; rw [← hgo.out, skip_end s j (by omega) false, hjl]
      have h1 : ¬ (j : Int) < (s.length : Nat) := by omega
      have h2 : ((j : Int) == ((s.length : Nat) : Int)) = true := by rw [hjl]; simp
      have HO : Hid (OUT = (⟨0, [], none, s.length⟩, 0, s.length)) := by
        show _ = _
        rw [← HOT.out]
        unfold LX.token
        rw [List.drop_eq_nil_of_le (by have := HR.out; omega), HR.out]
      subst hjl
      generalize hS : (⟨s.toArray⟩ : ByteArray) = S at *
      have HS := Lib.hid hS
      clear hS
      go_wp2_with fail
      go_quiet (fail)
      have HLXwx := Lib.hid (HLXwr.out.drew nq)
      have HFARwx := Lib.hid (HFARwr.out.drew nq)
      have HWSwx : Hid ((wr.drewN nq).heap.size = w0.heap.size) := by show _ = _; rw [← HWSwr.out]; simp
      clear c0 c1 f1
      generalize wr.drewN nq = wx at *
      obtain ⟨c0, c1⟩ := HLXwx.out.cells
      rw [HS.out] at c0
      have f1 := HLXwx.out.frz 1
      have hz0 := (HFARwx.out.block _ (by have := HW0.out; omega) (fun e => by have := Option.some.inj e; omega)).trans HZ.out
      have hwx : w.heap.size < wx.heap.size := by have h1 := HWSwx.out; have h2 := HW0.out; omega
      have hpn : p ≠ wx.heap.size := by omega
      have hpw : p ≠ w.heap.size := by omega
      have hwn : w.heap.size ≠ wx.heap.size := by omega
      have htn : TkN w wx.heap.size p s s.length (.pointer none) none (wx.alloc (.cells #[.int .i64 0, .string ⟨#[]⟩, .pointer none, .int .i64 (s.length : Nat)] 47)) := TkN.first hpl HLXwx.out ((Far.below HX1.out).trans HFARwx.out) ⟨_, hz0⟩ hwx _
      have hz0' := heap_in hz0 (re_alloc wx (.cells #[.int .i64 0, .string ⟨#[]⟩, .pointer none, .int .i64 (s.length : Nat)] 47))
      have hz1' := heap_alloc_last wx (.cells #[.int .i64 0, .string ⟨#[]⟩, .pointer none, .int .i64 (s.length : Nat)] 47)
      have HTNwy := Lib.hid htn
      have H0wy := Lib.hid hz0'
      have H1wy := Lib.hid hz1'
      clear hz0 htn hz0' hz1'
      go_wp2_with fail
      generalize wx.alloc (.cells #[.int .i64 0, .string ⟨#[]⟩, .pointer none, .int .i64 (s.length : Nat)] 47) = wy at *
      generalize wx.heap.size = b1 at *
      clear c0 c1 f1
      obtain ⟨c0, c1⟩ := HTNwy.out.lx.cells
      rw [HS.out] at c0
      have f1 := HTNwy.out.lx.frz 1
      have q0 : wy.cell? ⟨w.heap.size, 0, none⟩ = some (.int .i64 0) := by rw [cell_of_row _ _ _ _ _ _ H0wy.out]; rfl
      have q1 : wy.cell? ⟨w.heap.size, 1, none⟩ = some (.string ⟨#[]⟩) := by rw [cell_of_row _ _ _ _ _ _ H0wy.out]; rfl
      have q2 : wy.cell? ⟨w.heap.size, 2, none⟩ = some (.pointer none) := by rw [cell_of_row _ _ _ _ _ _ H0wy.out]; rfl
      have q3 : wy.cell? ⟨w.heap.size, 3, none⟩ = some (.int .i64 0) := by rw [cell_of_row _ _ _ _ _ _ H0wy.out]; rfl
      have qf : ∀ j, wy.frozen? ⟨w.heap.size, j, none⟩ = false := fun j => frozen_of_row _ _ j _ _ H0wy.out
      have k0 : wy.cell? ⟨b1, 0, none⟩ = some (.int .i64 0) := by rw [cell_of_row _ _ _ _ _ _ H1wy.out]; rfl
      have k1 : wy.cell? ⟨b1, 1, none⟩ = some (.string ⟨#[]⟩) := by rw [cell_of_row _ _ _ _ _ _ H1wy.out]; rfl
      have k2 : wy.cell? ⟨b1, 2, none⟩ = some (.pointer none) := by rw [cell_of_row _ _ _ _ _ _ H1wy.out]; rfl
      have k3 : wy.cell? ⟨b1, 3, none⟩ = some (.int .i64 (s.length : Nat)) := by rw [cell_of_row _ _ _ _ _ _ H1wy.out]; rfl
      have kf : ∀ j, wy.frozen? ⟨b1, j, none⟩ = false := fun j => frozen_of_row _ _ j _ _ H1wy.out
      go_quiet (fail)
      have HTNwz := Lib.hid (HTNwy.out.later (ext_drewN (Below.refl _ _) nq))
      have H0wz := Lib.hid (heap_in H0wy.out (ext_drewN (Below.refl _ _) nq))
      have H1wz := Lib.hid (heap_in H1wy.out (ext_drewN (Below.refl _ _) nq))
      clear c0 c1 f1 q0 q1 q2 q3 qf k0 k1 k2 k3 kf
      generalize wy.drewN nq = wz at *
      obtain ⟨c0, c1⟩ := HTNwz.out.lx.cells
      rw [HS.out] at c0
      have f1 := HTNwz.out.lx.frz 1
      have q0 : wz.cell? ⟨w.heap.size, 0, none⟩ = some (.int .i64 0) := by rw [cell_of_row _ _ _ _ _ _ H0wz.out]; rfl
      have q1 : wz.cell? ⟨w.heap.size, 1, none⟩ = some (.string ⟨#[]⟩) := by rw [cell_of_row _ _ _ _ _ _ H0wz.out]; rfl
      have q2 : wz.cell? ⟨w.heap.size, 2, none⟩ = some (.pointer none) := by rw [cell_of_row _ _ _ _ _ _ H0wz.out]; rfl
      have q3 : wz.cell? ⟨w.heap.size, 3, none⟩ = some (.int .i64 0) := by rw [cell_of_row _ _ _ _ _ _ H0wz.out]; rfl
      have qf : ∀ j, wz.frozen? ⟨w.heap.size, j, none⟩ = false := fun j => frozen_of_row _ _ j _ _ H0wz.out
      have k0 : wz.cell? ⟨b1, 0, none⟩ = some (.int .i64 0) := by rw [cell_of_row _ _ _ _ _ _ H1wz.out]; rfl
      have k1 : wz.cell? ⟨b1, 1, none⟩ = some (.string ⟨#[]⟩) := by rw [cell_of_row _ _ _ _ _ _ H1wz.out]; rfl
      have k2 : wz.cell? ⟨b1, 2, none⟩ = some (.pointer none) := by rw [cell_of_row _ _ _ _ _ _ H1wz.out]; rfl
      have k3 : wz.cell? ⟨b1, 3, none⟩ = some (.int .i64 (s.length : Nat)) := by rw [cell_of_row _ _ _ _ _ _ H1wz.out]; rfl
      have kf : ∀ j, wz.frozen? ⟨b1, j, none⟩ = false := fun j => frozen_of_row _ _ j _ _ H1wz.out
      go_wp2_with fail
      try rw [Exit.noGoto_ret]
      refine bodyPost_ret (v := .tuple #[.agg #[.int .i64 0, .string ⟨#[]⟩, .pointer none, .int .i64 (s.length : Nat)], .int .i64 0]) (by simp [results, Tryz.results70, go_sem, q0, q1, q2, q3, hwn, Ne.symm hwn]) rfl ?_
      rw [HO.out]
      exact (((((HTNwz.out).tok0 0 (.int .i64 0)).tok0 1 (.string ⟨#[]⟩)).tok0 2 (.pointer none)).tok0 3 (.int .i64 (s.length : Nat))).post (t := ⟨0, [], none, s.length⟩) (e := 0)
    | succ g =>
      have hjs : j < s.length := by omega
      have h1 : (j : Int) < (s.length : Nat) := by omega
      have h2 : ((j : Int) == ((s.length : Nat) : Int)) = false := by rw [beq_eq_false_iff_ne]; omega
      have hidx := fun W => str_at s j hjs W
      have hjn : j ≤ 65536 := by omega
      by_cases gws : s.getD j 0 = 32 ∨ s.getD j 0 = 9 ∨ s.getD j 0 = 10 ∨ s.getD j 0 = 13
      · have HWSP := Lib.hid (skip_ws s j hjs gws)
        have hn : (s.getD j 0).toNat = 32 ∨ (s.getD j 0).toNat = 9 ∨ (s.getD j 0).toNat = 10 ∨ (s.getD j 0).toNat = 13 := by
          rcases gws with h | h | h | h <;> rw [h] <;> decide
        clear gws
        generalize (s.getD j 0).toNat = n at *
        generalize hS : (⟨s.toArray⟩ : ByteArray) = S at *
        have HS := Lib.hid hS
        clear hS
        rcases hn with rfl | rfl | rfl | rfl
        all_goals
          go_wp2_with fail
          go_quiet (fail)
          have HLXwa := Lib.hid (HLXwr.out.drew nq)
          have HFARwa := Lib.hid (HFARwr.out.drew nq)
          have HWSwa : Hid ((wr.drewN nq).heap.size = w0.heap.size) := by show _ = _; rw [← HWSwr.out]; simp
          clear c0 c1 f1
          generalize wr.drewN nq = wa at *
          obtain ⟨c0, c1⟩ := HLXwa.out.cells
          rw [HS.out] at c0
          have f1 := HLXwa.out.frz 1
          go_wp2_with fail
          go_quiet (fail)
          have HLXwb := Lib.hid (HLXwa.out.drew nq)
          have HFARwb := Lib.hid (HFARwa.out.drew nq)
          have HWSwb : Hid ((wa.drewN nq).heap.size = w0.heap.size) := by show _ = _; rw [← HWSwa.out]; simp
          clear c0 c1 f1
          generalize wa.drewN nq = wb at *
          obtain ⟨c0, c1⟩ := HLXwb.out.cells
          rw [HS.out] at c0
          have f1 := HLXwb.out.frz 1
          go_wp2_with fail
          go_roundg g
          case measure => omega
          case rel => exact ⟨j + 1, by omega, HLXwb.out.put' (j + 1) _ (by omega), by show _ = _; rw [← HWSP.out]; exact hgo.out, HFARwb.out.set 1 _, by simpa using HWSwb.out⟩
      · by_cases g35 : s.getD j 0 = 35
        · have HRM := Lib.hid (skip_rem s j hjs gws g35)
          have hn : (s.getD j 0).toNat = 35 := by rw [g35]; decide
          have H35 := Lib.hid g35
          clear gws g35
          generalize (s.getD j 0).toNat = n at *
          subst hn
          generalize hS : (⟨s.toArray⟩ : ByteArray) = S at *
          have HS := Lib.hid hS
          clear hS
          go_wp2_with fail
          go_quiet (fail)
          have HLXwa := Lib.hid (HLXwr.out.drew nq)
          have HFARwa := Lib.hid (HFARwr.out.drew nq)
          have HWSwa : Hid ((wr.drewN nq).heap.size = w0.heap.size) := by show _ = _; rw [← HWSwr.out]; simp
          clear c0 c1 f1
          generalize wr.drewN nq = wa at *
          obtain ⟨c0, c1⟩ := HLXwa.out.cells
          rw [HS.out] at c0
          have f1 := HLXwa.out.frz 1
          go_wp2_with fail
          go_quiet (fail)
          have HLXwb := Lib.hid (HLXwa.out.drew nq)
          have HFARwb := Lib.hid (HFARwa.out.drew nq)
          have HWSwb : Hid ((wa.drewN nq).heap.size = w0.heap.size) := by show _ = _; rw [← HWSwa.out]; simp
          clear c0 c1 f1
          generalize wa.drewN nq = wb at *
          obtain ⟨c0, c1⟩ := HLXwb.out.cells
          rw [HS.out] at c0
          have f1 := HLXwb.out.frz 1
          go_wp2_with fail
          go_loopg [] (s.length - j) (fun g2 wy => RemAt w0 p s R j g2 wy)
          case atStart => exact ⟨j, Nat.le_refl _, by omega, HLXwb.out, by show _ = _; rw [← HRM.out]; exact hgo.out, HFARwb.out, HWSwb.out⟩
          case round =>
            clear c0 c1 f1 hidx
            obtain ⟨i, hji, hi, hlx, hgi, hfar, hws⟩ := hrel
            obtain ⟨c0, c1⟩ := hlx.cells
            rw [HS.out] at c0
            have f1 := hlx.frz 1
            have HLXwc := Lib.hid hlx
            have HFARwc := Lib.hid hfar
            have HWSwc := Lib.hid hws
            clear hlx hfar hws
            cases gk with
            | zero =>
              have HE := Lib.hid (skip_end s i (by omega) true)
              have HE2 := Lib.hid (skip_end s i (by omega) false)
              have hd : decide ((i : Int) < (s.length : Nat)) = false := decide_eq_false (by omega)
              have hd2 : decide (i < s.length) = false := decide_eq_false (by omega)
              have HI := Lib.hid hi
              clear hi
              go_wp2_with fail
              go_quiet (fail)
              go_wp2_with fail
              go_roundg 0
              case measure => omega
              case rel => exact ⟨i, HI.out, HLXwc.out.drew _, by show _ = _; rw [HE2.out, ← HE.out]; exact hgi.out, HFARwc.out.drew _, by simpa using HWSwc.out⟩
            | succ g2 =>
              have his : i < s.length := by omega
              have hil : (i : Int) < (s.length : Nat) := by omega
              have hd : decide ((i : Int) < (s.length : Nat)) = true := decide_eq_true hil
              have hidx : ∀ W, (Instr.index 9 (.string S) (.int .i64 (i : Int))).run Tryz.prog W = .ok (.int .u8 ((s.getD i 0).toNat : Int)) W := fun W => by rw [← HS.out]; exact str_at s i his W
              have hin : i ≤ 65536 := by omega
              by_cases g10 : s.getD i 0 = 10
              · have HRO := Lib.hid (rem_out s i his g10)
                have hlt2 : j < i := by
                  rcases Nat.lt_or_eq_of_le hji with h | h
                  · exact h
                  · exfalso; subst h; rw [H35.out] at g10; exact absurd g10 (by decide)
                have hn : (s.getD i 0).toNat = 10 := by rw [g10]; decide
                clear g10
                generalize (s.getD i 0).toNat = n at *
                subst hn
                go_wp2_with fail
                go_quiet (fail)
                go_wp2_with fail
                go_roundg (g2 + 1)
                case measure => omega
                case rel => exact ⟨i, by omega, HLXwc.out.drew _, by show _ = _; rw [← HRO.out]; exact hgi.out, HFARwc.out.drew _, by simpa using HWSwc.out⟩
              · have HRI := Lib.hid (rem_in s i his g10)
                have e10 : ((((s.getD i 0).toNat : Nat) : Int) != 10) = true := by
                  rw [bne_iff_ne]; exact fun h => g10 (UInt8.toNat_inj.1 (by show (s.getD i 0).toNat = 10; omega))
                clear g10
                generalize (s.getD i 0).toNat = n at *
                go_wp2_with fail
                go_quiet (fail)
                go_wp2_with fail
                go_roundg g2
                case measure => omega
                case rel => exact ⟨i + 1, by omega, by omega, (HLXwc.out.drew _).put' (i + 1) _ (by omega), by show _ = _; rw [← HRI.out]; exact hgi.out, (HFARwc.out.drew _).set 1 _, by simpa using HWSwc.out⟩
        · have HRJ : Hid (j = R) := by show _ = _; rw [← hgo.out]; exact (skip_stop s j hjs gws g35).symm
          have hjr := HRJ.out
          subst hjr
          have HTA : Hid (OUT = if LX.letter (s.getD j 0) true then
                if 30 < LX.nameN (s.drop j) then (⟨1, (s.drop j).take (LX.nameN (s.drop j)), none, j⟩, 3, j) else (⟨1, (s.drop j).take (LX.nameN (s.drop j)), none, j⟩, 0, j + LX.nameN (s.drop j))
              else if LX.signs.contains (s.getD j 0) then (⟨2, [s.getD j 0], none, j⟩, 0, j + 1)
              else if s.getD j 0 = 34 then LX.quoted s j (s.drop (j + 1))
              else if s.getD j 0 = 47 then LX.expr s j (s.drop (j + 1))
              else (⟨0, [], none, j⟩, 2, j)) := by show _ = _; rw [← HOT.out]; exact token_at s j hjs
          have HSL := Lib.hid (fun (i : Nat) (h1 : j ≤ i) (h2 : i ≤ s.length) W => strBetween s j i h1 h2 (j : Int) (i : Int) rfl rfl W)
          have HIDX := Lib.hid (fun i (h : i < s.length) W => str_at s i h W)
          have HQU := Lib.hid (fun W (h : LxAt W p s j) (hT : Tab W) => lxQuoted_any W p j s hjs hs h hT)
          have HEX := Lib.hid (fun W (h : LxAt W p s j) => lxExpr_any W p j s hjs hs h)
          generalize hS : (⟨s.toArray⟩ : ByteArray) = S at *
          have HS := Lib.hid hS
          clear hS
          have e32 : ((((s.getD j 0).toNat : Nat) : Int) == 32) = false := u8_ne _ 32 _ (by decide) (fun h => gws (.inl h))
          have e9 : ((((s.getD j 0).toNat : Nat) : Int) == 9) = false := u8_ne _ 9 _ (by decide) (fun h => gws (.inr (.inl h)))
          have e10 : ((((s.getD j 0).toNat : Nat) : Int) == 10) = false := u8_ne _ 10 _ (by decide) (fun h => gws (.inr (.inr (.inl h))))
          have e13 : ((((s.getD j 0).toNat : Nat) : Int) == 13) = false := u8_ne _ 13 _ (by decide) (fun h => gws (.inr (.inr (.inr h))))
          have e35 : ((((s.getD j 0).toNat : Nat) : Int) == 35) = false := u8_ne _ 35 _ (by decide) g35
          have HLET := Lib.hid (fun c first W => letter_any c first W)
          have HIX := Lib.hid (fun (c : Int) W => IndexByte_any ⟨#[40, 41, 44, 46, 59, 124, 42, 61]⟩ c W)
          clear gws g35
          generalize hc : s.getD j 0 = c at *
          have HC := Lib.hid hc
          clear hc
          go_wp2_with fail
          go_quiet (fail)
          have HLXwa := Lib.hid (HLXwr.out.drew nq)
          have HFARwa := Lib.hid (HFARwr.out.drew nq)
          have HWSwa : Hid ((wr.drewN nq).heap.size = w0.heap.size) := by show _ = _; rw [← HWSwr.out]; simp
          clear c0 c1 f1
          generalize wr.drewN nq = wa at *
          obtain ⟨c0, c1⟩ := HLXwa.out.cells
          rw [HS.out] at c0
          have f1 := HLXwa.out.frz 1
          go_wp2_with fail
          go_quiet (fail)
          have HLXwb := Lib.hid (HLXwa.out.drew nq)
          have HFARwb := Lib.hid (HFARwa.out.drew nq)
          have HWSwb : Hid ((wa.drewN nq).heap.size = w0.heap.size) := by show _ = _; rw [← HWSwa.out]; simp
          clear c0 c1 f1
          generalize wa.drewN nq = wb at *
          obtain ⟨c0, c1⟩ := HLXwb.out.cells
          rw [HS.out] at c0
          have f1 := HLXwb.out.frz 1
          have hz0 := (HFARwb.out.block _ (by have := HW0.out; omega) (fun e => by have := Option.some.inj e; omega)).trans HZ.out
          have hwx : w.heap.size < wb.heap.size := by have h1 := HWSwb.out; have h2 := HW0.out; omega
          have hpn : p ≠ wb.heap.size := by omega
          have hpw : p ≠ w.heap.size := by omega
          have hwn : w.heap.size ≠ wb.heap.size := by omega
          have htn : TkN w wb.heap.size p s j (.pointer none) none (wb.alloc (.cells #[.int .i64 0, .string ⟨#[]⟩, .pointer none, .int .i64 (j : Nat)] 47)) := TkN.first hpl HLXwb.out ((Far.below HX1.out).trans HFARwb.out) ⟨_, hz0⟩ hwx _
          have hz0' := heap_in hz0 (re_alloc wb (.cells #[.int .i64 0, .string ⟨#[]⟩, .pointer none, .int .i64 (j : Nat)] 47))
          have hz1' := heap_alloc_last wb (.cells #[.int .i64 0, .string ⟨#[]⟩, .pointer none, .int .i64 (j : Nat)] 47)
          have HTNwc := Lib.hid htn
          have H0wc := Lib.hid hz0'
          have H1wc := Lib.hid hz1'
          clear hz0 htn hz0' hz1'
          go_wp2_with fail
          generalize wb.alloc (.cells #[.int .i64 0, .string ⟨#[]⟩, .pointer none, .int .i64 (j : Nat)] 47) = wc at *
          generalize wb.heap.size = b1 at *
          clear c0 c1 f1
          obtain ⟨c0, c1⟩ := HTNwc.out.lx.cells
          rw [HS.out] at c0
          have f1 := HTNwc.out.lx.frz 1
          have q0 : wc.cell? ⟨w.heap.size, 0, none⟩ = some (.int .i64 0) := by rw [cell_of_row _ _ _ _ _ _ H0wc.out]; rfl
          have q1 : wc.cell? ⟨w.heap.size, 1, none⟩ = some (.string ⟨#[]⟩) := by rw [cell_of_row _ _ _ _ _ _ H0wc.out]; rfl
          have q2 : wc.cell? ⟨w.heap.size, 2, none⟩ = some (.pointer none) := by rw [cell_of_row _ _ _ _ _ _ H0wc.out]; rfl
          have q3 : wc.cell? ⟨w.heap.size, 3, none⟩ = some (.int .i64 0) := by rw [cell_of_row _ _ _ _ _ _ H0wc.out]; rfl
          have qf : ∀ j, wc.frozen? ⟨w.heap.size, j, none⟩ = false := fun j => frozen_of_row _ _ j _ _ H0wc.out
          have k0 : wc.cell? ⟨b1, 0, none⟩ = some (.int .i64 0) := by rw [cell_of_row _ _ _ _ _ _ H1wc.out]; rfl
          have k1 : wc.cell? ⟨b1, 1, none⟩ = some (.string ⟨#[]⟩) := by rw [cell_of_row _ _ _ _ _ _ H1wc.out]; rfl
          have k2 : wc.cell? ⟨b1, 2, none⟩ = some (.pointer none) := by rw [cell_of_row _ _ _ _ _ _ H1wc.out]; rfl
          have k3 : wc.cell? ⟨b1, 3, none⟩ = some (.int .i64 (j : Nat)) := by rw [cell_of_row _ _ _ _ _ _ H1wc.out]; rfl
          have kf : ∀ j, wc.frozen? ⟨b1, j, none⟩ = false := fun j => frozen_of_row _ _ j _ _ H1wc.out
          go_quiet (fail)
          have HTNwd := Lib.hid (HTNwc.out.later (ext_drewN (Below.refl _ _) nq))
          have H0wd := Lib.hid (heap_in H0wc.out (ext_drewN (Below.refl _ _) nq))
          have H1wd := Lib.hid (heap_in H1wc.out (ext_drewN (Below.refl _ _) nq))
          clear c0 c1 f1 q0 q1 q2 q3 qf k0 k1 k2 k3 kf
          generalize wc.drewN nq = wd at *
          obtain ⟨c0, c1⟩ := HTNwd.out.lx.cells
          rw [HS.out] at c0
          have f1 := HTNwd.out.lx.frz 1
          have q0 : wd.cell? ⟨w.heap.size, 0, none⟩ = some (.int .i64 0) := by rw [cell_of_row _ _ _ _ _ _ H0wd.out]; rfl
          have q1 : wd.cell? ⟨w.heap.size, 1, none⟩ = some (.string ⟨#[]⟩) := by rw [cell_of_row _ _ _ _ _ _ H0wd.out]; rfl
          have q2 : wd.cell? ⟨w.heap.size, 2, none⟩ = some (.pointer none) := by rw [cell_of_row _ _ _ _ _ _ H0wd.out]; rfl
          have q3 : wd.cell? ⟨w.heap.size, 3, none⟩ = some (.int .i64 0) := by rw [cell_of_row _ _ _ _ _ _ H0wd.out]; rfl
          have qf : ∀ j, wd.frozen? ⟨w.heap.size, j, none⟩ = false := fun j => frozen_of_row _ _ j _ _ H0wd.out
          have k0 : wd.cell? ⟨b1, 0, none⟩ = some (.int .i64 0) := by rw [cell_of_row _ _ _ _ _ _ H1wd.out]; rfl
          have k1 : wd.cell? ⟨b1, 1, none⟩ = some (.string ⟨#[]⟩) := by rw [cell_of_row _ _ _ _ _ _ H1wd.out]; rfl
          have k2 : wd.cell? ⟨b1, 2, none⟩ = some (.pointer none) := by rw [cell_of_row _ _ _ _ _ _ H1wd.out]; rfl
          have k3 : wd.cell? ⟨b1, 3, none⟩ = some (.int .i64 (j : Nat)) := by rw [cell_of_row _ _ _ _ _ _ H1wd.out]; rfl
          have kf : ∀ j, wd.frozen? ⟨b1, j, none⟩ = false := fun j => frozen_of_row _ _ j _ _ H1wd.out
          go_wp2_with fail
          go_quiet (fail)
          have HTNwe := Lib.hid (HTNwd.out.later (ext_drewN (Below.refl _ _) nq))
          have H0we := Lib.hid (heap_in H0wd.out (ext_drewN (Below.refl _ _) nq))
          have H1we := Lib.hid (heap_in H1wd.out (ext_drewN (Below.refl _ _) nq))
          clear c0 c1 f1 q0 q1 q2 q3 qf k0 k1 k2 k3 kf
          generalize wd.drewN nq = we at *
          obtain ⟨c0, c1⟩ := HTNwe.out.lx.cells
          rw [HS.out] at c0
          have f1 := HTNwe.out.lx.frz 1
          have q0 : we.cell? ⟨w.heap.size, 0, none⟩ = some (.int .i64 0) := by rw [cell_of_row _ _ _ _ _ _ H0we.out]; rfl
          have q1 : we.cell? ⟨w.heap.size, 1, none⟩ = some (.string ⟨#[]⟩) := by rw [cell_of_row _ _ _ _ _ _ H0we.out]; rfl
          have q2 : we.cell? ⟨w.heap.size, 2, none⟩ = some (.pointer none) := by rw [cell_of_row _ _ _ _ _ _ H0we.out]; rfl
          have q3 : we.cell? ⟨w.heap.size, 3, none⟩ = some (.int .i64 0) := by rw [cell_of_row _ _ _ _ _ _ H0we.out]; rfl
          have qf : ∀ j, we.frozen? ⟨w.heap.size, j, none⟩ = false := fun j => frozen_of_row _ _ j _ _ H0we.out
          have k0 : we.cell? ⟨b1, 0, none⟩ = some (.int .i64 0) := by rw [cell_of_row _ _ _ _ _ _ H1we.out]; rfl
          have k1 : we.cell? ⟨b1, 1, none⟩ = some (.string ⟨#[]⟩) := by rw [cell_of_row _ _ _ _ _ _ H1we.out]; rfl
          have k2 : we.cell? ⟨b1, 2, none⟩ = some (.pointer none) := by rw [cell_of_row _ _ _ _ _ _ H1we.out]; rfl
          have k3 : we.cell? ⟨b1, 3, none⟩ = some (.int .i64 (j : Nat)) := by rw [cell_of_row _ _ _ _ _ _ H1we.out]; rfl
          have kf : ∀ j, we.frozen? ⟨b1, j, none⟩ = false := fun j => frozen_of_row _ _ j _ _ H1we.out
          clear e32 e9 e10 e13 e35
          go_wp2_with fail
          refine (HLET.out _ true _).mono ?_
          rintro e w1 ⟨rfl, rfl⟩
          obtain ⟨L, hL⟩ : ∃ L, LX.letter c true = L := ⟨_, rfl⟩
          rw [hL] at HTA ⊢
          clear hL
          cases L with
          | true =>
            have HTB : Hid (OUT = if 30 < LX.nameN (s.drop j) then (⟨1, (s.drop j).take (LX.nameN (s.drop j)), none, j⟩, 3, j) else (⟨1, (s.drop j).take (LX.nameN (s.drop j)), none, j⟩, 0, j + LX.nameN (s.drop j))) := HTA.out
            clear HTA HQU HEX HIX
            go_wp2_with fail
            go_loopg [] (s.length - j) (fun g2 wy => NameAt w b1 p s j (j + LX.nameN (s.drop j)) g2 wy)
            case atStart => exact ⟨j, Nat.le_refl _, by omega, HTNwe, rfl, H0we, H1we⟩
            case round =>
              clear c0 c1 f1 hidx q0 q1 q2 q3 qf k0 k1 k2 k3 kf HTNwe H0we H1we
              obtain ⟨i, hji, hi, HTNwr, hgi, H0wr, H1wr⟩ := hrel
              obtain ⟨c0, c1⟩ := HTNwr.out.lx.cells
              rw [HS.out] at c0
              have f1 := HTNwr.out.lx.frz 1
              have q0 : wr.cell? ⟨w.heap.size, 0, none⟩ = some (.int .i64 0) := by rw [cell_of_row _ _ _ _ _ _ H0wr.out]; rfl
              have q1 : wr.cell? ⟨w.heap.size, 1, none⟩ = some (.string ⟨#[]⟩) := by rw [cell_of_row _ _ _ _ _ _ H0wr.out]; rfl
              have q2 : wr.cell? ⟨w.heap.size, 2, none⟩ = some (.pointer none) := by rw [cell_of_row _ _ _ _ _ _ H0wr.out]; rfl
              have q3 : wr.cell? ⟨w.heap.size, 3, none⟩ = some (.int .i64 0) := by rw [cell_of_row _ _ _ _ _ _ H0wr.out]; rfl
              have qf : ∀ j, wr.frozen? ⟨w.heap.size, j, none⟩ = false := fun j => frozen_of_row _ _ j _ _ H0wr.out
              have k0 : wr.cell? ⟨b1, 0, none⟩ = some (.int .i64 0) := by rw [cell_of_row _ _ _ _ _ _ H1wr.out]; rfl
              have k1 : wr.cell? ⟨b1, 1, none⟩ = some (.string ⟨#[]⟩) := by rw [cell_of_row _ _ _ _ _ _ H1wr.out]; rfl
              have k2 : wr.cell? ⟨b1, 2, none⟩ = some (.pointer none) := by rw [cell_of_row _ _ _ _ _ _ H1wr.out]; rfl
              have k3 : wr.cell? ⟨b1, 3, none⟩ = some (.int .i64 (j : Nat)) := by rw [cell_of_row _ _ _ _ _ _ H1wr.out]; rfl
              have kf : ∀ j, wr.frozen? ⟨b1, j, none⟩ = false := fun j => frozen_of_row _ _ j _ _ H1wr.out
              cases gk with
              | zero =>
                have hd : decide ((i : Int) < (s.length : Nat)) = false := decide_eq_false (by omega)
                have hd2 : decide (i < s.length) = false := decide_eq_false (by omega)
                have HJI := Lib.hid hji
                have hil : i ≤ s.length := by omega
                have HE : Hid (i = j + LX.nameN (s.drop j)) := by show _ = _; rw [← hgi.out]; exact (name_end s i (by omega)).symm
                clear hi
                go_wp2_with fail
                go_quiet (fail)
                have HTNwg := Lib.hid (HTNwr.out.later (ext_drewN (Below.refl _ _) nq))
                have H0wg := Lib.hid (heap_in H0wr.out (ext_drewN (Below.refl _ _) nq))
                have H1wg := Lib.hid (heap_in H1wr.out (ext_drewN (Below.refl _ _) nq))
                clear c0 c1 f1 q0 q1 q2 q3 qf k0 k1 k2 k3 kf
                generalize wr.drewN nq = wg at *
                obtain ⟨c0, c1⟩ := HTNwg.out.lx.cells
                rw [HS.out] at c0
                have f1 := HTNwg.out.lx.frz 1
                have q0 : wg.cell? ⟨w.heap.size, 0, none⟩ = some (.int .i64 0) := by rw [cell_of_row _ _ _ _ _ _ H0wg.out]; rfl
                have q1 : wg.cell? ⟨w.heap.size, 1, none⟩ = some (.string ⟨#[]⟩) := by rw [cell_of_row _ _ _ _ _ _ H0wg.out]; rfl
                have q2 : wg.cell? ⟨w.heap.size, 2, none⟩ = some (.pointer none) := by rw [cell_of_row _ _ _ _ _ _ H0wg.out]; rfl
                have q3 : wg.cell? ⟨w.heap.size, 3, none⟩ = some (.int .i64 0) := by rw [cell_of_row _ _ _ _ _ _ H0wg.out]; rfl
                have qf : ∀ j, wg.frozen? ⟨w.heap.size, j, none⟩ = false := fun j => frozen_of_row _ _ j _ _ H0wg.out
                have k0 : wg.cell? ⟨b1, 0, none⟩ = some (.int .i64 0) := by rw [cell_of_row _ _ _ _ _ _ H1wg.out]; rfl
                have k1 : wg.cell? ⟨b1, 1, none⟩ = some (.string ⟨#[]⟩) := by rw [cell_of_row _ _ _ _ _ _ H1wg.out]; rfl
                have k2 : wg.cell? ⟨b1, 2, none⟩ = some (.pointer none) := by rw [cell_of_row _ _ _ _ _ _ H1wg.out]; rfl
                have k3 : wg.cell? ⟨b1, 3, none⟩ = some (.int .i64 (j : Nat)) := by rw [cell_of_row _ _ _ _ _ _ H1wg.out]; rfl
                have kf : ∀ j, wg.frozen? ⟨b1, j, none⟩ = false := fun j => frozen_of_row _ _ j _ _ H1wg.out
                have hsl := HSL.out i HJI.out hil
                have HTE : Hid ((s.drop j).take (i - j) = (s.drop j).take (LX.nameN (s.drop j))) := by show _ = _; rw [show i - j = LX.nameN (s.drop j) by have := HE.out; omega]
                have hTl : ((s.drop j).take (i - j)).length = i - j := by rw [List.length_take, List.length_drop]; omega
                have HIJ : Hid (i - j = LX.nameN (s.drop j)) := by show _ = _; have := HE.out; omega
                generalize (s.drop j).take (i - j) = T at *
                have hTs : (⟨T.toArray⟩ : ByteArray).size = T.length := str_size T
                generalize hTT : (⟨T.toArray⟩ : ByteArray) = TT at *
                have HTT := Lib.hid hTT
                clear hTT
                go_wp2_with fail
                go_region
                have HTNwh := Lib.hid (((HTNwg.out.tok1 0 (.int .i64 1)).tok1 1 (.string TT)).later ((Below.refl _ _).drew))
                have H0wh := Lib.hid (show (((wg.setCell ⟨b1, 0, none⟩ (.int .i64 1)).setCell ⟨b1, 1, none⟩ (.string TT)).drew).heap[w.heap.size]? = _ from (Below.heap_setCell _ _ _ _ (by show w.heap.size ≠ b1; omega)).trans ((Below.heap_setCell _ _ _ _ (by show w.heap.size ≠ b1; omega)).trans H0wg.out))
                have H1wh := Lib.hid (show (((wg.setCell ⟨b1, 0, none⟩ (.int .i64 1)).setCell ⟨b1, 1, none⟩ (.string TT)).drew).heap[b1]? = some (.cells #[.int .i64 1, .string TT, .pointer none, .int .i64 (j : Nat)] 47 (0, 0)) from (heap_setCell_same _ _ _ _ _ _ (heap_setCell_same _ _ _ _ _ _ H1wg.out)))
                clear c0 c1 f1 q0 q1 q2 q3 qf k0 k1 k2 k3 kf
                generalize ((wg.setCell ⟨b1, 0, none⟩ (.int .i64 1)).setCell ⟨b1, 1, none⟩ (.string TT)).drew = wh at *
                obtain ⟨c0, c1⟩ := HTNwh.out.lx.cells
                rw [HS.out] at c0
                have f1 := HTNwh.out.lx.frz 1
                have q0 : wh.cell? ⟨w.heap.size, 0, none⟩ = some (.int .i64 0) := by rw [cell_of_row _ _ _ _ _ _ H0wh.out]; rfl
                have q1 : wh.cell? ⟨w.heap.size, 1, none⟩ = some (.string ⟨#[]⟩) := by rw [cell_of_row _ _ _ _ _ _ H0wh.out]; rfl
                have q2 : wh.cell? ⟨w.heap.size, 2, none⟩ = some (.pointer none) := by rw [cell_of_row _ _ _ _ _ _ H0wh.out]; rfl
                have q3 : wh.cell? ⟨w.heap.size, 3, none⟩ = some (.int .i64 0) := by rw [cell_of_row _ _ _ _ _ _ H0wh.out]; rfl
                have qf : ∀ j, wh.frozen? ⟨w.heap.size, j, none⟩ = false := fun j => frozen_of_row _ _ j _ _ H0wh.out
                have k0 : wh.cell? ⟨b1, 0, none⟩ = some (.int .i64 1) := by rw [cell_of_row _ _ _ _ _ _ H1wh.out]; rfl
                have k1 : wh.cell? ⟨b1, 1, none⟩ = some (.string TT) := by rw [cell_of_row _ _ _ _ _ _ H1wh.out]; rfl
                have k2 : wh.cell? ⟨b1, 2, none⟩ = some (.pointer none) := by rw [cell_of_row _ _ _ _ _ _ H1wh.out]; rfl
                have k3 : wh.cell? ⟨b1, 3, none⟩ = some (.int .i64 (j : Nat)) := by rw [cell_of_row _ _ _ _ _ _ H1wh.out]; rfl
                have kf : ∀ j, wh.frozen? ⟨b1, j, none⟩ = false := fun j => frozen_of_row _ _ j _ _ H1wh.out

                by_cases h30 : 30 < T.length
                · have HO : Hid (OUT = (⟨1, T, none, j⟩, 3, j)) := by show _ = _; rw [HTB.out, if_pos (by have := HIJ.out; omega), HTE.out]
                  have h30' : (30 : Int) < (T.length : Nat) := by omega
                  go_wp2_with fail
                  try rw [Exit.noGoto_ret]
                  refine bodyPost_ret (v := .tuple #[.agg #[.int .i64 1, .string TT, .pointer none, .int .i64 (j : Nat)], .int .i64 3]) (by simp [results, Tryz.results70, go_sem, q0, q1, q2, q3, k0, k1, k2, k3, hwn, Ne.symm hwn, hpn, Ne.symm hpn, hpw, Ne.symm hpw]) rfl ?_
                  rw [HO.out]
                  have hp := ((((((HTNwh.out.pos j (j : Int) rfl).tok0 0 (.int .i64 1)).tok0 1 (.string TT)).tok0 2 (.pointer none)).tok0 3 (.int .i64 (j : Nat)))).post (t := ⟨1, T, none, j⟩) (e := 3)
                  rw [← HTT.out] at hp ⊢
                  exact hp
                · have HO : Hid (OUT = (⟨1, T, none, j⟩, 0, i)) := by show _ = _; rw [HTB.out, if_neg (by have := HIJ.out; omega), HTE.out, ← HE.out]
                  have h30' : ¬ (30 : Int) < (T.length : Nat) := by omega
                  go_wp2_with fail
                  try rw [Exit.noGoto_ret]
                  refine bodyPost_ret (v := .tuple #[.agg #[.int .i64 1, .string TT, .pointer none, .int .i64 (j : Nat)], .int .i64 0]) (by simp [results, Tryz.results70, go_sem, q0, q1, q2, q3, k0, k1, k2, k3, hwn, Ne.symm hwn, hpn, Ne.symm hpn, hpw, Ne.symm hpw]) rfl ?_
                  rw [HO.out]
                  have hp := ((((((HTNwh.out).tok0 0 (.int .i64 1)).tok0 1 (.string TT)).tok0 2 (.pointer none)).tok0 3 (.int .i64 (j : Nat)))).post (t := ⟨1, T, none, j⟩) (e := 0)
                  rw [← HTT.out] at hp ⊢
                  exact hp
              | succ g2 =>
                have his : i < s.length := by omega
                have hil : (i : Int) < (s.length : Nat) := by omega
                have hd : decide ((i : Int) < (s.length : Nat)) = true := decide_eq_true hil
                have hidx := HIDX.out i his
                obtain ⟨LI, hLI⟩ : ∃ LI, LX.letter (s.getD i 0) false = LI := ⟨_, rfl⟩
                have HLI := Lib.hid (fun W => letter_any (s.getD i 0) false W)
                rw [hLI] at HLI
                have HNX := fun h => name_in s i his (hLI.trans h)
                have HNS := fun h => name_stop s i his (hLI.trans h)
                clear hLI
                generalize s.getD i 0 = ci at *
                generalize hnn : ci.toNat = nn at *
                clear hnn
                cases LI with
                | true =>
                  have HNI := Lib.hid (HNX rfl)
                  clear HNX HNS
                  go_wp2_with fail
                  go_quiet ((exact Calls.quiet_of_same (HLI.out _)))
                  have HTNwg := Lib.hid (HTNwr.out.later (ext_drewN (Below.refl _ _) nq))
                  have H0wg := Lib.hid (heap_in H0wr.out (ext_drewN (Below.refl _ _) nq))
                  have H1wg := Lib.hid (heap_in H1wr.out (ext_drewN (Below.refl _ _) nq))
                  clear c0 c1 f1 q0 q1 q2 q3 qf k0 k1 k2 k3 kf
                  generalize wr.drewN nq = wg at *
                  obtain ⟨c0, c1⟩ := HTNwg.out.lx.cells
                  rw [HS.out] at c0
                  have f1 := HTNwg.out.lx.frz 1
                  have q0 : wg.cell? ⟨w.heap.size, 0, none⟩ = some (.int .i64 0) := by rw [cell_of_row _ _ _ _ _ _ H0wg.out]; rfl
                  have q1 : wg.cell? ⟨w.heap.size, 1, none⟩ = some (.string ⟨#[]⟩) := by rw [cell_of_row _ _ _ _ _ _ H0wg.out]; rfl
                  have q2 : wg.cell? ⟨w.heap.size, 2, none⟩ = some (.pointer none) := by rw [cell_of_row _ _ _ _ _ _ H0wg.out]; rfl
                  have q3 : wg.cell? ⟨w.heap.size, 3, none⟩ = some (.int .i64 0) := by rw [cell_of_row _ _ _ _ _ _ H0wg.out]; rfl
                  have qf : ∀ j, wg.frozen? ⟨w.heap.size, j, none⟩ = false := fun j => frozen_of_row _ _ j _ _ H0wg.out
                  have k0 : wg.cell? ⟨b1, 0, none⟩ = some (.int .i64 0) := by rw [cell_of_row _ _ _ _ _ _ H1wg.out]; rfl
                  have k1 : wg.cell? ⟨b1, 1, none⟩ = some (.string ⟨#[]⟩) := by rw [cell_of_row _ _ _ _ _ _ H1wg.out]; rfl
                  have k2 : wg.cell? ⟨b1, 2, none⟩ = some (.pointer none) := by rw [cell_of_row _ _ _ _ _ _ H1wg.out]; rfl
                  have k3 : wg.cell? ⟨b1, 3, none⟩ = some (.int .i64 (j : Nat)) := by rw [cell_of_row _ _ _ _ _ _ H1wg.out]; rfl
                  have kf : ∀ j, wg.frozen? ⟨b1, j, none⟩ = false := fun j => frozen_of_row _ _ j _ _ H1wg.out
                  go_wp2_with fail
                  go_roundg g2
                  case measure => omega
                  case rel => exact ⟨i + 1, by omega, by omega, HTNwg.out.pos (i + 1) _ (by omega), by show _ = _; rw [← HNI.out]; exact hgi.out, (Below.heap_setCell _ _ _ _ (by show w.heap.size ≠ p; omega)).trans H0wg.out, (Below.heap_setCell _ _ _ _ (by show b1 ≠ p; omega)).trans H1wg.out⟩
                | false =>
                  have HJI := Lib.hid hji
                  have HE : Hid (i = j + LX.nameN (s.drop j)) := by show _ = _; rw [← hgi.out]; exact (HNS rfl).symm
                  clear HNX HNS
                  have hil : i ≤ s.length := by omega
                  clear hi
                  go_wp2_with fail
                  go_quiet ((exact Calls.quiet_of_same (HLI.out _)))
                  have HTNwg := Lib.hid (HTNwr.out.later (ext_drewN (Below.refl _ _) nq))
                  have H0wg := Lib.hid (heap_in H0wr.out (ext_drewN (Below.refl _ _) nq))
                  have H1wg := Lib.hid (heap_in H1wr.out (ext_drewN (Below.refl _ _) nq))
                  clear c0 c1 f1 q0 q1 q2 q3 qf k0 k1 k2 k3 kf
                  generalize wr.drewN nq = wg at *
                  obtain ⟨c0, c1⟩ := HTNwg.out.lx.cells
                  rw [HS.out] at c0
                  have f1 := HTNwg.out.lx.frz 1
                  have q0 : wg.cell? ⟨w.heap.size, 0, none⟩ = some (.int .i64 0) := by rw [cell_of_row _ _ _ _ _ _ H0wg.out]; rfl
                  have q1 : wg.cell? ⟨w.heap.size, 1, none⟩ = some (.string ⟨#[]⟩) := by rw [cell_of_row _ _ _ _ _ _ H0wg.out]; rfl
                  have q2 : wg.cell? ⟨w.heap.size, 2, none⟩ = some (.pointer none) := by rw [cell_of_row _ _ _ _ _ _ H0wg.out]; rfl
                  have q3 : wg.cell? ⟨w.heap.size, 3, none⟩ = some (.int .i64 0) := by rw [cell_of_row _ _ _ _ _ _ H0wg.out]; rfl
                  have qf : ∀ j, wg.frozen? ⟨w.heap.size, j, none⟩ = false := fun j => frozen_of_row _ _ j _ _ H0wg.out
                  have k0 : wg.cell? ⟨b1, 0, none⟩ = some (.int .i64 0) := by rw [cell_of_row _ _ _ _ _ _ H1wg.out]; rfl
                  have k1 : wg.cell? ⟨b1, 1, none⟩ = some (.string ⟨#[]⟩) := by rw [cell_of_row _ _ _ _ _ _ H1wg.out]; rfl
                  have k2 : wg.cell? ⟨b1, 2, none⟩ = some (.pointer none) := by rw [cell_of_row _ _ _ _ _ _ H1wg.out]; rfl
                  have k3 : wg.cell? ⟨b1, 3, none⟩ = some (.int .i64 (j : Nat)) := by rw [cell_of_row _ _ _ _ _ _ H1wg.out]; rfl
                  have kf : ∀ j, wg.frozen? ⟨b1, j, none⟩ = false := fun j => frozen_of_row _ _ j _ _ H1wg.out
                  have hsl := HSL.out i HJI.out hil
                  have HTE : Hid ((s.drop j).take (i - j) = (s.drop j).take (LX.nameN (s.drop j))) := by show _ = _; rw [show i - j = LX.nameN (s.drop j) by have := HE.out; omega]
                  have hTl : ((s.drop j).take (i - j)).length = i - j := by rw [List.length_take, List.length_drop]; omega
                  have HIJ : Hid (i - j = LX.nameN (s.drop j)) := by show _ = _; have := HE.out; omega
                  generalize (s.drop j).take (i - j) = T at *
                  have hTs : (⟨T.toArray⟩ : ByteArray).size = T.length := str_size T
                  generalize hTT : (⟨T.toArray⟩ : ByteArray) = TT at *
                  have HTT := Lib.hid hTT
                  clear hTT
                  go_wp2_with fail
                  go_region
                  have HTNwh := Lib.hid (((HTNwg.out.tok1 0 (.int .i64 1)).tok1 1 (.string TT)).later ((Below.refl _ _).drew))
                  have H0wh := Lib.hid (show (((wg.setCell ⟨b1, 0, none⟩ (.int .i64 1)).setCell ⟨b1, 1, none⟩ (.string TT)).drew).heap[w.heap.size]? = _ from (Below.heap_setCell _ _ _ _ (by show w.heap.size ≠ b1; omega)).trans ((Below.heap_setCell _ _ _ _ (by show w.heap.size ≠ b1; omega)).trans H0wg.out))
                  have H1wh := Lib.hid (show (((wg.setCell ⟨b1, 0, none⟩ (.int .i64 1)).setCell ⟨b1, 1, none⟩ (.string TT)).drew).heap[b1]? = some (.cells #[.int .i64 1, .string TT, .pointer none, .int .i64 (j : Nat)] 47 (0, 0)) from (heap_setCell_same _ _ _ _ _ _ (heap_setCell_same _ _ _ _ _ _ H1wg.out)))
                  clear c0 c1 f1 q0 q1 q2 q3 qf k0 k1 k2 k3 kf
                  generalize ((wg.setCell ⟨b1, 0, none⟩ (.int .i64 1)).setCell ⟨b1, 1, none⟩ (.string TT)).drew = wh at *
                  obtain ⟨c0, c1⟩ := HTNwh.out.lx.cells
                  rw [HS.out] at c0
                  have f1 := HTNwh.out.lx.frz 1
                  have q0 : wh.cell? ⟨w.heap.size, 0, none⟩ = some (.int .i64 0) := by rw [cell_of_row _ _ _ _ _ _ H0wh.out]; rfl
                  have q1 : wh.cell? ⟨w.heap.size, 1, none⟩ = some (.string ⟨#[]⟩) := by rw [cell_of_row _ _ _ _ _ _ H0wh.out]; rfl
                  have q2 : wh.cell? ⟨w.heap.size, 2, none⟩ = some (.pointer none) := by rw [cell_of_row _ _ _ _ _ _ H0wh.out]; rfl
                  have q3 : wh.cell? ⟨w.heap.size, 3, none⟩ = some (.int .i64 0) := by rw [cell_of_row _ _ _ _ _ _ H0wh.out]; rfl
                  have qf : ∀ j, wh.frozen? ⟨w.heap.size, j, none⟩ = false := fun j => frozen_of_row _ _ j _ _ H0wh.out
                  have k0 : wh.cell? ⟨b1, 0, none⟩ = some (.int .i64 1) := by rw [cell_of_row _ _ _ _ _ _ H1wh.out]; rfl
                  have k1 : wh.cell? ⟨b1, 1, none⟩ = some (.string TT) := by rw [cell_of_row _ _ _ _ _ _ H1wh.out]; rfl
                  have k2 : wh.cell? ⟨b1, 2, none⟩ = some (.pointer none) := by rw [cell_of_row _ _ _ _ _ _ H1wh.out]; rfl
                  have k3 : wh.cell? ⟨b1, 3, none⟩ = some (.int .i64 (j : Nat)) := by rw [cell_of_row _ _ _ _ _ _ H1wh.out]; rfl
                  have kf : ∀ j, wh.frozen? ⟨b1, j, none⟩ = false := fun j => frozen_of_row _ _ j _ _ H1wh.out

                  by_cases h30 : 30 < T.length
                  · have HO : Hid (OUT = (⟨1, T, none, j⟩, 3, j)) := by show _ = _; rw [HTB.out, if_pos (by have := HIJ.out; omega), HTE.out]
                    have h30' : (30 : Int) < (T.length : Nat) := by omega
                    go_wp2_with fail
                    try rw [Exit.noGoto_ret]
                    refine bodyPost_ret (v := .tuple #[.agg #[.int .i64 1, .string TT, .pointer none, .int .i64 (j : Nat)], .int .i64 3]) (by simp [results, Tryz.results70, go_sem, q0, q1, q2, q3, k0, k1, k2, k3, hwn, Ne.symm hwn, hpn, Ne.symm hpn, hpw, Ne.symm hpw]) rfl ?_
                    rw [HO.out]
                    have hp := ((((((HTNwh.out.pos j (j : Int) rfl).tok0 0 (.int .i64 1)).tok0 1 (.string TT)).tok0 2 (.pointer none)).tok0 3 (.int .i64 (j : Nat)))).post (t := ⟨1, T, none, j⟩) (e := 3)
                    rw [← HTT.out] at hp ⊢
                    exact hp
                  · have HO : Hid (OUT = (⟨1, T, none, j⟩, 0, i)) := by show _ = _; rw [HTB.out, if_neg (by have := HIJ.out; omega), HTE.out, ← HE.out]
                    have h30' : ¬ (30 : Int) < (T.length : Nat) := by omega
                    go_wp2_with fail
                    try rw [Exit.noGoto_ret]
                    refine bodyPost_ret (v := .tuple #[.agg #[.int .i64 1, .string TT, .pointer none, .int .i64 (j : Nat)], .int .i64 0]) (by simp [results, Tryz.results70, go_sem, q0, q1, q2, q3, k0, k1, k2, k3, hwn, Ne.symm hwn, hpn, Ne.symm hpn, hpw, Ne.symm hpw]) rfl ?_
                    rw [HO.out]
                    have hp := ((((((HTNwh.out).tok0 0 (.int .i64 1)).tok0 1 (.string TT)).tok0 2 (.pointer none)).tok0 3 (.int .i64 (j : Nat)))).post (t := ⟨1, T, none, j⟩) (e := 0)
                    rw [← HTT.out] at hp ⊢
                    exact hp
          | false =>
            have HTB : Hid (OUT = if LX.signs.contains c then (⟨2, [c], none, j⟩, 0, j + 1)
              else if c = 34 then LX.quoted s j (s.drop (j + 1))
              else if c = 47 then LX.expr s j (s.drop (j + 1))
              else (⟨0, [], none, j⟩, 2, j)) := HTA.out
            clear HSL HIDX
            have hixe : ∀ W, Calls Tryz.prog 126 #[.string ⟨#[40, 41, 44, 46, 59, 124, 42, 61]⟩, .int .u8 (c.toNat : Nat)] W fun e w' => e = .returned (.int .i64 (Lib.indexByte LX.signs c)) ∧ w' = W := fun W => by
              have := HIX.out ((c.toNat : Nat) : Int) W
              simpa [LX.signs] using this
            have HIX2 := Lib.hid hixe
            have hge := index_ge LX.signs c
            clear hixe HIX
            generalize Lib.indexByte LX.signs c = ix at *
            by_cases gsg : LX.signs.contains c = true
            · have HO : Hid (OUT = (⟨2, [c], none, j⟩, 0, j + 1)) := by show _ = _; rw [HTB.out, if_pos gsg]
              have hge2 : 0 ≤ ix := of_decide_eq_true (hge.trans gsg)
              clear hge HQU HEX
              have hcv := sign_str c gsg
              obtain ⟨TC, hTC⟩ : ∃ TC : ByteArray, TC = ⟨[c].toArray⟩ := ⟨_, rfl⟩
              have HCV := Lib.hid hTC
              rw [← hTC] at hcv
              clear gsg hTC
              go_wp2_with fail
              refine (HIX2.out _).mono ?_
              rintro e w1 ⟨rfl, rfl⟩
              go_wp2_with fail
              try rw [Exit.noGoto_ret]
              refine bodyPost_ret (v := .tuple #[.agg #[.int .i64 2, .string TC, .pointer none, .int .i64 (j : Nat)], .int .i64 0]) (by simp [results, Tryz.results70, go_sem, q0, q1, q2, q3, k0, k1, k2, k3, hwn, Ne.symm hwn, hpn, Ne.symm hpn, hpw, Ne.symm hpw, hcv]) rfl ?_
              rw [HO.out]
              have hp := ((((((((HTNwe.out.pos (j + 1) ((j : Int) + 1) (by omega)).tok1 0 (.int .i64 2)).tok1 1 (.string TC)).tok0 0 (.int .i64 2)).tok0 1 (.string TC)).tok0 2 (.pointer none)).tok0 3 (.int .i64 (j : Nat)))).post (t := ⟨2, [c], none, j⟩) (e := 0)
              rw [HCV.out] at hp ⊢
              exact hp
            · have HTC : Hid (OUT = if c = 34 then LX.quoted s j (s.drop (j + 1)) else if c = 47 then LX.expr s j (s.drop (j + 1)) else (⟨0, [], none, j⟩, 2, j)) := by show _ = _; rw [HTB.out, if_neg gsg]
              have hge2 : ¬ 0 ≤ ix := fun h => gsg (hge.symm.trans (decide_eq_true h))
              clear hge gsg
              by_cases g34 : c = 34
              · have HTC : Hid (OUT = LX.quoted s j (s.drop (j + 1))) := by show _ = _; rw [HTC.out, if_pos g34]
                have e34 : (((c.toNat : Nat) : Int) == 34) = true := by rw [g34]; rfl
                clear g34 HEX
                generalize c.toNat = n at *
                generalize LX.quoted s j (s.drop (j + 1)) = Q at *
                go_wp2_with fail
                refine (HIX2.out _).mono ?_
                rintro e w1 ⟨rfl, rfl⟩
                go_wp2_with fail
                obtain ⟨⟨kd, tx, ro, pa⟩, en, q⟩ := Q
                have HO := HTC
                refine (HQU.out _ HTNwe.out.lx (Tab.farL HT.out HL0.out HTNwe.out.far)).mono ?_
                rintro e w1 ⟨rv, rfl, hre, hlx, hfar⟩
                simp only at hre hlx
                obtain ⟨po, rfl⟩ := reO_ptr hre
                have HZ1 := (hfar.block w.heap.size (Array.getElem?_eq_some_iff.1 H0we.out).1 (fun e => by have := Option.some.inj e; omega)).trans H0we.out
                have HTNw1 := Lib.hid (HTNwe.out.after hlx hfar hre)
                clear c0 c1 f1 q0 q1 q2 q3 qf k0 k1 k2 k3 kf hre hlx hfar
                have q0 : w1.cell? ⟨w.heap.size, 0, none⟩ = some (.int .i64 0) := by rw [cell_of_row _ _ _ _ _ _ HZ1]; rfl
                have q1 : w1.cell? ⟨w.heap.size, 1, none⟩ = some (.string ⟨#[]⟩) := by rw [cell_of_row _ _ _ _ _ _ HZ1]; rfl
                have q2 : w1.cell? ⟨w.heap.size, 2, none⟩ = some (.pointer none) := by rw [cell_of_row _ _ _ _ _ _ HZ1]; rfl
                have q3 : w1.cell? ⟨w.heap.size, 3, none⟩ = some (.int .i64 0) := by rw [cell_of_row _ _ _ _ _ _ HZ1]; rfl
                have qf : ∀ j, w1.frozen? ⟨w.heap.size, j, none⟩ = false := fun j => frozen_of_row _ _ j _ _ HZ1
                clear HZ1
                simp only [tkV]
                generalize hTX : (⟨tx.toArray⟩ : ByteArray) = TX at *
                have HTX := Lib.hid hTX
                clear hTX
                go_wp2_with fail
                try rw [Exit.noGoto_ret]
                refine bodyPost_ret (v := .tuple #[.agg #[.int .i64 (kd : Nat), .string TX, .pointer po, .int .i64 (pa : Nat)], .int .i64 (en : Nat)]) (by simp [results, Tryz.results70, go_sem, q0, q1, q2, q3, hwn, Ne.symm hwn, hpn, Ne.symm hpn, hpw, Ne.symm hpw]) rfl ?_
                rw [HO.out]
                have hp := ((((((HTNw1.out).tok0 0 (.int .i64 (kd : Nat))).tok0 1 (.string TX)).tok0 2 (.pointer po)).tok0 3 (.int .i64 (pa : Nat)))).post (t := ⟨kd, tx, ro, pa⟩) (e := en)
                rw [← HTX.out] at hp ⊢
                exact hp
              · have e34 : (((c.toNat : Nat) : Int) == 34) = false := u8_ne _ 34 _ (by decide) g34
                by_cases g47 : c = 47
                · have HTC : Hid (OUT = LX.expr s j (s.drop (j + 1))) := by show _ = _; rw [HTC.out, if_neg g34, if_pos g47]
                  have e47 : (((c.toNat : Nat) : Int) == 47) = true := by rw [g47]; rfl
                  clear g34 g47 HQU
                  generalize c.toNat = n at *
                  generalize LX.expr s j (s.drop (j + 1)) = Q at *
                  go_wp2_with fail
                  refine (HIX2.out _).mono ?_
                  rintro e w1 ⟨rfl, rfl⟩
                  go_wp2_with fail
                  obtain ⟨⟨kd, tx, ro, pa⟩, en, q⟩ := Q
                  have HO := HTC
                  refine (HEX.out _ HTNwe.out.lx).mono ?_
                  rintro e w1 ⟨rv, rfl, hre, hlx, hfar⟩
                  simp only at hre hlx
                  obtain ⟨po, rfl⟩ := reO_ptr hre
                  have HZ1 := (hfar.block w.heap.size (Array.getElem?_eq_some_iff.1 H0we.out).1 (fun e => by have := Option.some.inj e; omega)).trans H0we.out
                  have HTNw1 := Lib.hid (HTNwe.out.after hlx hfar hre)
                  clear c0 c1 f1 q0 q1 q2 q3 qf k0 k1 k2 k3 kf hre hlx hfar
                  have q0 : w1.cell? ⟨w.heap.size, 0, none⟩ = some (.int .i64 0) := by rw [cell_of_row _ _ _ _ _ _ HZ1]; rfl
                  have q1 : w1.cell? ⟨w.heap.size, 1, none⟩ = some (.string ⟨#[]⟩) := by rw [cell_of_row _ _ _ _ _ _ HZ1]; rfl
                  have q2 : w1.cell? ⟨w.heap.size, 2, none⟩ = some (.pointer none) := by rw [cell_of_row _ _ _ _ _ _ HZ1]; rfl
                  have q3 : w1.cell? ⟨w.heap.size, 3, none⟩ = some (.int .i64 0) := by rw [cell_of_row _ _ _ _ _ _ HZ1]; rfl
                  have qf : ∀ j, w1.frozen? ⟨w.heap.size, j, none⟩ = false := fun j => frozen_of_row _ _ j _ _ HZ1
                  clear HZ1
                  simp only [tkV]
                  generalize hTX : (⟨tx.toArray⟩ : ByteArray) = TX at *
                  have HTX := Lib.hid hTX
                  clear hTX
                  go_wp2_with fail
                  try rw [Exit.noGoto_ret]
                  refine bodyPost_ret (v := .tuple #[.agg #[.int .i64 (kd : Nat), .string TX, .pointer po, .int .i64 (pa : Nat)], .int .i64 (en : Nat)]) (by simp [results, Tryz.results70, go_sem, q0, q1, q2, q3, hwn, Ne.symm hwn, hpn, Ne.symm hpn, hpw, Ne.symm hpw]) rfl ?_
                  rw [HO.out]
                  have hp := ((((((HTNw1.out).tok0 0 (.int .i64 (kd : Nat))).tok0 1 (.string TX)).tok0 2 (.pointer po)).tok0 3 (.int .i64 (pa : Nat)))).post (t := ⟨kd, tx, ro, pa⟩) (e := en)
                  rw [← HTX.out] at hp ⊢
                  exact hp
                · have HO : Hid (OUT = (⟨0, [], none, j⟩, 2, j)) := by show _ = _; rw [HTC.out, if_neg g34, if_neg g47]
                  have e47 : (((c.toNat : Nat) : Int) == 47) = false := u8_ne _ 47 _ (by decide) g47
                  clear g34 g47 HQU HEX
                  generalize c.toNat = n at *
                  go_wp2_with fail
                  refine (HIX2.out _).mono ?_
                  rintro e w1 ⟨rfl, rfl⟩
                  go_wp2_with fail
                  try rw [Exit.noGoto_ret]
                  refine bodyPost_ret (v := .tuple #[.agg #[.int .i64 0, .string ⟨#[]⟩, .pointer none, .int .i64 (j : Nat)], .int .i64 2]) (by simp [results, Tryz.results70, go_sem, q0, q1, q2, q3, k0, k1, k2, k3, hwn, Ne.symm hwn, hpn, Ne.symm hpn, hpw, Ne.symm hpw]) rfl ?_
                  rw [HO.out]
                  exact ((((((HTNwe.out).tok0 0 (.int .i64 0)).tok0 1 (.string ⟨#[]⟩)).tok0 2 (.pointer none)).tok0 3 (.int .i64 (j : Nat)))).post (t := ⟨0, [], none, j⟩) (e := 2)
end Go.Proofs.YtgamknphlmcgnaaGreatDoor
namespace Go.Proofs.YtgamknphlmcgnaaGreatDoor
open Go.RowKit
theorem infoTok : (Tryz.prog.info? 47).map (fun i => (i.zero, i.size, i.bytes)) = some (some (.agg #[.int .i64 0, .string ⟨#[]⟩, .pointer none, .int .i64 0]), 4, 40) := by kernel_rfl
def cellsT (x : LT × Value) : List Value := [.int .i64 (x.1.kind : Nat), .string ⟨x.1.text.toArray⟩, x.2, .int .i64 (x.1.at_ : Nat)]
/-- tokens in a row of one's own -/
def ToksAt (base : Nat) (v : Value) (out : List LT) (W : World) : Prop :=
  ∃ tvs : List (LT × Value), tvs.map Prod.fst = out ∧ W.ownsRow base 47 4 v out.length (tvs.flatMap cellsT) ∧ ∀ x ∈ tvs, IsReO W x.2 x.1.re
theorem ToksAt.nil (W : World) (base : Nat) : ToksAt base (.slice none 0 0) [] W := ⟨[], rfl, World.ownsRow_nil _ _ _ _, by simp⟩
theorem reO_rowT {W W' : World} {v u : Value} {o : Option RE} {base n : Nat} {xs : List Value} (hown : W.ownsRow base 47 4 v n xs) (hg : W.grownBy W' v.ownBlock) (hu : IsReO W u o) : IsReO W' u o := by
  rcases hown.2 with ⟨rfl, _⟩ | ⟨g, cap, cur, rfl, _, hb, _⟩
  · exact hu.later ⟨hg.os, hg.tape, hg.output, hg.size, fun k hk => hg.block k hk (by intro e; cases e)⟩
  · exact hu.put hb (by decide) (by decide) fun k hk hne => hg.block k hk (fun e => by first | exact hne (Option.some.inj e) | exact hne (Option.some.inj e).symm)
theorem ToksAt.far {base p a : Nat} {v : Value} {s : List UInt8} {out : List LT} {W W' : World} (h : ToksAt base v out W) (hb : p < base) (hl : LxAt W p s a) (hf : Far p W W') : ToksAt base v out W' := by
  obtain ⟨tvs, h1, h2, h3⟩ := h
  refine ⟨tvs, h1, World.ownsRow.kept h2 hf ?_, fun x hx => (h3 x hx).farL hl hf⟩
  rcases h2.2 with ⟨rfl, _⟩ | ⟨g, cap, cur, rfl, hbg, _⟩
  · exact .inl rfl
  · refine .inr fun e => ?_
    have : g = p := by simpa [Value.ownBlock] using e
    omega
theorem below_farB {w wr w1 : World} (h : Below w.heap.size w wr) (hf : Far w.heap.size wr w1) : Below w.heap.size w w1 :=
  ⟨hf.os.trans h.os, hf.tape.trans h.tape, hf.output.trans h.output, Nat.le_trans h.size hf.size, fun k hk => (hf.block k (Nat.lt_of_lt_of_le hk h.size) (fun e => by have := Option.some.inj e; omega)).trans (h.block k hk)⟩
theorem below_grownB {B : Nat} {w W W' : World} {row : Option Nat} (h : Below B w W) (hB : B ≤ W.heap.size) (hg : W.grownBy W' row) (hrow : ∀ g, row = some g → B ≤ g) : Below B w W' :=
  ⟨hg.os.trans h.os, hg.tape.trans h.tape, hg.output.trans h.output, Nat.le_trans h.size hg.size, fun k hk => (hg.block k (by omega) (fun e => by
    first
      | (have := hrow k e; omega)
      | (have := hrow k e.symm; omega))).trans (h.block k hk)⟩
/-- what the tokens' maker leaves -/
def LexPost (w : World) (r : List LT × Nat × Nat) (e : Ending) (w' : World) : Prop :=
  ∃ v, e = .returned (.tuple #[v, .int .i64 (r.2.1 : Nat), .int .i64 (r.2.2 : Nat)]) ∧ ToksAt (w.heap.size + 1) v r.1 w' ∧ Below w.heap.size w w'
def LxAllAt (w : World) (s : List UInt8) (R : List LT × Nat × Nat) (f : Nat) (v : Value) (wr : World) : Prop :=
  ∃ (a : Nat) (out : List LT), a ≤ s.length ∧ s.length - a < f ∧ out.length ≤ a ∧ Hid (LX.allGo s f a out = R) ∧ Hid (LxAt wr w.heap.size s a) ∧ Hid (ToksAt (w.heap.size + 1) v out wr) ∧ Hid (Below w.heap.size w wr) ∧ Hid (Tab wr)
set_option maxRecDepth 100000 in
set_option maxHeartbeats 1600000 in
theorem lxAll_any (w : World) (s : List UInt8) (hT : Tab w) (hs0 : s.length ≤ 140737488355328) :
    Calls Tryz.prog 25 #[.string ⟨s.toArray⟩] w (LexPost w (lexW s)) := by
  have hsz : (⟨s.toArray⟩ : ByteArray).size = s.length := str_size s
  have HT := Lib.hid hT
  by_cases hbig : 65536 < s.length
  · have HR : Hid (lexW s = ([], 3, 0)) := by show _ = _; unfold lexW; rw [if_pos hbig]
    have hb' : (65536 : Int) < (s.length : Nat) := by omega
    generalize lexW s = R at *
    generalize hS : (⟨s.toArray⟩ : ByteArray) = S at *
    clear hS hT
    go_enter Tryz.func25, Tryz.ntmps25
    go_wp2_with fail
    refine bodyPost_ret (v := .tuple #[.slice none 0 0, .int .i64 3, .int .i64 0]) (by simp [results, Tryz.results25, go_sem]) rfl ?_
    rw [HR.out]
    exact ⟨_, rfl, ToksAt.nil _ _, Below.refl _ _⟩
  · have HR : Hid (lexW s = LX.allGo s (s.length + 1) 0 []) := by show _ = _; unfold lexW; rw [if_neg hbig]
    have hb' : ¬ (65536 : Int) < (s.length : Nat) := by omega
    have hs : s.length ≤ 65536 := by omega
    obtain ⟨R, hR⟩ : ∃ R, lexW s = R := ⟨_, rfl⟩
    rw [hR] at HR ⊢
    have HR2 : Hid (LX.allGo s (s.length + 1) 0 [] = R) := HR.out.symm
    have hl : LxAt (w.alloc (.cells (lxCells s 0) 125)) w.heap.size s 0 := heap_alloc_last w _
    have HL := Lib.hid hl
    obtain ⟨i0, hi, hz0, hz1, hz2⟩ := info_parts infoTok
    have HI := Lib.hid hi; have HZ0 := Lib.hid hz0; have HZ1 := Lib.hid hz1; have HZ2 := Lib.hid hz2
    clear hR HR hl hi hz0 hz1 hz2 hT
    go_enter Tryz.func25, Tryz.ntmps25
    go_wp2_with fail
    go_loopg [6] (s.length + 1) (fun f v wr => LxAllAt w s R f v wr)
    case atStart => exact ⟨0, [], Nat.zero_le _, by omega, Nat.le_refl _, HR2.out, HL.out, ToksAt.nil _ _, re_alloc _ _, HT.out.later (re_alloc _ _)⟩
    case round =>
      obtain ⟨a, out, ha, hf, ho, hgo, hlx, htk, hbel, htab⟩ := hrel
      cases gk with
      | zero => omega
      | succ f =>
      have HNR := Lib.hid (LX.next_res s a ha)
      have HST : Hid (R = if (LX.next s a).2.1 ≠ 0 then ([], (LX.next s a).2.1, (LX.next s a).2.2)
        else if (LX.next s a).1.kind = 0 then (out ++ [(LX.next s a).1], 0, 0)
        else LX.allGo s f (LX.next s a).2.2 (out ++ [(LX.next s a).1])) := by show _ = _; rw [← hgo.out]; rfl
      have HNX := Lib.hid (lxNext_any wr w.heap.size a s ha hs hlx.out htab.out)
      generalize LX.next s a = NX at *
      obtain ⟨⟨kd, tx, ro, pa⟩, en, q⟩ := NX
      have hoB : out.length ≤ 65536 := by omega
      go_wp2_with fail
      refine (HNX.out).mono ?_
      rintro e w1 ⟨rv, rfl, hre, hlx1, hfar⟩
      simp only at hre hlx1
      obtain ⟨po, rfl⟩ := reO_ptr hre
      have HRE1 := Lib.hid hre
      have HLX1 := Lib.hid hlx1
      have HTK1 := Lib.hid (htk.out.far (by omega) hlx.out hfar)
      have HB1 : Hid (Below w.heap.size w w1) := below_farB hbel.out hfar
      have HTAB1 := Lib.hid (htab.out.farL hlx.out hfar)
      clear hre hlx1 hfar
      simp only [tkV]
      generalize hTX : (⟨tx.toArray⟩ : ByteArray) = TX at *
      have HTX := Lib.hid hTX
      clear hTX
      by_cases hen : en = 0
      · subst hen
        obtain ⟨tvs, htv, hown1, hre1⟩ := HTK1.out
        have HTV := Lib.hid htv
        have HREV := Lib.hid hre1
        have HOWN3 := Lib.hid ((hown1.alloc (.cells #[.int .i64 (kd : Nat), .string TX, .pointer po, .int .i64 (pa : Nat)] 47)).alloc (.cells #[.int .i64 (kd : Nat), .string TX, .pointer po, .int .i64 (pa : Nat)] 47))
        have HLOW := Lib.hid hown1.lt
        have e1 : (w1.alloc (.cells #[.int .i64 (kd : Nat), .string TX, .pointer po, .int .i64 (pa : Nat)] 47)).heap.size = w1.heap.size + 1 := by simp
        have h3 := heap_alloc_last (w1.alloc (.cells #[.int .i64 (kd : Nat), .string TX, .pointer po, .int .i64 (pa : Nat)] 47)) (.cells #[.int .i64 (kd : Nat), .string TX, .pointer po, .int .i64 (pa : Nat)] 47)
        rw [e1] at h3
        have HN3 := Lib.hid h3
        have HT3 := Lib.hid (heap_in (heap_alloc_last w1 (.cells #[.int .i64 (kd : Nat), .string TX, .pointer po, .int .i64 (pa : Nat)] 47)) (re_alloc (w1.alloc (.cells #[.int .i64 (kd : Nat), .string TX, .pointer po, .int .i64 (pa : Nat)] 47)) (.cells #[.int .i64 (kd : Nat), .string TX, .pointer po, .int .i64 (pa : Nat)] 47)))
        have HB3 : Hid (Below w1.heap.size w1 ((w1.alloc (.cells #[.int .i64 (kd : Nat), .string TX, .pointer po, .int .i64 (pa : Nat)] 47)).alloc (.cells #[.int .i64 (kd : Nat), .string TX, .pointer po, .int .i64 (pa : Nat)] 47))) := ext_alloc (re_alloc _ _) _
        have e3 : ((w1.alloc (.cells #[.int .i64 (kd : Nat), .string TX, .pointer po, .int .i64 (pa : Nat)] 47)).alloc (.cells #[.int .i64 (kd : Nat), .string TX, .pointer po, .int .i64 (pa : Nat)] 47)).heap.size = w1.heap.size + 2 := by simp
        have HE3 := Lib.hid e3
        have hlen1 : w.heap.size < w1.heap.size := HLX1.out.lt
        have HCT : Hid (cellsT (⟨kd, tx, ro, pa⟩, .pointer po) = [.int .i64 (kd : Nat), .string TX, .pointer po, .int .i64 (pa : Nat)]) := by show _ = _; rw [← HTX.out]; rfl
        clear htv hown1 hre1 h3 e1 e3 HTK1 htk
        by_cases hkd : kd = 0
        · have HO : Hid (R = (out ++ [⟨kd, tx, ro, pa⟩], 0, 0)) := by show _ = _; rw [HST.out, if_neg (by decide), if_pos hkd]
          have hk' : (((kd : Nat) : Int) == 0) = true := by rw [hkd]; rfl
          clear hkd
          go_wp2_with (at_builtin; refine wpList_append_lies _ rfl _ _ _ rfl (w.heap.size + 1) 47 i0 _ 4 40 Tryz.underlying38 HI.out HZ0.out HZ1.out HZ2.out rfl (by omega) _ out.length (tvs.flatMap cellsT) rfl HOWN3.out ⟨w1.heap.size + 1, 0, none⟩ 1 1 [.int .i64 (kd : Nat), .string TX, .pointer po, .int .i64 (pa : Nat)] rfl rfl (World.news_of_block (cs := #[.int .i64 (kd : Nat), .string TX, .pointer po, .int .i64 (pa : Nat)]) (t := 47) (fr := (0, 0)) HN3.out) (by intro u hu; simp at hu; rcases hu with rfl | rfl | rfl | rfl <;> rfl) (by omega) (by unfold maxLen; omega) (by omega) (by rw [HE3.out]; omega) _ rfl ?_; intro g5 cp5 W9 hown9 hg9 hat9 hlt9; have h9 := (hg9.block w1.heap.size (by rw [HE3.out]; omega) (fun e => by first | (have := (HLOW.out _ e.symm).2; omega) | (have := (HLOW.out _ e).2; omega))).trans HT3.out; have t0 : W9.cell? ⟨w1.heap.size, 0, none⟩ = some (.int .i64 (kd : Nat)) := (by rw [cell_of_row _ _ _ _ _ _ h9]; rfl); clear h9)
          have HL9 : Hid (LxAt W9 w.heap.size s q) := (hg9.block _ (by rw [HE3.out]; omega) (fun e => by first | (have := (HLOW.out _ e.symm).1; omega) | (have := (HLOW.out _ e).1; omega))).trans (HLX1.out.later HB3.out)
          have HB9 : Hid (Below w.heap.size w W9) := below_grownB (ext_step HB1.out (HB3.out.mono (by omega))) (by rw [HE3.out]; omega) hg9 (fun g hg => by have := (HLOW.out g hg).1; omega)
          have HTK9 : Hid (ToksAt (w.heap.size + 1) (.slice (some ⟨g5, 0, none⟩) (out.length + 1) cp5) (out ++ [⟨kd, tx, ro, pa⟩]) W9) := by
            refine ⟨tvs ++ [(⟨kd, tx, ro, pa⟩, .pointer po)], by rw [List.map_append, HTV.out]; rfl, ?_, fun x hx => reO_rowT HOWN3.out hg9 (IsReO.later ?_ HB3.out)⟩
            · rw [List.length_append, List.length_singleton, List.flatMap_append, List.flatMap_singleton, HCT.out]; exact hown9
            · rcases List.mem_append.1 hx with hx | hx
              · exact HREV.out x hx
              · rw [List.mem_singleton.1 hx]; exact HRE1.out
          clear hown9 hg9 hat9 hlt9
          try rw [Exit.noGoto_ret]
          refine bodyPost_ret (v := .tuple #[.slice (some ⟨g5, 0, none⟩) (out.length + 1) cp5, .int .i64 0, .int .i64 0]) (by simp [results, Tryz.results25, go_sem]) rfl ?_
          rw [HO.out]
          exact ⟨_, rfl, HTK9.out, HB9.out⟩
        · have HO : Hid (LX.allGo s f q (out ++ [⟨kd, tx, ro, pa⟩]) = R) := by show _ = _; rw [HST.out, if_neg (by decide), if_neg hkd]
          have hk' : (((kd : Nat) : Int) == 0) = false := by rw [beq_eq_false_iff_ne]; omega
          have hq : a < q ∧ q ≤ s.length := by
            obtain ⟨h1, h2⟩ := HNR.out
            rcases h2 with ⟨_, _, _, h3, h4, _⟩ | ⟨h3, _⟩
            · have := h4 hkd; simp only at this h3; omega
            · simp at h3
          clear hkd
          go_wp2_with (at_builtin; refine wpList_append_lies _ rfl _ _ _ rfl (w.heap.size + 1) 47 i0 _ 4 40 Tryz.underlying38 HI.out HZ0.out HZ1.out HZ2.out rfl (by omega) _ out.length (tvs.flatMap cellsT) rfl HOWN3.out ⟨w1.heap.size + 1, 0, none⟩ 1 1 [.int .i64 (kd : Nat), .string TX, .pointer po, .int .i64 (pa : Nat)] rfl rfl (World.news_of_block (cs := #[.int .i64 (kd : Nat), .string TX, .pointer po, .int .i64 (pa : Nat)]) (t := 47) (fr := (0, 0)) HN3.out) (by intro u hu; simp at hu; rcases hu with rfl | rfl | rfl | rfl <;> rfl) (by omega) (by unfold maxLen; omega) (by omega) (by rw [HE3.out]; omega) _ rfl ?_; intro g5 cp5 W9 hown9 hg9 hat9 hlt9; have h9 := (hg9.block w1.heap.size (by rw [HE3.out]; omega) (fun e => by first | (have := (HLOW.out _ e.symm).2; omega) | (have := (HLOW.out _ e).2; omega))).trans HT3.out; have t0 : W9.cell? ⟨w1.heap.size, 0, none⟩ = some (.int .i64 (kd : Nat)) := (by rw [cell_of_row _ _ _ _ _ _ h9]; rfl); clear h9)
          have HL9 : Hid (LxAt W9 w.heap.size s q) := (hg9.block _ (by rw [HE3.out]; omega) (fun e => by first | (have := (HLOW.out _ e.symm).1; omega) | (have := (HLOW.out _ e).1; omega))).trans (HLX1.out.later HB3.out)
          have HB9 : Hid (Below w.heap.size w W9) := below_grownB (ext_step HB1.out (HB3.out.mono (by omega))) (by rw [HE3.out]; omega) hg9 (fun g hg => by have := (HLOW.out g hg).1; omega)
          have HTK9 : Hid (ToksAt (w.heap.size + 1) (.slice (some ⟨g5, 0, none⟩) (out.length + 1) cp5) (out ++ [⟨kd, tx, ro, pa⟩]) W9) := by
            refine ⟨tvs ++ [(⟨kd, tx, ro, pa⟩, .pointer po)], by rw [List.map_append, HTV.out]; rfl, ?_, fun x hx => reO_rowT HOWN3.out hg9 (IsReO.later ?_ HB3.out)⟩
            · rw [List.length_append, List.length_singleton, List.flatMap_append, List.flatMap_singleton, HCT.out]; exact hown9
            · rcases List.mem_append.1 hx with hx | hx
              · exact HREV.out x hx
              · rw [List.mem_singleton.1 hx]; exact HRE1.out
          clear hown9 hg9 hat9 hlt9
          go_roundg f
          case measure => omega
          case rel => exact ⟨q, out ++ [(⟨kd, tx, ro, pa⟩ : LT)], hq.2, by omega, by rw [List.length_append, List.length_singleton]; omega, HO, HL9, HTK9, HB9, Lib.hid (HT.out.later HB9.out)⟩
      · have hen' : (((en : Nat) : Int) != 0) = true := by simp; omega
        have HO : Hid (R = ([], en, q)) := by show _ = _; rw [HST.out]; exact if_pos hen
        obtain ⟨c0, c1⟩ := (HLX1.out.later (re_alloc w1 (.cells #[.int .i64 (kd : Nat), .string TX, .pointer po, .int .i64 (pa : Nat)] 47))).cells
        go_wp2_with fail
        go_quiet (fail)
        go_wp2_with fail
        try rw [Exit.noGoto_ret]
        refine bodyPost_ret (v := .tuple #[.slice none 0 0, .int .i64 (en : Nat), .int .i64 (q : Nat)]) (by simp [results, Tryz.results25, go_sem]) rfl ?_
        rw [HO.out]
        exact ⟨_, rfl, ToksAt.nil _ _, ext_drewN (ext_alloc HB1.out _) _⟩
end Go.Proofs.YtgamknphlmcgnaaGreatDoor
namespace Go.Proofs.YtgamknphlmcgnaaGreatDoor
namespace LX
def headT : List UInt8 := [99, 111, 112, 121, 32, 47, 97, 47]
end LX
end Go.Proofs.YtgamknphlmcgnaaGreatDoor
namespace Go.Proofs.YtgamknphlmcgnaaGreatDoor
open Go.RowKit
end Go.Proofs.YtgamknphlmcgnaaGreatDoor
namespace Go.Proofs.YtgamknphlmcgnaaGreatDoor
open Go.RowKit
abbrev lt0 : LT := ⟨0, [], none, 0⟩
/-- the tokens, as a loop over them reads them -/
structure TkRow (W : World) (g : Nat) (out : List LT) : Prop where
  c0 : ∀ i, i < out.length → W.cell? ⟨g, i * 4, none⟩ = some (.int .i64 ((out.getD i lt0).kind : Nat))
  c1 : ∀ i, i < out.length → W.cell? ⟨g, i * 4 + 1, none⟩ = some (.string ⟨(out.getD i lt0).text.toArray⟩)
  c2 : ∀ i, i < out.length → ∃ v, W.cell? ⟨g, i * 4 + 2, none⟩ = some v ∧ IsReO W v (out.getD i lt0).re
  c3 : ∀ i, i < out.length → W.cell? ⟨g, i * 4 + 3, none⟩ = some (.int .i64 ((out.getD i lt0).at_ : Nat))
theorem flat_at : ∀ (tvs : List (LT × Value)) (i k : Nat), i < tvs.length → k < 4 → (tvs.flatMap cellsT)[i * 4 + k]? = (cellsT (tvs.getD i (lt0, .pointer none)))[k]?
  | [], i, k, h, _ => by simp at h
  | x :: tvs, 0, k, _, hk => by
    rw [List.flatMap_cons, List.getElem?_append_left (by show 0 * 4 + k < 4; omega)]; simp
  | x :: tvs, i + 1, k, h, hk => by
    rw [List.flatMap_cons, List.getElem?_append_right (by show 4 ≤ (i + 1) * 4 + k; omega)]
    have e : (i + 1) * 4 + k - (cellsT x).length = i * 4 + k := by show (i + 1) * 4 + k - 4 = _; omega
    rw [e, flat_at tvs i k (by simpa using h) hk]
    simp [List.getD]
theorem TkRow.of {W : World} {base g cap n : Nat} {out : List LT} (h : ToksAt base (.slice (some ⟨g, 0, none⟩) n cap) out W) : TkRow W g out ∧ n = out.length := by
  obtain ⟨tvs, rfl, hown, hre⟩ := h
  have hl : (tvs.map Prod.fst).length = tvs.length := List.length_map ..
  have hn : n = (tvs.map Prod.fst).length := by
    rcases hown.2 with ⟨e, _⟩ | ⟨g', cap', cur, e, _⟩
    · cases e
    · injection e
  subst hn
  have hg : ∀ i, i < (tvs.map Prod.fst).length → (tvs.map Prod.fst).getD i lt0 = (tvs.getD i (lt0, .pointer none)).1 := fun i hi => by
    simp [List.getD, List.getElem?_map, show i < tvs.length by omega]
  have hc : ∀ i k, i < (tvs.map Prod.fst).length → k < 4 → W.cell? ⟨g, i * 4 + k, none⟩ = (cellsT (tvs.getD i (lt0, .pointer none)))[k]? := fun i k hi hk => by
    rw [hown.cellAt (i * 4 + k) (by omega), flat_at tvs i k (by omega) hk]
  refine ⟨⟨fun i hi => ?_, fun i hi => ?_, fun i hi => ?_, fun i hi => ?_⟩, rfl⟩
  · rw [hg i hi]; exact hc i 0 hi (by omega)
  · rw [hg i hi]; exact hc i 1 hi (by omega)
  · rw [hg i hi]
    refine ⟨(tvs.getD i (lt0, .pointer none)).2, hc i 2 hi (by omega), hre _ ?_⟩
    have : i < tvs.length := by omega
    simp only [List.getD, List.getElem?_eq_getElem this, Option.getD_some]
    exact List.getElem_mem this
  · rw [hg i hi]; exact hc i 3 hi (by omega)
theorem TkRow.later {W W' : World} {g : Nat} {out : List LT} (h : TkRow W g out) (hb : Below W.heap.size W W') : TkRow W' g out :=
  ⟨fun i hi => (hb.cell (p := ⟨g, i * 4, none⟩) (World.block_lt_of_cell? W _ (h.c0 i hi))).trans (h.c0 i hi),
   fun i hi => (hb.cell (p := ⟨g, i * 4 + 1, none⟩) (World.block_lt_of_cell? W _ (h.c1 i hi))).trans (h.c1 i hi),
   fun i hi => by
    obtain ⟨v, h1, h2⟩ := h.c2 i hi
    exact ⟨v, (hb.cell (p := ⟨g, i * 4 + 2, none⟩) (World.block_lt_of_cell? W _ h1)).trans h1, h2.later hb⟩,
   fun i hi => (hb.cell (p := ⟨g, i * 4 + 3, none⟩) (World.block_lt_of_cell? W _ (h.c3 i hi))).trans (h.c3 i hi)⟩
end Go.Proofs.YtgamknphlmcgnaaGreatDoor
end
section
set_option linter.unusedSimpArgs false
set_option linter.unusedVariables false
set_option maxRecDepth 100000
set_option linter.unnecessarySimpa false
namespace Go.Proofs.YtgamknphlmcgnaaGreatDoor
open Go.RowKit
/-- the cells of a term -/
def termCells (op : Nat) (re : Value) (text : List UInt8) (kids : Value) : Array Value :=
  #[.int .i64 op, .int .i64 0, .string ⟨#[]⟩, re, .string ⟨text.toArray⟩, .string ⟨#[]⟩, kids]
def TermAt (w : World) (b op : Nat) (re : Value) (text : List UInt8) (kids : Value) : Prop := w.heap[b]? = some (.cells (termCells op re text kids) 68 (0, 0))
set_option maxHeartbeats 2000000 in
theorem Of_nil (op : Nat) (hop : op < 20) (w : World) : Calls Tryz.prog 50 #[.int .i64 op, .slice none 0 0] w fun e w' => ∃ b, e = .returned (.pointer (some ⟨b, 0, none⟩)) ∧ w.heap.size ≤ b ∧ TermAt w' b op (.pointer none) [] (.slice none 0 0) ∧ Below w.heap.size w w' := by
  go_enter Tryz.func50, Tryz.ntmps50
  go_wp2_with fail
  go_ret
  refine ⟨w.heap.size, rfl, Nat.le_refl _, ?_, ?_⟩
  · exact heap_alloc_last _ _
  · repeat (first | exact Below.refl _ _ | assumption | refine Below.drew ?_ | refine ext_drewN ?_ _ | refine ext_alloc ?_ _ | refine Below.setCell ?_ (by (try simp only [World.size_alloc, World.size_setCell, World.size_drew]); omega) _ | refine ext_step ?_ (by assumption))
theorem infoTm : (Tryz.prog.info? 62).map (fun i => (i.zero, i.size, i.bytes)) = some (some (.pointer none), 1, 8) := by kernel_rfl
def opWords : List (List UInt8) := [[99, 111, 112, 121], [107, 101, 121], [99, 111, 110, 115, 116], [100, 101, 108], [105, 110, 115], [], [], [], [115, 119, 97, 112], [], [105, 110, 118], [100, 105, 99, 116], [108, 101, 102, 116], [114, 105, 103, 104, 116], [107, 101, 101, 112], [110, 111, 114, 109]]
def wordT (op : Int) : List UInt8 := if 2 ≤ op ∧ op ≤ 17 then opWords.getD (op - 2).toNat [] else []
/-- the words lie where they were laid -/
def WordsAt (w : World) : Prop := ∀ i, i < 16 → w.cell? ⟨0, i, none⟩ = some (.string ⟨(opWords.getD i []).toArray⟩)
theorem WordsAt.later {w w1 : World} (h : WordsAt w) (hb : Below w.heap.size w w1) : WordsAt w1 := fun i hi => by
  have hc := h i hi
  have := World.block_lt_of_cell? w _ hc
  rw [hb.cell (p := ⟨_, i, none⟩) this]; exact hc
set_option maxHeartbeats 2000000 in
theorem Word_op (op : Int) (w : World) (hW : WordsAt w) : Calls Tryz.prog 86 #[.int .i64 op] w fun e w' => e = .returned (.string ⟨(wordT op).toArray⟩) ∧ w' = w := by
  by_cases h2 : op < 2
  · have HQ : Hid (wordT op = []) := by show _ = _; unfold wordT; rw [if_neg (by omega)]
    rw [HQ.out]
    go_enter Tryz.func86, Tryz.ntmps86
    go_wp2_with fail
    go_ret
    exact ⟨rfl, rfl⟩
  · by_cases h17 : 17 < op
    · have HQ : Hid (wordT op = []) := by show _ = _; unfold wordT; rw [if_neg (by omega)]
      rw [HQ.out]
      go_enter Tryz.func86, Tryz.ntmps86
      go_wp2_with fail
      go_ret
      exact ⟨rfl, rfl⟩
    · have HQ : Hid (wordT op = opWords.getD (op - 2).toNat []) := by show _ = _; unfold wordT; rw [if_pos (by omega)]
      rw [HQ.out]
      have hc := hW (op - 2).toNat (by omega)
      generalize opWords.getD (op - 2).toNat [] = x at *
      have h2' : decide (op < 2) = false := decide_eq_false h2
      have h17' : decide (17 < op) = false := decide_eq_false h17
      have h2i : 2 ≤ op := by omega
      have h17i : op ≤ 17 := by omega
      clear hW
      go_enter Tryz.func86, Tryz.ntmps86
      go_wp2_with fail
      go_ret
      exact ⟨rfl, rfl⟩
end Go.Proofs.YtgamknphlmcgnaaGreatDoor
end
section
set_option linter.unusedSimpArgs false
set_option linter.unusedVariables false
set_option maxRecDepth 100000
set_option linter.unnecessarySimpa false
namespace Go.Proofs.YtgamknphlmcgnaaGreatDoor
open Go.RowKit
inductive TA where
  | node (b op : Nat) (at_ : Int) (name : List UInt8) (re : Option RE) (text back : List UInt8) (kids : List TA)
namespace TA
def b : TA → Nat | node b _ _ _ _ _ _ _ => b
def op : TA → Nat | node _ o _ _ _ _ _ _ => o
def at_ : TA → Int | node _ _ a _ _ _ _ _ => a
def name : TA → List UInt8 | node _ _ _ n _ _ _ _ => n
def re : TA → Option RE | node _ _ _ _ r _ _ _ => r
def text : TA → List UInt8 | node _ _ _ _ _ t _ _ => t
def back : TA → List UInt8 | node _ _ _ _ _ _ t _ => t
def kids : TA → List TA | node _ _ _ _ _ _ _ k => k
def none : TA := node 0 0 0 [] Option.none [] [] []
mutual
def size : TA → Nat | node _ _ _ _ _ _ _ ks => 1 + sizes ks
def sizes : List TA → Nat | [] => 0 | k :: ks => size k + sizes ks
end
mutual
/-- what a term weighs: its text is no longer -/
def wt : TA → Nat | node _ _ _ n r t k ks => 100 + n.length + 2404 * (1 + RE.sizeO r) + 4 * t.length + 4 * k.length + wts ks
def wts : List TA → Nat | [] => 0 | k :: ks => wt k + wts ks
end
mutual
def ok : TA → Prop | node _ o _ _ r _ _ ks => (o < 18 ∧ (∀ x, r = some x → RE.nf x) ∧ (o = 10 ∨ o = 12 ∨ o = 13 ∨ o = 14 ∨ o = 15 → ks ≠ [])) ∧ oks ks
def oks : List TA → Prop | [] => True | k :: ks => ok k ∧ oks ks
end
theorem mem_sizes {l : List TA} {r : TA} (h : r ∈ l) : r.size ≤ sizes l := by
  induction l with
  | nil => simp at h
  | cons a l ih =>
    rcases List.mem_cons.1 h with rfl | h
    · simp [sizes]
    · have := ih h; simp [sizes]; omega
theorem size_eq (t : TA) : t.size = 1 + sizes t.kids := by cases t; rfl
/-- how closely a term's parts hold together -/
def lvl (o : Nat) : Nat := if o = 7 then 0 else if o = 8 then 1 else if o = 11 then 2 else if o = 9 then 3 else 4
/-- an op's word -/
def word (o : Nat) : List UInt8 := wordT (o : Int)
mutual
/-- a term as it is written -/
def str : TA → List UInt8
  | node _ o _ n r t k ks =>
    if o = 0 then n else if o = 1 then [47] ++ RE.ofO r ++ [47] else if o = 2 ∨ o = 16 then word o ++ [32] ++ arg r ks
    else if o = 3 then [107, 101, 121, 32] ++ n ++ [32] ++ arg r ks
    else if o = 4 then [99, 111, 110, 115, 116, 32] ++ arg r ks ++ [32] ++ quoteW t ++ [32] ++ quoteW k
    else if o = 5 then [100, 101, 108, 32] ++ arg r ks ++ [32] ++ quoteW k
    else if o = 17 then [110, 111, 114, 109, 32] ++ arg r ks ++ [32] ++ quoteW t
    else if o = 6 then [105, 110, 115, 32] ++ quoteW t
    else if o = 7 then pair [32, 124, 32] 0 ks else if o = 8 then pair [32, 46, 32] 1 ks else if o = 11 then pair [32, 59, 32] 2 ks
    else if o = 9 then star ks else word o ++ [40] ++ Lib.join (strs ks) [44, 32] ++ [41]
def arg (r : Option RE) : List TA → List UInt8
  | [] => [47] ++ RE.ofO r ++ [47]
  | [k] => str k
  | _ :: _ :: _ => [47] ++ RE.ofO r ++ [47]
def pair (sign : List UInt8) (l : Nat) : List TA → List UInt8
  | [] => [40, 41]
  | [_] => [40, 41]
  | [x, y] => (if lvl x.op < l then [40] ++ str x ++ [41] else str x) ++ sign ++ (if lvl y.op < l + 1 then [40] ++ str y ++ [41] else str y)
  | _ :: _ :: _ :: _ => [40, 41]
def star : List TA → List UInt8
  | [] => [40, 41]
  | [k] => (if lvl k.op < 3 then [40] ++ str k ++ [41] else str k) ++ [42]
  | _ :: _ :: _ => [40, 41]
def strs : List TA → List (List UInt8)
  | [] => []
  | k :: ks => str k :: strs ks
end
end TA
/-- the cells of a term -/
def tmCells (op : Nat) (at_ : Int) (name : List UInt8) (rv : Value) (text back : List UInt8) (kv : Value) : Array Value :=
  #[.int .i64 op, .int .i64 at_, .string ⟨name.toArray⟩, rv, .string ⟨text.toArray⟩, .string ⟨back.toArray⟩, kv]
/-- pointers to terms in a row -/
def RowT (w : World) (kp : Option Addr) (bs : List Nat) : Prop := bs = [] ∨ ∃ kb ko cur fr, kp = some ⟨kb, ko, none⟩ ∧ w.heap[kb]? = some (.cells cur 62 fr) ∧ ∀ i, i < bs.length → w.cell? ⟨kb, ko + i, none⟩ = some (ptr (bs.getD i 0))
theorem RowT.keep {w w' : World} {kp : Option Addr} {bs : List Nat} (h : RowT w kp bs) (hw : ∀ kb ko cur fr, kp = some ⟨kb, ko, none⟩ → w.heap[kb]? = some (.cells cur 62 fr) → w'.heap[kb]? = w.heap[kb]?) : RowT w' kp bs := by
  rcases h with h | ⟨kb, ko, cur, fr, h1, h2, h3⟩
  · exact .inl h
  · have e := hw kb ko cur fr h1 h2
    exact .inr ⟨kb, ko, cur, fr, h1, e.trans h2, fun i hi => by rw [World.cell?_of_block (w := w) (w' := w') (a := ⟨kb, ko + i, none⟩) e]; exact h3 i hi⟩
/-- a node of a term in memory -/
def NodeT (w : World) (t : TA) (rv : Value) (kp : Option Addr) (cap : Nat) : Prop :=
  w.heap[t.b]? = some (.cells (tmCells t.op t.at_ t.name rv t.text t.back (.slice kp t.kids.length cap)) 68 (0, 0)) ∧ IsReO w rv t.re ∧ RowT w kp (t.kids.map TA.b)
mutual
/-- a term in memory -/
def IsTa (w : World) : TA → Prop | .node b o a n r t k ks => (∃ rv kp cap, NodeT w (.node b o a n r t k ks) rv kp cap) ∧ IsTas w ks
def IsTas (w : World) : List TA → Prop | [] => True | k :: ks => IsTa w k ∧ IsTas w ks
end
theorem IsTas_iff (w : World) (l : List TA) : IsTas w l ↔ ∀ t ∈ l, IsTa w t := by
  induction l with
  | nil => simp [IsTas]
  | cons a l ih => simp [IsTas, ih]
theorem IsTa.open {w : World} {t : TA} (h : IsTa w t) : (∃ rv kp cap, NodeT w t rv kp cap) ∧ ∀ k ∈ t.kids, IsTa w k := by
  cases t; exact ⟨h.1, (IsTas_iff _ _).1 h.2⟩
theorem IsTa.mk {w : World} {t : TA} {rv : Value} {kp : Option Addr} {cap : Nat} (h : NodeT w t rv kp cap) (hk : ∀ k ∈ t.kids, IsTa w k) : IsTa w t := by
  cases t; exact ⟨⟨rv, kp, cap, h⟩, (IsTas_iff _ _).2 hk⟩
mutual
theorem IsTa.later {w w' : World} (hb : Below w.heap.size w w') : (t : TA) → IsTa w t → IsTa w' t
  | .node b o a n r t k ks, h => by
    obtain ⟨⟨rv, kp, cap, h1, h2, h3⟩, h4⟩ := h
    exact ⟨⟨rv, kp, cap, (hb.block _ (Array.getElem?_eq_some_iff.1 h1).1).trans h1, h2.later hb, h3.keep fun kb _ _ _ _ hc => hb.block kb (Array.getElem?_eq_some_iff.1 hc).1⟩, IsTas.later hb ks h4⟩
theorem IsTas.later {w w' : World} (hb : Below w.heap.size w w') : (l : List TA) → IsTas w l → IsTas w' l
  | [], _ => trivial
  | k :: l, h => ⟨IsTa.later hb k h.1, IsTas.later hb l h.2⟩
end
mutual
/-- what is written into a block of another kind leaves a term as it is -/
theorem IsTa.put {w w' : World} {c : Nat} {cs : Array Value} {T : TypeId} {fr : Nat × Nat} (hc : w.heap[c]? = some (.cells cs T fr)) (h1 : T ≠ 117) (h2 : T ≠ 28) (h3 : T ≠ 68) (h4 : T ≠ 62) (hw : ∀ k, k < w.heap.size → k ≠ c → w'.heap[k]? = w.heap[k]?) : (t : TA) → IsTa w t → IsTa w' t
  | .node b o a n r t k ks, h => by
    obtain ⟨⟨rv, kp, cap, g1, g2, g3⟩, g4⟩ := h
    refine ⟨⟨rv, kp, cap, (hw _ (Array.getElem?_eq_some_iff.1 g1).1 fun e => ?_).trans g1, g2.put hc h1 h2 hw, g3.keep fun kb _ _ _ _ hr => hw kb (Array.getElem?_eq_some_iff.1 hr).1 fun e => ?_⟩, IsTas.put hc h1 h2 h3 h4 hw ks g4⟩
    · rw [e, hc] at g1
      have := Option.some.inj g1
      injection this with _ e2 _
      exact h3 e2
    · rw [e, hc] at hr
      have := Option.some.inj hr
      injection this with _ e2 _
      exact h4 e2
theorem IsTas.put {w w' : World} {c : Nat} {cs : Array Value} {T : TypeId} {fr : Nat × Nat} (hc : w.heap[c]? = some (.cells cs T fr)) (h1 : T ≠ 117) (h2 : T ≠ 28) (h3 : T ≠ 68) (h4 : T ≠ 62) (hw : ∀ k, k < w.heap.size → k ≠ c → w'.heap[k]? = w.heap[k]?) : (l : List TA) → IsTas w l → IsTas w' l
  | [], _ => trivial
  | k :: l, h => ⟨IsTa.put hc h1 h2 h3 h4 hw k h.1, IsTas.put hc h1 h2 h3 h4 hw l h.2⟩
end
/-- what a node's cells hold -/
theorem NodeT.cells {w : World} {t : TA} {rv : Value} {kp : Option Addr} {cap : Nat} (h : NodeT w t rv kp cap) :
    w.cell? ⟨t.b, 0, none⟩ = some (.int .i64 (t.op : Nat)) ∧ w.cell? ⟨t.b, 1, none⟩ = some (.int .i64 t.at_) ∧ w.cell? ⟨t.b, 2, none⟩ = some (.string ⟨t.name.toArray⟩) ∧ w.cell? ⟨t.b, 3, none⟩ = some rv ∧
    w.cell? ⟨t.b, 4, none⟩ = some (.string ⟨t.text.toArray⟩) ∧ w.cell? ⟨t.b, 5, none⟩ = some (.string ⟨t.back.toArray⟩) ∧ w.cell? ⟨t.b, 6, none⟩ = some (.slice kp t.kids.length cap) :=
  ⟨by rw [cell_of_row _ _ _ _ _ _ h.1]; rfl, by rw [cell_of_row _ _ _ _ _ _ h.1]; rfl, by rw [cell_of_row _ _ _ _ _ _ h.1]; rfl, by rw [cell_of_row _ _ _ _ _ _ h.1]; rfl, by rw [cell_of_row _ _ _ _ _ _ h.1]; rfl, by rw [cell_of_row _ _ _ _ _ _ h.1]; rfl, by rw [cell_of_row _ _ _ _ _ _ h.1]; rfl⟩
theorem RowT.at {w : World} {kp : Option Addr} {ks : List TA} (h : RowT w kp (ks.map TA.b)) (hne : ks ≠ []) : ∃ kb ko, kp = some ⟨kb, ko, none⟩ ∧ ∀ i, i < ks.length → w.cell? ⟨kb, ko + i, none⟩ = some (.pointer (some ⟨(ks.getD i TA.none).b, 0, none⟩)) := by
  rcases h with h | ⟨kb, ko, _, _, h1, _, h3⟩
  · exact absurd (List.map_eq_nil_iff.1 h) hne
  · refine ⟨kb, ko, h1, fun i hi => ?_⟩
    have := h3 i (by simpa using hi)
    simpa [List.getD, hi] using this
end Go.Proofs.YtgamknphlmcgnaaGreatDoor
end
section
set_option linter.unusedSimpArgs false
set_option linter.unusedVariables false
set_option maxRecDepth 100000
set_option linter.unnecessarySimpa false
namespace Go.Proofs.YtgamknphlmcgnaaGreatDoor
namespace PR
/-- what a part of the parser leaves: what it made, the tokens left, how many terms there are; or an error, and where it is -/
inductive Res (α : Type) where
  | ok (a : α) (rest : List LT) (c : Nat)
  | bad (e at_ : Nat)
def Res.bind {α β : Type} (r : Res α) (f : α → List LT → Nat → Res β) : Res β := match r with | .ok a ts c => f a ts c | .bad e p => .bad e p
def hd (ts : List LT) : LT := ts.headD lt0
def stp (ts : List LT) : List LT := if (hd ts).kind = 0 then ts else ts.tail
def isT (ts : List LT) (k : Nat) (s : List UInt8) : Bool := (hd ts).kind == k && (hd ts).text == s
def form {α : Type} (ts : List LT) : Res α := .bad 2 (hd ts).at_
def want (s : List UInt8) (ts : List LT) (c : Nat) : Res Unit := if isT ts 2 s = true then .ok () (stp ts) c else form ts
def opn (g : Nat) (ts : List LT) (c : Nat) : Res Unit := if isT ts 2 [40] = true then (if g = 0 then .bad 4 (hd ts).at_ else .ok () (stp ts) c) else form ts
def cnt (p : Nat) (ts : List LT) (c : Nat) : Res Unit := if 1000 < c + 1 then .bad 3 p else .ok () ts (c + 1)
def nm (ts : List LT) (c : Nat) : Res LT := if (hd ts).kind = 1 ∧ LX.nameB (hd ts).text = true then .ok (hd ts) (stp ts) c else form ts
def quo (ts : List LT) (c : Nat) : Res (List UInt8) := if (hd ts).kind = 3 then .ok (hd ts).text (stp ts) c else form ts
def big (r : Option RE) : Bool := decide (300 < RE.sizeO r) || decide (50 < deepW (RE.ofO r))
def expr (ts : List LT) (c : Nat) : Res (Option RE) := if (hd ts).kind = 4 then (if big (hd ts).re = true then .bad 3 (hd ts).at_ else .ok (hd ts).re (stp ts) c) else form ts
def nameT (n : LT) : TA := TA.node 0 0 (n.at_ : Nat) n.text none [] [] []
/-- a name as a term -/
def nmT (ts : List LT) (c : Nat) : Res TA := (nm ts c).bind fun n ts c => (cnt n.at_ ts c).bind fun _ ts c => .ok (nameT n) ts c
def arg (ts : List LT) (c : Nat) : Res (Option RE × List TA) := if (hd ts).kind = 4 then (expr ts c).bind fun r ts c => .ok (r, []) ts c else (nmT ts c).bind fun n ts c => .ok (none, [n]) ts c
def plain (o a : Nat) (ts : List LT) (c : Nat) : Res TA :=
  (cnt a ts c).bind fun _ ts c =>
  (if o = 3 then (nm ts c).bind fun n ts c => .ok n.text ts c else .ok [] ts c).bind fun n ts c =>
  (if o ≠ 6 then arg ts c else .ok (none, []) ts c).bind fun ra ts c =>
  (if o = 4 ∨ o = 6 ∨ o = 17 then quo ts c else .ok [] ts c).bind fun t ts c =>
  (if o = 4 ∨ o = 5 then quo ts c else .ok [] ts c).bind fun k ts c => .ok (TA.node 0 o (a : Nat) n ra.1 t k ra.2) ts c
/-- terms with commas between: so many more, behind those -/
def callGo (rec : List LT → Nat → Res TA) : Nat → List TA → List LT → Nat → Res (List TA)
  | 0, ks, ts, c => .ok ks ts c
  | n + 1, ks, ts, c => (if ks.isEmpty = true then .ok () ts c else want [44] ts c).bind fun _ ts c => (rec ts c).bind fun x ts c => callGo rec n (ks ++ [x]) ts c
def call (o a n g : Nat) (rec : List LT → Nat → Res TA) (ts : List LT) (c : Nat) : Res TA :=
  (cnt a ts c).bind fun _ ts c => (opn g ts c).bind fun _ ts c => (callGo rec n [] ts c).bind fun ks ts c =>
  (want [41] ts c).bind fun _ ts c => .ok (TA.node 0 o (a : Nat) [] none [] [] ks) ts c
/-- which op a word is -/
def opGo (s : List UInt8) : Nat → Nat → Option Nat
  | 0, _ => none
  | f + 1, o => if TA.word o = s then some o else opGo s f (o + 1)
def opOf (s : List UInt8) : Option Nat := opGo s 16 2
def word (g : Nat) (rec : List LT → Nat → Res TA) (ts : List LT) (c : Nat) : Res TA :=
  match opOf (hd ts).text with
  | some o => if o = 10 ∨ o = 14 ∨ o = 15 then call o (hd ts).at_ 2 g rec (stp ts) c else if o = 12 ∨ o = 13 then call o (hd ts).at_ 1 g rec (stp ts) c else plain o (hd ts).at_ (stp ts) c
  | none => nmT ts c
def atom (g : Nat) (rec : List LT → Nat → Res TA) (ts : List LT) (c : Nat) : Res TA :=
  if (hd ts).kind = 1 then word g rec ts c
  else if (hd ts).kind = 4 then (cnt (hd ts).at_ ts c).bind fun _ ts1 c => (expr ts1 c).bind fun r ts2 c => .ok (TA.node 0 1 ((hd ts).at_ : Nat) [] r [] [] []) ts2 c
  else if isT ts 2 [40] = true then (opn g ts c).bind fun _ ts c => (rec ts c).bind fun x ts c => (want [41] ts c).bind fun _ ts c => .ok x ts c
  else form ts
def starGo : Nat → TA → List LT → Nat → Res TA
  | 0, t, ts, c => .ok t ts c
  | n + 1, t, ts, c => if isT ts 2 [42] = true then (cnt (hd ts).at_ (stp ts) c).bind fun _ ts1 c => starGo n (TA.node 0 9 ((hd ts).at_ : Nat) [] none [] [] [t]) ts1 c else .ok t ts c
def star (g : Nat) (rec : List LT → Nat → Res TA) (ts : List LT) (c : Nat) : Res TA := (atom g rec ts c).bind fun t ts c => starGo ts.length t ts c
def chGo (sg : UInt8) (o : Nat) (nx : List LT → Nat → Res TA) : Nat → TA → List LT → Nat → Res TA
  | 0, t, ts, c => .ok t ts c
  | n + 1, t, ts, c => if isT ts 2 [sg] = true then (cnt (hd ts).at_ (stp ts) c).bind fun _ ts1 c => (nx ts1 c).bind fun y ts2 c => chGo sg o nx n (TA.node 0 o ((hd ts).at_ : Nat) [] none [] [] [t, y]) ts2 c else .ok t ts c
def chL (sg : UInt8) (o : Nat) (nx : List LT → Nat → Res TA) (ts : List LT) (c : Nat) : Res TA := (nx ts c).bind fun t ts c => chGo sg o nx ts.length t ts c
def sgn (l : Nat) : UInt8 := if l = 0 then 124 else if l = 1 then 46 else 59
def opc (l : Nat) : Nat := if l = 0 then 7 else if l = 1 then 8 else 11
/-- terms with signs between: from so many levels below the stars on -/
def chN (g : Nat) (rec : List LT → Nat → Res TA) : Nat → List LT → Nat → Res TA
  | 0 => star g rec
  | k + 1 => chL (sgn (2 - k)) (opc (2 - k)) (chN g rec k)
def chain : Nat → List LT → Nat → Res TA
  | 0 => chN 0 (fun ts _ => form ts) 3
  | g + 1 => chN (g + 1) (chain g) 3
/-- a name, where it stands, and what it stands for -/
structure LetT where
  name : List UInt8
  at_ : Nat
  term : TA
def letW : List UInt8 := [108, 101, 116]
def inW : List UInt8 := [105, 110]
def progGo : Nat → List LetT → List LT → Nat → Res (List LetT × TA)
  | 0, _, ts, _ => form ts
  | n + 1, ls, ts, c =>
    if isT ts 1 letW = true then
      if ls.length = 200 then .bad 3 (hd ts).at_
      else (nm (stp ts) c).bind fun x ts c => (want [61] ts c).bind fun _ ts c => (chain 60 ts c).bind fun t ts c =>
        if isT ts 1 inW = true then progGo n (ls ++ [⟨x.text, x.at_, t⟩]) (stp ts) c else form ts
    else (chain 60 ts c).bind fun b ts c => if (hd ts).kind = 0 then .ok (ls, b) ts c else form ts
def prog (ts : List LT) : Res (List LetT × TA) := progGo ts.length [] ts 0
end PR
/-- the program that a text is; the error, and where it is -/
def parseW (s : List UInt8) : Option (List PR.LetT × TA) × Nat × Nat :=
  if (lexW s).2.1 ≠ 0 then (none, (lexW s).2.1, (lexW s).2.2)
  else match PR.prog (lexW s).1 with
    | .ok r _ _ => (some r, 0, 0)
    | .bad e a => (none, e, a)
end Go.Proofs.YtgamknphlmcgnaaGreatDoor
end
section
set_option linter.unusedSimpArgs false
set_option linter.unusedVariables false
set_option maxRecDepth 100000
set_option linter.unnecessarySimpa false
set_option maxRecDepth 100000
set_option linter.unnecessarySimpa false
namespace Go.Proofs.YtgamknphlmcgnaaGreatDoor
open Go.RowKit
namespace TA
mutual
def zero : TA → TA | node _ o a n r t k ks => node 0 o a n r t k (zeros ks)
def zeros : List TA → List TA | [] => [] | k :: ks => zero k :: zeros ks
end
mutual
/-- the blocks of a term's nodes, each ahead of its parts' -/
def blocks : TA → List Nat | node b _ _ _ _ _ _ ks => b :: blockss ks
def blockss : List TA → List Nat | [] => [] | k :: ks => blocks k ++ blockss ks
end
theorem blocks_eq (t : TA) : t.blocks = t.b :: blockss t.kids := by cases t; rfl
theorem mem_blockss {l : List TA} {k : TA} (h : k ∈ l) : ∀ c ∈ k.blocks, c ∈ blockss l := by
  induction l with
  | nil => simp at h
  | cons a l ih =>
    intro c hc
    rcases List.mem_cons.1 h with rfl | h
    · simp [blockss, hc]
    · simp [blockss, ih h c hc]
end TA
mutual
/-- what is written into the block of another term leaves a term as it is -/
theorem IsTa.putT {w w' : World} {c : Nat} {cs : Array Value} {fr : Nat × Nat} (hc : w.heap[c]? = some (.cells cs 68 fr)) (hw : ∀ k, k < w.heap.size → k ≠ c → w'.heap[k]? = w.heap[k]?) : (t : TA) → c ∉ t.blocks → IsTa w t → IsTa w' t
  | .node b o a n r t k ks, hn, h => by
    obtain ⟨⟨rv, kp, cap, g1, g2, g3⟩, g4⟩ := h
    simp only [TA.blocks, List.mem_cons, not_or] at hn
    refine ⟨⟨rv, kp, cap, (hw _ (Array.getElem?_eq_some_iff.1 g1).1 fun e => hn.1 e.symm).trans g1, g2.put hc (by decide) (by decide) hw, g3.keep fun kb _ _ _ _ hr => hw kb (Array.getElem?_eq_some_iff.1 hr).1 fun e => ?_⟩, IsTas.putT hc hw ks hn.2 g4⟩
    rw [e, hc] at hr
    have := Option.some.inj hr
    injection this with _ e2 _
    exact absurd e2 (by decide)
theorem IsTas.putT {w w' : World} {c : Nat} {cs : Array Value} {fr : Nat × Nat} (hc : w.heap[c]? = some (.cells cs 68 fr)) (hw : ∀ k, k < w.heap.size → k ≠ c → w'.heap[k]? = w.heap[k]?) : (l : List TA) → c ∉ TA.blockss l → IsTas w l → IsTas w' l
  | [], _, _ => trivial
  | k :: l, hn, h => by
    simp only [TA.blockss, List.mem_append, not_or] at hn
    exact ⟨IsTa.putT hc hw k hn.1 h.1, IsTas.putT hc hw l hn.2 h.2⟩
end
/-- what is written into a term's block leaves expressions as they are -/
theorem re_putT {W : World} {b j : Nat} {cs : Array Value} {v : Value} (h : W.heap[b]? = some (.cells cs 68 (0, 0))) {rv : Value} {re : Option RE} (hr : IsReO W rv re) : IsReO (W.setCell ⟨b, j, none⟩ v) rv re :=
  hr.put h (by decide) (by decide) fun k _ hk => Below.heap_setCell _ _ _ _ hk
theorem TA.of_blockss {l : List TA} {c : Nat} (h : c ∈ TA.blockss l) : ∃ t ∈ l, c ∈ t.blocks := by
  induction l with
  | nil => simp [TA.blockss] at h
  | cons a l ih =>
    simp only [TA.blockss, List.mem_append] at h
    rcases h with h | h
    · exact ⟨a, by simp, h⟩
    · obtain ⟨t, h1, h2⟩ := ih h
      exact ⟨t, by simp [h1], h2⟩
end Go.Proofs.YtgamknphlmcgnaaGreatDoor
end
