/-
  The next token: walked through the program.
-/
import Derived.Test.YticpjjmacmmpjaaGreatDoorLxQ
import Derived.WalkMore
import Derived.Deep.LoopGhost
set_option linter.unusedSimpArgs false
set_option linter.unusedVariables false
set_option maxRecDepth 100000
set_option linter.unnecessarySimpa false
namespace Go.Proofs.YticpjjmacmmpjaaGreatDoor
open Go.RowKit
theorem skip_drop (s : List UInt8) (j : Nat) (h : j < s.length) : s.drop j = s.getD j 0 :: s.drop (j + 1) := by
  rw [List.drop_eq_getElem_cons h]; congr 1; simp [List.getD, h]
theorem skip_ws (s : List UInt8) (j : Nat) (h : j < s.length) (hc : s.getD j 0 = 32 ∨ s.getD j 0 = 9 ∨ s.getD j 0 = 10 ∨ s.getD j 0 = 13) : j + LX.skipS false (s.drop j) = (j + 1) + LX.skipS false (s.drop (j + 1)) := by
  rw [skip_drop s j h, LX.skipS, if_pos hc]; omega
theorem skip_rem (s : List UInt8) (j : Nat) (h : j < s.length) (hc : ¬ (s.getD j 0 = 32 ∨ s.getD j 0 = 9 ∨ s.getD j 0 = 10 ∨ s.getD j 0 = 13)) (h35 : s.getD j 0 = 35) : j + LX.skipS false (s.drop j) = j + LX.skipS true (s.drop j) := by
  have e1 : LX.skipS false (s.getD j 0 :: s.drop (j + 1)) = LX.skipS true (s.drop (j + 1)) + 1 := by rw [LX.skipS, if_neg hc, if_pos h35]
  have e2 : LX.skipS true (s.getD j 0 :: s.drop (j + 1)) = LX.skipS true (s.drop (j + 1)) + 1 := by rw [LX.skipS, if_neg (by rw [h35]; decide)]
  rw [skip_drop s j h, e1, e2]
theorem skip_stop (s : List UInt8) (j : Nat) (h : j < s.length) (hc : ¬ (s.getD j 0 = 32 ∨ s.getD j 0 = 9 ∨ s.getD j 0 = 10 ∨ s.getD j 0 = 13)) (h35 : s.getD j 0 ≠ 35) : j + LX.skipS false (s.drop j) = j := by
  rw [skip_drop s j h, LX.skipS, if_neg hc, if_neg h35]; rfl
theorem skip_end (s : List UInt8) (j : Nat) (h : s.length ≤ j) (c : Bool) : j + LX.skipS c (s.drop j) = j := by
  rw [List.drop_eq_nil_of_le h]; cases c <;> simp [LX.skipS]
theorem rem_in (s : List UInt8) (j : Nat) (h : j < s.length) (hc : s.getD j 0 ≠ 10) : j + LX.skipS true (s.drop j) = (j + 1) + LX.skipS true (s.drop (j + 1)) := by
  rw [skip_drop s j h, LX.skipS, if_neg hc]; omega
theorem rem_out (s : List UInt8) (j : Nat) (h : j < s.length) (hc : s.getD j 0 = 10) : j + LX.skipS true (s.drop j) = j + LX.skipS false (s.drop j) := by
  have e1 : LX.skipS true (s.getD j 0 :: s.drop (j + 1)) = LX.skipS false (s.drop (j + 1)) + 1 := by rw [LX.skipS, if_pos hc]
  have e2 : LX.skipS false (s.getD j 0 :: s.drop (j + 1)) = LX.skipS false (s.drop (j + 1)) + 1 := by rw [LX.skipS, if_pos (.inr (.inr (.inl hc)))]
  rw [skip_drop s j h, e1, e2]
theorem token_at (s : List UInt8) (j : Nat) (h : j < s.length) : LX.token s j =
    if LX.letter (s.getD j 0) true then
      if 30 < LX.nameN (s.drop j) then (⟨1, (s.drop j).take (LX.nameN (s.drop j)), none, j⟩, 3, j) else (⟨1, (s.drop j).take (LX.nameN (s.drop j)), none, j⟩, 0, j + LX.nameN (s.drop j))
    else if LX.signs.contains (s.getD j 0) then (⟨2, [s.getD j 0], none, j⟩, 0, j + 1)
    else if s.getD j 0 = 34 then LX.quoted s j (s.drop (j + 1))
    else if s.getD j 0 = 47 then LX.expr s j (s.drop (j + 1))
    else (⟨0, [], none, j⟩, 2, j) := by
  unfold LX.token
  rw [skip_drop s j h]
theorem name_in (s : List UInt8) (i : Nat) (h : i < s.length) (hc : LX.letter (s.getD i 0) false = true) : i + LX.nameN (s.drop i) = (i + 1) + LX.nameN (s.drop (i + 1)) := by
  rw [skip_drop s i h, LX.nameN, if_pos hc]; omega
theorem name_stop (s : List UInt8) (i : Nat) (h : i < s.length) (hc : LX.letter (s.getD i 0) false = false) : i + LX.nameN (s.drop i) = i := by
  rw [skip_drop s i h, LX.nameN, if_neg (by rw [hc]; decide)]; rfl
theorem name_end (s : List UInt8) (i : Nat) (h : s.length ≤ i) : i + LX.nameN (s.drop i) = i := by
  rw [List.drop_eq_nil_of_le h]; rfl
/-- a gap, or a remark, is being passed -/
def GapAt (b : Bool) (w : World) (p : Nat) (s : List UInt8) (R g : Nat) (wr : World) : Prop :=
  ∃ j : Nat, j + g = s.length ∧ LxAt wr p s j ∧ Hid (j + LX.skipS b (s.drop j) = R) ∧ Far p w wr ∧ wr.heap.size = w.heap.size
/-- .. a remark, from a place on -/
def RemAt (w : World) (p : Nat) (s : List UInt8) (R lo g : Nat) (wr : World) : Prop :=
  ∃ j : Nat, lo ≤ j ∧ j + g = s.length ∧ LxAt wr p s j ∧ Hid (j + LX.skipS true (s.drop j) = R) ∧ Far p w wr ∧ wr.heap.size = w.heap.size
theorem u8_eq (c : UInt8) (x : Nat) (hx : x < 256) (d : UInt8) (hd : d.toNat = x) : (((c.toNat : Nat) : Int) == (x : Int)) = decide (c = d) := by
  rw [Bool.eq_iff_iff]
  simp only [beq_iff_eq, decide_eq_true_eq]
  exact ⟨fun h => UInt8.toNat_inj.1 (by omega), fun h => by rw [h]; omega⟩
theorem u8_ne (c d : UInt8) (x : Int) (hx : x = ((d.toNat : Nat) : Int)) (h : c ≠ d) : (((c.toNat : Nat) : Int) == x) = false := by
  subst hx
  rw [beq_eq_false_iff_ne]; exact fun e => h (UInt8.toNat_inj.1 (by omega))
/-- the same, the second token in whatever block -/
structure TkN (w : World) (c1 : Nat) (p : Nat) (s : List UInt8) (a : Nat) (rv : Value) (ro : Option RE) (W : World) : Prop where
  pl : p < w.heap.size
  lx : LxAt W p s a
  far : Far p w W
  t0 : ∃ cs, W.heap[w.heap.size]? = some (.cells cs 40 (0, 0))
  hc1 : w.heap.size < c1
  t1 : ∃ cs, W.heap[c1]? = some (.cells cs 40 (0, 0))
  re : IsReO W rv ro
section
variable {w W W' : World} {c1 p a : Nat} {s : List UInt8} {rv : Value} {ro : Option RE}
theorem TkN.later (h : TkN w c1 p s a rv ro W) (hb : Below W.heap.size W W') : TkN w c1 p s a rv ro W' :=
  ⟨h.pl, h.lx.later hb, h.far.trans (Far.below hb), by obtain ⟨cs, hc⟩ := h.t0; exact ⟨cs, heap_in hc hb⟩, h.hc1, by obtain ⟨cs, hc⟩ := h.t1; exact ⟨cs, heap_in hc hb⟩, h.re.later hb⟩
theorem TkN.with {rv' : Value} {ro' : Option RE} (h : TkN w c1 p s a rv ro W) (hr : IsReO W rv' ro') : TkN w c1 p s a rv' ro' W := ⟨h.pl, h.lx, h.far, h.t0, h.hc1, h.t1, hr⟩
theorem TkN.tok0 (h : TkN w c1 p s a rv ro W) (j : Nat) (v : Value) : TkN w c1 p s a rv ro (W.setCell ⟨w.heap.size, j, none⟩ v) := by
  obtain ⟨cs, hc⟩ := h.t0
  obtain ⟨ds, hd⟩ := h.t1
  have hp := h.pl
  have hc1 := h.hc1
  exact ⟨hp, (Below.heap_setCell _ _ _ _ (by show p ≠ w.heap.size; omega)).trans h.lx, h.far.setNew (Nat.le_refl _) j v, ⟨_, heap_setCell_same _ _ _ _ _ _ hc⟩, hc1, ⟨ds, (Below.heap_setCell _ _ _ _ (by show c1 ≠ w.heap.size; omega)).trans hd⟩, reO_putT hc h.re⟩
theorem TkN.tok1 (h : TkN w c1 p s a rv ro W) (j : Nat) (v : Value) : TkN w c1 p s a rv ro (W.setCell ⟨c1, j, none⟩ v) := by
  obtain ⟨cs, hc⟩ := h.t0
  obtain ⟨ds, hd⟩ := h.t1
  have hp := h.pl
  have hc1 := h.hc1
  exact ⟨hp, (Below.heap_setCell _ _ _ _ (by show p ≠ c1; omega)).trans h.lx, h.far.setNew (Nat.le_of_lt hc1) j v, ⟨cs, (Below.heap_setCell _ _ _ _ (by show w.heap.size ≠ c1; omega)).trans hc⟩, hc1, ⟨_, heap_setCell_same _ _ _ _ _ _ hd⟩, reO_putT hd h.re⟩
theorem TkN.pos (h : TkN w c1 p s a rv ro W) (b : Nat) (v : Int) (hv : v = (b : Nat)) : TkN w c1 p s b rv ro (W.setCell ⟨p, 1, none⟩ (.int .i64 v)) := by
  obtain ⟨cs, hc⟩ := h.t0
  obtain ⟨ds, hd⟩ := h.t1
  have hp := h.pl
  have hc1 := h.hc1
  exact ⟨hp, h.lx.put' b v hv, h.far.set 1 _, ⟨cs, (Below.heap_setCell _ _ _ _ (by show w.heap.size ≠ p; omega)).trans hc⟩, hc1, ⟨ds, (Below.heap_setCell _ _ _ _ (by show c1 ≠ p; omega)).trans hd⟩, h.re.farL h.lx ((Far.refl p W).set 1 _)⟩
end
theorem TkN.first {w wx : World} {p a : Nat} {s : List UInt8} (hpl : p < w.heap.size) (hl : LxAt wx p s a) (hf : Far p w wx) (h0 : ∃ cs, wx.heap[w.heap.size]? = some (.cells cs 40 (0, 0))) (hs : w.heap.size < wx.heap.size) (ds : Array Value) : TkN w wx.heap.size p s a (.pointer none) none (wx.alloc (.cells ds 40)) := by
  obtain ⟨cs, hc⟩ := h0
  exact ⟨hpl, hl.later (re_alloc wx _), hf.trans (Far.below (re_alloc wx _)), ⟨cs, heap_in hc (re_alloc wx _)⟩, hs, ⟨ds, heap_alloc_last wx _⟩, rfl⟩
theorem TkN.post {w W : World} {c1 p a : Nat} {s : List UInt8} {rv : Value} {t : LT} {e : Nat} (h : TkN w c1 p s a rv t.re W) : TokPost p s w (t, e, a) (.returned (.tuple #[tkV t rv, .int .i64 (e : Nat)])) W := ⟨rv, rfl, h.re, h.lx, h.far⟩
theorem TkN.after {w W W' : World} {c1 p a b : Nat} {s : List UInt8} {rv rv' : Value} {ro ro' : Option RE} (h : TkN w c1 p s a rv ro W) (hl : LxAt W' p s b) (hf : Far p W W') (hr : IsReO W' rv' ro') : TkN w c1 p s b rv' ro' W' := by
  obtain ⟨cs, hc⟩ := h.t0
  obtain ⟨ds, hd⟩ := h.t1
  have hp := h.pl
  have hc1 := h.hc1
  exact ⟨hp, hl, h.far.trans hf, ⟨cs, (hf.block _ (Array.getElem?_eq_some_iff.1 hc).1 (fun e => by have := Option.some.inj e; omega)).trans hc⟩, hc1, ⟨ds, (hf.block _ (Array.getElem?_eq_some_iff.1 hd).1 (fun e => by have := Option.some.inj e; omega)).trans hd⟩, hr⟩
theorem sign_str (c : UInt8) (h : LX.signs.contains c = true) : Utf8.encode (wrap32 ((c.toNat : Nat) : Int)) = ⟨[c].toArray⟩ := by
  have hm := List.contains_iff_mem.1 h
  simp only [LX.signs, List.mem_cons, List.not_mem_nil, or_false] at hm
  rcases hm with rfl | rfl | rfl | rfl | rfl | rfl | rfl | rfl <;> decide +kernel
theorem reO_ptr {W : World} {v : Value} {ro : Option RE} (h : IsReO W v ro) : ∃ po, v = .pointer po := by
  cases ro with
  | none => exact ⟨none, h⟩
  | some r => obtain ⟨vb, rfl, _⟩ := h; exact ⟨_, rfl⟩
/-- a name is being passed -/
def NameAt (w : World) (c1 p : Nat) (s : List UInt8) (j E g : Nat) (wr : World) : Prop :=
  ∃ i : Nat, j ≤ i ∧ i + g = s.length ∧ Hid (TkN w c1 p s i (.pointer none) none wr) ∧ Hid (i + LX.nameN (s.drop i) = E) ∧ Hid (wr.heap[w.heap.size]? = some (.cells #[.int .i64 0, .string ⟨#[]⟩, .pointer none, .int .i64 0] 40 (0, 0))) ∧ Hid (wr.heap[c1]? = some (.cells #[.int .i64 0, .string ⟨#[]⟩, .pointer none, .int .i64 (j : Nat)] 40 (0, 0)))
set_option maxRecDepth 100000 in
set_option maxHeartbeats 1600000 in
theorem lxNext_any (w : World) (p a : Nat) (s : List UInt8) (ha : a ≤ s.length) (hs : s.length ≤ 65536) (h : LxAt w p s a) (hT : Tab w) :
    Calls Tryz.prog 53 #[ptr p] w (TokPost p s w (LX.next s a)) := by
  have hpl := h.lt
  have hsz : (⟨s.toArray⟩ : ByteArray).size = s.length := str_size s
  have HT := Lib.hid hT
  have HL0 := Lib.hid h
  have hx1 := re_alloc w (.cells #[.int .i64 0, .string ⟨#[]⟩, .pointer none, .int .i64 0] 40)
  have h0 := heap_alloc_last w (.cells #[.int .i64 0, .string ⟨#[]⟩, .pointer none, .int .i64 0] 40)
  have hw0s : (w.alloc (.cells #[.int .i64 0, .string ⟨#[]⟩, .pointer none, .int .i64 0] 40)).heap.size = w.heap.size + 1 := by simp
  obtain ⟨w0, hw0⟩ : ∃ w0, w0 = w.alloc (.cells #[.int .i64 0, .string ⟨#[]⟩, .pointer none, .int .i64 0] 40) := ⟨_, rfl⟩
  rw [← hw0] at hx1 h0 hw0s
  have HX1 := Lib.hid hx1
  have HZ := Lib.hid h0
  have HW0 := Lib.hid hw0s
  have hgap : GapAt false w0 p s (a + LX.skipS false (s.drop a)) (s.length - a) w0 := ⟨a, by omega, h.later hx1, rfl, Far.refl _ _, rfl⟩
  have HGAP := Lib.hid hgap
  have HOUT : Hid (LX.next s a = LX.token s (a + LX.skipS false (s.drop a))) := rfl
  rw [HOUT.out]
  have hRle : a + LX.skipS false (s.drop a) ≤ s.length := by have := LX.skipS_le (s.drop a) false; rw [List.length_drop] at this; omega
  generalize a + LX.skipS false (s.drop a) = R at *
  obtain ⟨OUT, hO⟩ : ∃ OUT, LX.token s R = OUT := ⟨_, rfl⟩
  have HOT := Lib.hid hO
  rw [hO]
  clear h hT hx1 hgap HOUT h0 hw0s hO
  go_enter Tryz.func53, Tryz.ntmps53
  go_wp2_with fail
  rw [← hw0]
  clear hw0
  go_step3
  go_wp2_with fail
  go_step3
  go_wp2_with fail
  go_loopg [] (s.length - a) (fun g wr => GapAt false w0 p s R g wr)
  case atStart => exact HGAP.out
  case round =>
    clear HGAP
    obtain ⟨j, hj, hlx, hgo, hfar, hws⟩ := hrel
    obtain ⟨c0, c1⟩ := hlx.cells
    have f1 := hlx.frz 1
    have HLXwr := Lib.hid hlx
    have HFARwr := Lib.hid hfar
    have HWSwr := Lib.hid hws
    clear hlx hfar hws
    cases gk with
    | zero =>
      have hjl : j = s.length := by omega
      have HR : Hid (R = s.length) := by show _ = _; rw [← hgo.out, skip_end s j (by omega) false, hjl]
      have h1 : ¬ (j : Int) < (s.length : Nat) := by omega
      have h2 : ((j : Int) == ((s.length : Nat) : Int)) = true := by rw [hjl]; simp
      have HO : Hid (OUT = (⟨0, [], none, s.length⟩, 0, s.length)) := by
        show _ = _
        rw [← HOT.out]
        unfold LX.token
        rw [List.drop_eq_nil_of_le (by have := HR.out; omega), HR.out]
      subst hjl
      generalize hS : (⟨s.toArray⟩ : ByteArray) = S at *
      have HS := Lib.hid hS
      clear hS
      go_wp2_with fail
      go_quiet (fail)
      have HLXwx := Lib.hid (HLXwr.out.drew nq)
      have HFARwx := Lib.hid (HFARwr.out.drew nq)
      have HWSwx : Hid ((wr.drewN nq).heap.size = w0.heap.size) := by show _ = _; rw [← HWSwr.out]; simp
      clear c0 c1 f1
      generalize wr.drewN nq = wx at *
      obtain ⟨c0, c1⟩ := HLXwx.out.cells
      rw [HS.out] at c0
      have f1 := HLXwx.out.frz 1
      have hz0 := (HFARwx.out.block _ (by have := HW0.out; omega) (fun e => by have := Option.some.inj e; omega)).trans HZ.out
      have hwx : w.heap.size < wx.heap.size := by have h1 := HWSwx.out; have h2 := HW0.out; omega
      have hpn : p ≠ wx.heap.size := by omega
      have hpw : p ≠ w.heap.size := by omega
      have hwn : w.heap.size ≠ wx.heap.size := by omega
      have htn : TkN w wx.heap.size p s s.length (.pointer none) none (wx.alloc (.cells #[.int .i64 0, .string ⟨#[]⟩, .pointer none, .int .i64 (s.length : Nat)] 40)) := TkN.first hpl HLXwx.out ((Far.below HX1.out).trans HFARwx.out) ⟨_, hz0⟩ hwx _
      have hz0' := heap_in hz0 (re_alloc wx (.cells #[.int .i64 0, .string ⟨#[]⟩, .pointer none, .int .i64 (s.length : Nat)] 40))
      have hz1' := heap_alloc_last wx (.cells #[.int .i64 0, .string ⟨#[]⟩, .pointer none, .int .i64 (s.length : Nat)] 40)
      have HTNwy := Lib.hid htn
      have H0wy := Lib.hid hz0'
      have H1wy := Lib.hid hz1'
      clear hz0 htn hz0' hz1'
      go_wp2_with fail
      generalize wx.alloc (.cells #[.int .i64 0, .string ⟨#[]⟩, .pointer none, .int .i64 (s.length : Nat)] 40) = wy at *
      generalize wx.heap.size = b1 at *
      clear c0 c1 f1
      obtain ⟨c0, c1⟩ := HTNwy.out.lx.cells
      rw [HS.out] at c0
      have f1 := HTNwy.out.lx.frz 1
      have q0 : wy.cell? ⟨w.heap.size, 0, none⟩ = some (.int .i64 0) := by rw [cell_of_row _ _ _ _ _ _ H0wy.out]; rfl
      have q1 : wy.cell? ⟨w.heap.size, 1, none⟩ = some (.string ⟨#[]⟩) := by rw [cell_of_row _ _ _ _ _ _ H0wy.out]; rfl
      have q2 : wy.cell? ⟨w.heap.size, 2, none⟩ = some (.pointer none) := by rw [cell_of_row _ _ _ _ _ _ H0wy.out]; rfl
      have q3 : wy.cell? ⟨w.heap.size, 3, none⟩ = some (.int .i64 0) := by rw [cell_of_row _ _ _ _ _ _ H0wy.out]; rfl
      have qf : ∀ j, wy.frozen? ⟨w.heap.size, j, none⟩ = false := fun j => frozen_of_row _ _ j _ _ H0wy.out
      have k0 : wy.cell? ⟨b1, 0, none⟩ = some (.int .i64 0) := by rw [cell_of_row _ _ _ _ _ _ H1wy.out]; rfl
      have k1 : wy.cell? ⟨b1, 1, none⟩ = some (.string ⟨#[]⟩) := by rw [cell_of_row _ _ _ _ _ _ H1wy.out]; rfl
      have k2 : wy.cell? ⟨b1, 2, none⟩ = some (.pointer none) := by rw [cell_of_row _ _ _ _ _ _ H1wy.out]; rfl
      have k3 : wy.cell? ⟨b1, 3, none⟩ = some (.int .i64 (s.length : Nat)) := by rw [cell_of_row _ _ _ _ _ _ H1wy.out]; rfl
      have kf : ∀ j, wy.frozen? ⟨b1, j, none⟩ = false := fun j => frozen_of_row _ _ j _ _ H1wy.out
      go_quiet (fail)
      have HTNwz := Lib.hid (HTNwy.out.later (ext_drewN (Below.refl _ _) nq))
      have H0wz := Lib.hid (heap_in H0wy.out (ext_drewN (Below.refl _ _) nq))
      have H1wz := Lib.hid (heap_in H1wy.out (ext_drewN (Below.refl _ _) nq))
      clear c0 c1 f1 q0 q1 q2 q3 qf k0 k1 k2 k3 kf
      generalize wy.drewN nq = wz at *
      obtain ⟨c0, c1⟩ := HTNwz.out.lx.cells
      rw [HS.out] at c0
      have f1 := HTNwz.out.lx.frz 1
      have q0 : wz.cell? ⟨w.heap.size, 0, none⟩ = some (.int .i64 0) := by rw [cell_of_row _ _ _ _ _ _ H0wz.out]; rfl
      have q1 : wz.cell? ⟨w.heap.size, 1, none⟩ = some (.string ⟨#[]⟩) := by rw [cell_of_row _ _ _ _ _ _ H0wz.out]; rfl
      have q2 : wz.cell? ⟨w.heap.size, 2, none⟩ = some (.pointer none) := by rw [cell_of_row _ _ _ _ _ _ H0wz.out]; rfl
      have q3 : wz.cell? ⟨w.heap.size, 3, none⟩ = some (.int .i64 0) := by rw [cell_of_row _ _ _ _ _ _ H0wz.out]; rfl
      have qf : ∀ j, wz.frozen? ⟨w.heap.size, j, none⟩ = false := fun j => frozen_of_row _ _ j _ _ H0wz.out
      have k0 : wz.cell? ⟨b1, 0, none⟩ = some (.int .i64 0) := by rw [cell_of_row _ _ _ _ _ _ H1wz.out]; rfl
      have k1 : wz.cell? ⟨b1, 1, none⟩ = some (.string ⟨#[]⟩) := by rw [cell_of_row _ _ _ _ _ _ H1wz.out]; rfl
      have k2 : wz.cell? ⟨b1, 2, none⟩ = some (.pointer none) := by rw [cell_of_row _ _ _ _ _ _ H1wz.out]; rfl
      have k3 : wz.cell? ⟨b1, 3, none⟩ = some (.int .i64 (s.length : Nat)) := by rw [cell_of_row _ _ _ _ _ _ H1wz.out]; rfl
      have kf : ∀ j, wz.frozen? ⟨b1, j, none⟩ = false := fun j => frozen_of_row _ _ j _ _ H1wz.out
      go_wp2_with fail
      try rw [Exit.noGoto_ret]
      refine bodyPost_ret (v := .tuple #[.agg #[.int .i64 0, .string ⟨#[]⟩, .pointer none, .int .i64 (s.length : Nat)], .int .i64 0]) (by simp [results, Tryz.results53, go_sem, q0, q1, q2, q3, hwn, Ne.symm hwn]) rfl ?_
      rw [HO.out]
      exact (((((HTNwz.out).tok0 0 (.int .i64 0)).tok0 1 (.string ⟨#[]⟩)).tok0 2 (.pointer none)).tok0 3 (.int .i64 (s.length : Nat))).post (t := ⟨0, [], none, s.length⟩) (e := 0)
    | succ g =>
      have hjs : j < s.length := by omega
      have h1 : (j : Int) < (s.length : Nat) := by omega
      have h2 : ((j : Int) == ((s.length : Nat) : Int)) = false := by rw [beq_eq_false_iff_ne]; omega
      have hidx := fun W => str_at s j hjs W
      have hjn : j ≤ 65536 := by omega
      by_cases gws : s.getD j 0 = 32 ∨ s.getD j 0 = 9 ∨ s.getD j 0 = 10 ∨ s.getD j 0 = 13
      · have HWSP := Lib.hid (skip_ws s j hjs gws)
        have hn : (s.getD j 0).toNat = 32 ∨ (s.getD j 0).toNat = 9 ∨ (s.getD j 0).toNat = 10 ∨ (s.getD j 0).toNat = 13 := by
          rcases gws with h | h | h | h <;> rw [h] <;> decide
        clear gws
        generalize (s.getD j 0).toNat = n at *
        generalize hS : (⟨s.toArray⟩ : ByteArray) = S at *
        have HS := Lib.hid hS
        clear hS
        rcases hn with rfl | rfl | rfl | rfl
        all_goals
          go_wp2_with fail
          go_quiet (fail)
          have HLXwa := Lib.hid (HLXwr.out.drew nq)
          have HFARwa := Lib.hid (HFARwr.out.drew nq)
          have HWSwa : Hid ((wr.drewN nq).heap.size = w0.heap.size) := by show _ = _; rw [← HWSwr.out]; simp
          clear c0 c1 f1
          generalize wr.drewN nq = wa at *
          obtain ⟨c0, c1⟩ := HLXwa.out.cells
          rw [HS.out] at c0
          have f1 := HLXwa.out.frz 1
          go_wp2_with fail
          go_quiet (fail)
          have HLXwb := Lib.hid (HLXwa.out.drew nq)
          have HFARwb := Lib.hid (HFARwa.out.drew nq)
          have HWSwb : Hid ((wa.drewN nq).heap.size = w0.heap.size) := by show _ = _; rw [← HWSwa.out]; simp
          clear c0 c1 f1
          generalize wa.drewN nq = wb at *
          obtain ⟨c0, c1⟩ := HLXwb.out.cells
          rw [HS.out] at c0
          have f1 := HLXwb.out.frz 1
          go_wp2_with fail
          go_roundg g
          case measure => omega
          case rel => exact ⟨j + 1, by omega, HLXwb.out.put' (j + 1) _ (by omega), by show _ = _; rw [← HWSP.out]; exact hgo.out, HFARwb.out.set 1 _, by simpa using HWSwb.out⟩
      · by_cases g35 : s.getD j 0 = 35
        · have HRM := Lib.hid (skip_rem s j hjs gws g35)
          have hn : (s.getD j 0).toNat = 35 := by rw [g35]; decide
          have H35 := Lib.hid g35
          clear gws g35
          generalize (s.getD j 0).toNat = n at *
          subst hn
          generalize hS : (⟨s.toArray⟩ : ByteArray) = S at *
          have HS := Lib.hid hS
          clear hS
          go_wp2_with fail
          go_quiet (fail)
          have HLXwa := Lib.hid (HLXwr.out.drew nq)
          have HFARwa := Lib.hid (HFARwr.out.drew nq)
          have HWSwa : Hid ((wr.drewN nq).heap.size = w0.heap.size) := by show _ = _; rw [← HWSwr.out]; simp
          clear c0 c1 f1
          generalize wr.drewN nq = wa at *
          obtain ⟨c0, c1⟩ := HLXwa.out.cells
          rw [HS.out] at c0
          have f1 := HLXwa.out.frz 1
          go_wp2_with fail
          go_quiet (fail)
          have HLXwb := Lib.hid (HLXwa.out.drew nq)
          have HFARwb := Lib.hid (HFARwa.out.drew nq)
          have HWSwb : Hid ((wa.drewN nq).heap.size = w0.heap.size) := by show _ = _; rw [← HWSwa.out]; simp
          clear c0 c1 f1
          generalize wa.drewN nq = wb at *
          obtain ⟨c0, c1⟩ := HLXwb.out.cells
          rw [HS.out] at c0
          have f1 := HLXwb.out.frz 1
          go_wp2_with fail
          go_loopg [] (s.length - j) (fun g2 wy => RemAt w0 p s R j g2 wy)
          case atStart => exact ⟨j, Nat.le_refl _, by omega, HLXwb.out, by show _ = _; rw [← HRM.out]; exact hgo.out, HFARwb.out, HWSwb.out⟩
          case round =>
            clear c0 c1 f1 hidx
            obtain ⟨i, hji, hi, hlx, hgi, hfar, hws⟩ := hrel
            obtain ⟨c0, c1⟩ := hlx.cells
            rw [HS.out] at c0
            have f1 := hlx.frz 1
            have HLXwc := Lib.hid hlx
            have HFARwc := Lib.hid hfar
            have HWSwc := Lib.hid hws
            clear hlx hfar hws
            cases gk with
            | zero =>
              have HE := Lib.hid (skip_end s i (by omega) true)
              have HE2 := Lib.hid (skip_end s i (by omega) false)
              have hd : decide ((i : Int) < (s.length : Nat)) = false := decide_eq_false (by omega)
              have hd2 : decide (i < s.length) = false := decide_eq_false (by omega)
              have HI := Lib.hid hi
              clear hi
              go_wp2_with fail
              go_quiet (fail)
              go_wp2_with fail
              go_roundg 0
              case measure => omega
              case rel => exact ⟨i, HI.out, HLXwc.out.drew _, by show _ = _; rw [HE2.out, ← HE.out]; exact hgi.out, HFARwc.out.drew _, by simpa using HWSwc.out⟩
            | succ g2 =>
              have his : i < s.length := by omega
              have hil : (i : Int) < (s.length : Nat) := by omega
              have hd : decide ((i : Int) < (s.length : Nat)) = true := decide_eq_true hil
              have hidx : ∀ W, (Instr.index 9 (.string S) (.int .i64 (i : Int))).run Tryz.prog W = .ok (.int .u8 ((s.getD i 0).toNat : Int)) W := fun W => by rw [← HS.out]; exact str_at s i his W
              have hin : i ≤ 65536 := by omega
              by_cases g10 : s.getD i 0 = 10
              · have HRO := Lib.hid (rem_out s i his g10)
                have hlt2 : j < i := by
                  rcases Nat.lt_or_eq_of_le hji with h | h
                  · exact h
                  · exfalso; subst h; rw [H35.out] at g10; exact absurd g10 (by decide)
                have hn : (s.getD i 0).toNat = 10 := by rw [g10]; decide
                clear g10
                generalize (s.getD i 0).toNat = n at *
                subst hn
                go_wp2_with fail
                go_quiet (fail)
                go_wp2_with fail
                go_roundg (g2 + 1)
                case measure => omega
                case rel => exact ⟨i, by omega, HLXwc.out.drew _, by show _ = _; rw [← HRO.out]; exact hgi.out, HFARwc.out.drew _, by simpa using HWSwc.out⟩
              · have HRI := Lib.hid (rem_in s i his g10)
                have e10 : ((((s.getD i 0).toNat : Nat) : Int) != 10) = true := by
                  rw [bne_iff_ne]; exact fun h => g10 (UInt8.toNat_inj.1 (by show (s.getD i 0).toNat = 10; omega))
                clear g10
                generalize (s.getD i 0).toNat = n at *
                go_wp2_with fail
                go_quiet (fail)
                go_wp2_with fail
                go_roundg g2
                case measure => omega
                case rel => exact ⟨i + 1, by omega, by omega, (HLXwc.out.drew _).put' (i + 1) _ (by omega), by show _ = _; rw [← HRI.out]; exact hgi.out, (HFARwc.out.drew _).set 1 _, by simpa using HWSwc.out⟩
        · have HRJ : Hid (j = R) := by show _ = _; rw [← hgo.out]; exact (skip_stop s j hjs gws g35).symm
          have hjr := HRJ.out
          subst hjr
          have HTA : Hid (OUT = if LX.letter (s.getD j 0) true then
                if 30 < LX.nameN (s.drop j) then (⟨1, (s.drop j).take (LX.nameN (s.drop j)), none, j⟩, 3, j) else (⟨1, (s.drop j).take (LX.nameN (s.drop j)), none, j⟩, 0, j + LX.nameN (s.drop j))
              else if LX.signs.contains (s.getD j 0) then (⟨2, [s.getD j 0], none, j⟩, 0, j + 1)
              else if s.getD j 0 = 34 then LX.quoted s j (s.drop (j + 1))
              else if s.getD j 0 = 47 then LX.expr s j (s.drop (j + 1))
              else (⟨0, [], none, j⟩, 2, j)) := by show _ = _; rw [← HOT.out]; exact token_at s j hjs
          have HSL := Lib.hid (fun (i : Nat) (h1 : j ≤ i) (h2 : i ≤ s.length) W => strBetween s j i h1 h2 (j : Int) (i : Int) rfl rfl W)
          have HIDX := Lib.hid (fun i (h : i < s.length) W => str_at s i h W)
          have HQU := Lib.hid (fun W (h : LxAt W p s j) (hT : Tab W) => lxQuoted_any W p j s hjs hs h hT)
          have HEX := Lib.hid (fun W (h : LxAt W p s j) => lxExpr_any W p j s hjs hs h)
          generalize hS : (⟨s.toArray⟩ : ByteArray) = S at *
          have HS := Lib.hid hS
          clear hS
          have e32 : ((((s.getD j 0).toNat : Nat) : Int) == 32) = false := u8_ne _ 32 _ (by decide) (fun h => gws (.inl h))
          have e9 : ((((s.getD j 0).toNat : Nat) : Int) == 9) = false := u8_ne _ 9 _ (by decide) (fun h => gws (.inr (.inl h)))
          have e10 : ((((s.getD j 0).toNat : Nat) : Int) == 10) = false := u8_ne _ 10 _ (by decide) (fun h => gws (.inr (.inr (.inl h))))
          have e13 : ((((s.getD j 0).toNat : Nat) : Int) == 13) = false := u8_ne _ 13 _ (by decide) (fun h => gws (.inr (.inr (.inr h))))
          have e35 : ((((s.getD j 0).toNat : Nat) : Int) == 35) = false := u8_ne _ 35 _ (by decide) g35
          have HLET := Lib.hid (fun c first W => letter_any c first W)
          have HIX := Lib.hid (fun (c : Int) W => IndexByte_any ⟨#[40, 41, 44, 46, 59, 124, 42, 61]⟩ c W)
          clear gws g35
          generalize hc : s.getD j 0 = c at *
          have HC := Lib.hid hc
          clear hc
          go_wp2_with fail
          go_quiet (fail)
          have HLXwa := Lib.hid (HLXwr.out.drew nq)
          have HFARwa := Lib.hid (HFARwr.out.drew nq)
          have HWSwa : Hid ((wr.drewN nq).heap.size = w0.heap.size) := by show _ = _; rw [← HWSwr.out]; simp
          clear c0 c1 f1
          generalize wr.drewN nq = wa at *
          obtain ⟨c0, c1⟩ := HLXwa.out.cells
          rw [HS.out] at c0
          have f1 := HLXwa.out.frz 1
          go_wp2_with fail
          go_quiet (fail)
          have HLXwb := Lib.hid (HLXwa.out.drew nq)
          have HFARwb := Lib.hid (HFARwa.out.drew nq)
          have HWSwb : Hid ((wa.drewN nq).heap.size = w0.heap.size) := by show _ = _; rw [← HWSwa.out]; simp
          clear c0 c1 f1
          generalize wa.drewN nq = wb at *
          obtain ⟨c0, c1⟩ := HLXwb.out.cells
          rw [HS.out] at c0
          have f1 := HLXwb.out.frz 1
          have hz0 := (HFARwb.out.block _ (by have := HW0.out; omega) (fun e => by have := Option.some.inj e; omega)).trans HZ.out
          have hwx : w.heap.size < wb.heap.size := by have h1 := HWSwb.out; have h2 := HW0.out; omega
          have hpn : p ≠ wb.heap.size := by omega
          have hpw : p ≠ w.heap.size := by omega
          have hwn : w.heap.size ≠ wb.heap.size := by omega
          have htn : TkN w wb.heap.size p s j (.pointer none) none (wb.alloc (.cells #[.int .i64 0, .string ⟨#[]⟩, .pointer none, .int .i64 (j : Nat)] 40)) := TkN.first hpl HLXwb.out ((Far.below HX1.out).trans HFARwb.out) ⟨_, hz0⟩ hwx _
          have hz0' := heap_in hz0 (re_alloc wb (.cells #[.int .i64 0, .string ⟨#[]⟩, .pointer none, .int .i64 (j : Nat)] 40))
          have hz1' := heap_alloc_last wb (.cells #[.int .i64 0, .string ⟨#[]⟩, .pointer none, .int .i64 (j : Nat)] 40)
          have HTNwc := Lib.hid htn
          have H0wc := Lib.hid hz0'
          have H1wc := Lib.hid hz1'
          clear hz0 htn hz0' hz1'
          go_wp2_with fail
          generalize wb.alloc (.cells #[.int .i64 0, .string ⟨#[]⟩, .pointer none, .int .i64 (j : Nat)] 40) = wc at *
          generalize wb.heap.size = b1 at *
          clear c0 c1 f1
          obtain ⟨c0, c1⟩ := HTNwc.out.lx.cells
          rw [HS.out] at c0
          have f1 := HTNwc.out.lx.frz 1
          have q0 : wc.cell? ⟨w.heap.size, 0, none⟩ = some (.int .i64 0) := by rw [cell_of_row _ _ _ _ _ _ H0wc.out]; rfl
          have q1 : wc.cell? ⟨w.heap.size, 1, none⟩ = some (.string ⟨#[]⟩) := by rw [cell_of_row _ _ _ _ _ _ H0wc.out]; rfl
          have q2 : wc.cell? ⟨w.heap.size, 2, none⟩ = some (.pointer none) := by rw [cell_of_row _ _ _ _ _ _ H0wc.out]; rfl
          have q3 : wc.cell? ⟨w.heap.size, 3, none⟩ = some (.int .i64 0) := by rw [cell_of_row _ _ _ _ _ _ H0wc.out]; rfl
          have qf : ∀ j, wc.frozen? ⟨w.heap.size, j, none⟩ = false := fun j => frozen_of_row _ _ j _ _ H0wc.out
          have k0 : wc.cell? ⟨b1, 0, none⟩ = some (.int .i64 0) := by rw [cell_of_row _ _ _ _ _ _ H1wc.out]; rfl
          have k1 : wc.cell? ⟨b1, 1, none⟩ = some (.string ⟨#[]⟩) := by rw [cell_of_row _ _ _ _ _ _ H1wc.out]; rfl
          have k2 : wc.cell? ⟨b1, 2, none⟩ = some (.pointer none) := by rw [cell_of_row _ _ _ _ _ _ H1wc.out]; rfl
          have k3 : wc.cell? ⟨b1, 3, none⟩ = some (.int .i64 (j : Nat)) := by rw [cell_of_row _ _ _ _ _ _ H1wc.out]; rfl
          have kf : ∀ j, wc.frozen? ⟨b1, j, none⟩ = false := fun j => frozen_of_row _ _ j _ _ H1wc.out
          go_quiet (fail)
          have HTNwd := Lib.hid (HTNwc.out.later (ext_drewN (Below.refl _ _) nq))
          have H0wd := Lib.hid (heap_in H0wc.out (ext_drewN (Below.refl _ _) nq))
          have H1wd := Lib.hid (heap_in H1wc.out (ext_drewN (Below.refl _ _) nq))
          clear c0 c1 f1 q0 q1 q2 q3 qf k0 k1 k2 k3 kf
          generalize wc.drewN nq = wd at *
          obtain ⟨c0, c1⟩ := HTNwd.out.lx.cells
          rw [HS.out] at c0
          have f1 := HTNwd.out.lx.frz 1
          have q0 : wd.cell? ⟨w.heap.size, 0, none⟩ = some (.int .i64 0) := by rw [cell_of_row _ _ _ _ _ _ H0wd.out]; rfl
          have q1 : wd.cell? ⟨w.heap.size, 1, none⟩ = some (.string ⟨#[]⟩) := by rw [cell_of_row _ _ _ _ _ _ H0wd.out]; rfl
          have q2 : wd.cell? ⟨w.heap.size, 2, none⟩ = some (.pointer none) := by rw [cell_of_row _ _ _ _ _ _ H0wd.out]; rfl
          have q3 : wd.cell? ⟨w.heap.size, 3, none⟩ = some (.int .i64 0) := by rw [cell_of_row _ _ _ _ _ _ H0wd.out]; rfl
          have qf : ∀ j, wd.frozen? ⟨w.heap.size, j, none⟩ = false := fun j => frozen_of_row _ _ j _ _ H0wd.out
          have k0 : wd.cell? ⟨b1, 0, none⟩ = some (.int .i64 0) := by rw [cell_of_row _ _ _ _ _ _ H1wd.out]; rfl
          have k1 : wd.cell? ⟨b1, 1, none⟩ = some (.string ⟨#[]⟩) := by rw [cell_of_row _ _ _ _ _ _ H1wd.out]; rfl
          have k2 : wd.cell? ⟨b1, 2, none⟩ = some (.pointer none) := by rw [cell_of_row _ _ _ _ _ _ H1wd.out]; rfl
          have k3 : wd.cell? ⟨b1, 3, none⟩ = some (.int .i64 (j : Nat)) := by rw [cell_of_row _ _ _ _ _ _ H1wd.out]; rfl
          have kf : ∀ j, wd.frozen? ⟨b1, j, none⟩ = false := fun j => frozen_of_row _ _ j _ _ H1wd.out
          go_wp2_with fail
          go_quiet (fail)
          have HTNwe := Lib.hid (HTNwd.out.later (ext_drewN (Below.refl _ _) nq))
          have H0we := Lib.hid (heap_in H0wd.out (ext_drewN (Below.refl _ _) nq))
          have H1we := Lib.hid (heap_in H1wd.out (ext_drewN (Below.refl _ _) nq))
          clear c0 c1 f1 q0 q1 q2 q3 qf k0 k1 k2 k3 kf
          generalize wd.drewN nq = we at *
          obtain ⟨c0, c1⟩ := HTNwe.out.lx.cells
          rw [HS.out] at c0
          have f1 := HTNwe.out.lx.frz 1
          have q0 : we.cell? ⟨w.heap.size, 0, none⟩ = some (.int .i64 0) := by rw [cell_of_row _ _ _ _ _ _ H0we.out]; rfl
          have q1 : we.cell? ⟨w.heap.size, 1, none⟩ = some (.string ⟨#[]⟩) := by rw [cell_of_row _ _ _ _ _ _ H0we.out]; rfl
          have q2 : we.cell? ⟨w.heap.size, 2, none⟩ = some (.pointer none) := by rw [cell_of_row _ _ _ _ _ _ H0we.out]; rfl
          have q3 : we.cell? ⟨w.heap.size, 3, none⟩ = some (.int .i64 0) := by rw [cell_of_row _ _ _ _ _ _ H0we.out]; rfl
          have qf : ∀ j, we.frozen? ⟨w.heap.size, j, none⟩ = false := fun j => frozen_of_row _ _ j _ _ H0we.out
          have k0 : we.cell? ⟨b1, 0, none⟩ = some (.int .i64 0) := by rw [cell_of_row _ _ _ _ _ _ H1we.out]; rfl
          have k1 : we.cell? ⟨b1, 1, none⟩ = some (.string ⟨#[]⟩) := by rw [cell_of_row _ _ _ _ _ _ H1we.out]; rfl
          have k2 : we.cell? ⟨b1, 2, none⟩ = some (.pointer none) := by rw [cell_of_row _ _ _ _ _ _ H1we.out]; rfl
          have k3 : we.cell? ⟨b1, 3, none⟩ = some (.int .i64 (j : Nat)) := by rw [cell_of_row _ _ _ _ _ _ H1we.out]; rfl
          have kf : ∀ j, we.frozen? ⟨b1, j, none⟩ = false := fun j => frozen_of_row _ _ j _ _ H1we.out
          clear e32 e9 e10 e13 e35
          go_wp2_with fail
          refine (HLET.out _ true _).mono ?_
          rintro e w1 ⟨rfl, rfl⟩
          obtain ⟨L, hL⟩ : ∃ L, LX.letter c true = L := ⟨_, rfl⟩
          rw [hL] at HTA ⊢
          clear hL
          cases L with
          | true =>
            have HTB : Hid (OUT = if 30 < LX.nameN (s.drop j) then (⟨1, (s.drop j).take (LX.nameN (s.drop j)), none, j⟩, 3, j) else (⟨1, (s.drop j).take (LX.nameN (s.drop j)), none, j⟩, 0, j + LX.nameN (s.drop j))) := HTA.out
            clear HTA HQU HEX HIX
            go_wp2_with fail
            go_loopg [] (s.length - j) (fun g2 wy => NameAt w b1 p s j (j + LX.nameN (s.drop j)) g2 wy)
            case atStart => exact ⟨j, Nat.le_refl _, by omega, HTNwe, rfl, H0we, H1we⟩
            case round =>
              clear c0 c1 f1 hidx q0 q1 q2 q3 qf k0 k1 k2 k3 kf HTNwe H0we H1we
              obtain ⟨i, hji, hi, HTNwr, hgi, H0wr, H1wr⟩ := hrel
              obtain ⟨c0, c1⟩ := HTNwr.out.lx.cells
              rw [HS.out] at c0
              have f1 := HTNwr.out.lx.frz 1
              have q0 : wr.cell? ⟨w.heap.size, 0, none⟩ = some (.int .i64 0) := by rw [cell_of_row _ _ _ _ _ _ H0wr.out]; rfl
              have q1 : wr.cell? ⟨w.heap.size, 1, none⟩ = some (.string ⟨#[]⟩) := by rw [cell_of_row _ _ _ _ _ _ H0wr.out]; rfl
              have q2 : wr.cell? ⟨w.heap.size, 2, none⟩ = some (.pointer none) := by rw [cell_of_row _ _ _ _ _ _ H0wr.out]; rfl
              have q3 : wr.cell? ⟨w.heap.size, 3, none⟩ = some (.int .i64 0) := by rw [cell_of_row _ _ _ _ _ _ H0wr.out]; rfl
              have qf : ∀ j, wr.frozen? ⟨w.heap.size, j, none⟩ = false := fun j => frozen_of_row _ _ j _ _ H0wr.out
              have k0 : wr.cell? ⟨b1, 0, none⟩ = some (.int .i64 0) := by rw [cell_of_row _ _ _ _ _ _ H1wr.out]; rfl
              have k1 : wr.cell? ⟨b1, 1, none⟩ = some (.string ⟨#[]⟩) := by rw [cell_of_row _ _ _ _ _ _ H1wr.out]; rfl
              have k2 : wr.cell? ⟨b1, 2, none⟩ = some (.pointer none) := by rw [cell_of_row _ _ _ _ _ _ H1wr.out]; rfl
              have k3 : wr.cell? ⟨b1, 3, none⟩ = some (.int .i64 (j : Nat)) := by rw [cell_of_row _ _ _ _ _ _ H1wr.out]; rfl
              have kf : ∀ j, wr.frozen? ⟨b1, j, none⟩ = false := fun j => frozen_of_row _ _ j _ _ H1wr.out
              cases gk with
              | zero =>
                have hd : decide ((i : Int) < (s.length : Nat)) = false := decide_eq_false (by omega)
                have hd2 : decide (i < s.length) = false := decide_eq_false (by omega)
                have HJI := Lib.hid hji
                have hil : i ≤ s.length := by omega
                have HE : Hid (i = j + LX.nameN (s.drop j)) := by show _ = _; rw [← hgi.out]; exact (name_end s i (by omega)).symm
                clear hi
                go_wp2_with fail
                go_quiet (fail)
                have HTNwg := Lib.hid (HTNwr.out.later (ext_drewN (Below.refl _ _) nq))
                have H0wg := Lib.hid (heap_in H0wr.out (ext_drewN (Below.refl _ _) nq))
                have H1wg := Lib.hid (heap_in H1wr.out (ext_drewN (Below.refl _ _) nq))
                clear c0 c1 f1 q0 q1 q2 q3 qf k0 k1 k2 k3 kf
                generalize wr.drewN nq = wg at *
                obtain ⟨c0, c1⟩ := HTNwg.out.lx.cells
                rw [HS.out] at c0
                have f1 := HTNwg.out.lx.frz 1
                have q0 : wg.cell? ⟨w.heap.size, 0, none⟩ = some (.int .i64 0) := by rw [cell_of_row _ _ _ _ _ _ H0wg.out]; rfl
                have q1 : wg.cell? ⟨w.heap.size, 1, none⟩ = some (.string ⟨#[]⟩) := by rw [cell_of_row _ _ _ _ _ _ H0wg.out]; rfl
                have q2 : wg.cell? ⟨w.heap.size, 2, none⟩ = some (.pointer none) := by rw [cell_of_row _ _ _ _ _ _ H0wg.out]; rfl
                have q3 : wg.cell? ⟨w.heap.size, 3, none⟩ = some (.int .i64 0) := by rw [cell_of_row _ _ _ _ _ _ H0wg.out]; rfl
                have qf : ∀ j, wg.frozen? ⟨w.heap.size, j, none⟩ = false := fun j => frozen_of_row _ _ j _ _ H0wg.out
                have k0 : wg.cell? ⟨b1, 0, none⟩ = some (.int .i64 0) := by rw [cell_of_row _ _ _ _ _ _ H1wg.out]; rfl
                have k1 : wg.cell? ⟨b1, 1, none⟩ = some (.string ⟨#[]⟩) := by rw [cell_of_row _ _ _ _ _ _ H1wg.out]; rfl
                have k2 : wg.cell? ⟨b1, 2, none⟩ = some (.pointer none) := by rw [cell_of_row _ _ _ _ _ _ H1wg.out]; rfl
                have k3 : wg.cell? ⟨b1, 3, none⟩ = some (.int .i64 (j : Nat)) := by rw [cell_of_row _ _ _ _ _ _ H1wg.out]; rfl
                have kf : ∀ j, wg.frozen? ⟨b1, j, none⟩ = false := fun j => frozen_of_row _ _ j _ _ H1wg.out
                have hsl := HSL.out i HJI.out hil
                have HTE : Hid ((s.drop j).take (i - j) = (s.drop j).take (LX.nameN (s.drop j))) := by show _ = _; rw [show i - j = LX.nameN (s.drop j) by have := HE.out; omega]
                have hTl : ((s.drop j).take (i - j)).length = i - j := by rw [List.length_take, List.length_drop]; omega
                have HIJ : Hid (i - j = LX.nameN (s.drop j)) := by show _ = _; have := HE.out; omega
                generalize (s.drop j).take (i - j) = T at *
                have hTs : (⟨T.toArray⟩ : ByteArray).size = T.length := str_size T
                generalize hTT : (⟨T.toArray⟩ : ByteArray) = TT at *
                have HTT := Lib.hid hTT
                clear hTT
                go_wp2_with fail
                go_region
                have HTNwh := Lib.hid (((HTNwg.out.tok1 0 (.int .i64 1)).tok1 1 (.string TT)).later ((Below.refl _ _).drew))
                have H0wh := Lib.hid (show (((wg.setCell ⟨b1, 0, none⟩ (.int .i64 1)).setCell ⟨b1, 1, none⟩ (.string TT)).drew).heap[w.heap.size]? = _ from (Below.heap_setCell _ _ _ _ (by show w.heap.size ≠ b1; omega)).trans ((Below.heap_setCell _ _ _ _ (by show w.heap.size ≠ b1; omega)).trans H0wg.out))
                have H1wh := Lib.hid (show (((wg.setCell ⟨b1, 0, none⟩ (.int .i64 1)).setCell ⟨b1, 1, none⟩ (.string TT)).drew).heap[b1]? = some (.cells #[.int .i64 1, .string TT, .pointer none, .int .i64 (j : Nat)] 40 (0, 0)) from (heap_setCell_same _ _ _ _ _ _ (heap_setCell_same _ _ _ _ _ _ H1wg.out)))
                clear c0 c1 f1 q0 q1 q2 q3 qf k0 k1 k2 k3 kf
                generalize ((wg.setCell ⟨b1, 0, none⟩ (.int .i64 1)).setCell ⟨b1, 1, none⟩ (.string TT)).drew = wh at *
                obtain ⟨c0, c1⟩ := HTNwh.out.lx.cells
                rw [HS.out] at c0
                have f1 := HTNwh.out.lx.frz 1
                have q0 : wh.cell? ⟨w.heap.size, 0, none⟩ = some (.int .i64 0) := by rw [cell_of_row _ _ _ _ _ _ H0wh.out]; rfl
                have q1 : wh.cell? ⟨w.heap.size, 1, none⟩ = some (.string ⟨#[]⟩) := by rw [cell_of_row _ _ _ _ _ _ H0wh.out]; rfl
                have q2 : wh.cell? ⟨w.heap.size, 2, none⟩ = some (.pointer none) := by rw [cell_of_row _ _ _ _ _ _ H0wh.out]; rfl
                have q3 : wh.cell? ⟨w.heap.size, 3, none⟩ = some (.int .i64 0) := by rw [cell_of_row _ _ _ _ _ _ H0wh.out]; rfl
                have qf : ∀ j, wh.frozen? ⟨w.heap.size, j, none⟩ = false := fun j => frozen_of_row _ _ j _ _ H0wh.out
                have k0 : wh.cell? ⟨b1, 0, none⟩ = some (.int .i64 1) := by rw [cell_of_row _ _ _ _ _ _ H1wh.out]; rfl
                have k1 : wh.cell? ⟨b1, 1, none⟩ = some (.string TT) := by rw [cell_of_row _ _ _ _ _ _ H1wh.out]; rfl
                have k2 : wh.cell? ⟨b1, 2, none⟩ = some (.pointer none) := by rw [cell_of_row _ _ _ _ _ _ H1wh.out]; rfl
                have k3 : wh.cell? ⟨b1, 3, none⟩ = some (.int .i64 (j : Nat)) := by rw [cell_of_row _ _ _ _ _ _ H1wh.out]; rfl
                have kf : ∀ j, wh.frozen? ⟨b1, j, none⟩ = false := fun j => frozen_of_row _ _ j _ _ H1wh.out

                by_cases h30 : 30 < T.length
                · have HO : Hid (OUT = (⟨1, T, none, j⟩, 3, j)) := by show _ = _; rw [HTB.out, if_pos (by have := HIJ.out; omega), HTE.out]
                  have h30' : (30 : Int) < (T.length : Nat) := by omega
                  go_wp2_with fail
                  try rw [Exit.noGoto_ret]
                  refine bodyPost_ret (v := .tuple #[.agg #[.int .i64 1, .string TT, .pointer none, .int .i64 (j : Nat)], .int .i64 3]) (by simp [results, Tryz.results53, go_sem, q0, q1, q2, q3, k0, k1, k2, k3, hwn, Ne.symm hwn, hpn, Ne.symm hpn, hpw, Ne.symm hpw]) rfl ?_
                  rw [HO.out]
                  have hp := ((((((HTNwh.out.pos j (j : Int) rfl).tok0 0 (.int .i64 1)).tok0 1 (.string TT)).tok0 2 (.pointer none)).tok0 3 (.int .i64 (j : Nat)))).post (t := ⟨1, T, none, j⟩) (e := 3)
                  rw [← HTT.out] at hp ⊢
                  exact hp
                · have HO : Hid (OUT = (⟨1, T, none, j⟩, 0, i)) := by show _ = _; rw [HTB.out, if_neg (by have := HIJ.out; omega), HTE.out, ← HE.out]
                  have h30' : ¬ (30 : Int) < (T.length : Nat) := by omega
                  go_wp2_with fail
                  try rw [Exit.noGoto_ret]
                  refine bodyPost_ret (v := .tuple #[.agg #[.int .i64 1, .string TT, .pointer none, .int .i64 (j : Nat)], .int .i64 0]) (by simp [results, Tryz.results53, go_sem, q0, q1, q2, q3, k0, k1, k2, k3, hwn, Ne.symm hwn, hpn, Ne.symm hpn, hpw, Ne.symm hpw]) rfl ?_
                  rw [HO.out]
                  have hp := ((((((HTNwh.out).tok0 0 (.int .i64 1)).tok0 1 (.string TT)).tok0 2 (.pointer none)).tok0 3 (.int .i64 (j : Nat)))).post (t := ⟨1, T, none, j⟩) (e := 0)
                  rw [← HTT.out] at hp ⊢
                  exact hp
              | succ g2 =>
                have his : i < s.length := by omega
                have hil : (i : Int) < (s.length : Nat) := by omega
                have hd : decide ((i : Int) < (s.length : Nat)) = true := decide_eq_true hil
                have hidx := HIDX.out i his
                obtain ⟨LI, hLI⟩ : ∃ LI, LX.letter (s.getD i 0) false = LI := ⟨_, rfl⟩
                have HLI := Lib.hid (fun W => letter_any (s.getD i 0) false W)
                rw [hLI] at HLI
                have HNX := fun h => name_in s i his (hLI.trans h)
                have HNS := fun h => name_stop s i his (hLI.trans h)
                clear hLI
                generalize s.getD i 0 = ci at *
                generalize hnn : ci.toNat = nn at *
                clear hnn
                cases LI with
                | true =>
                  have HNI := Lib.hid (HNX rfl)
                  clear HNX HNS
                  go_wp2_with fail
                  go_quiet ((exact Calls.quiet_of_same (HLI.out _)))
                  have HTNwg := Lib.hid (HTNwr.out.later (ext_drewN (Below.refl _ _) nq))
                  have H0wg := Lib.hid (heap_in H0wr.out (ext_drewN (Below.refl _ _) nq))
                  have H1wg := Lib.hid (heap_in H1wr.out (ext_drewN (Below.refl _ _) nq))
                  clear c0 c1 f1 q0 q1 q2 q3 qf k0 k1 k2 k3 kf
                  generalize wr.drewN nq = wg at *
                  obtain ⟨c0, c1⟩ := HTNwg.out.lx.cells
                  rw [HS.out] at c0
                  have f1 := HTNwg.out.lx.frz 1
                  have q0 : wg.cell? ⟨w.heap.size, 0, none⟩ = some (.int .i64 0) := by rw [cell_of_row _ _ _ _ _ _ H0wg.out]; rfl
                  have q1 : wg.cell? ⟨w.heap.size, 1, none⟩ = some (.string ⟨#[]⟩) := by rw [cell_of_row _ _ _ _ _ _ H0wg.out]; rfl
                  have q2 : wg.cell? ⟨w.heap.size, 2, none⟩ = some (.pointer none) := by rw [cell_of_row _ _ _ _ _ _ H0wg.out]; rfl
                  have q3 : wg.cell? ⟨w.heap.size, 3, none⟩ = some (.int .i64 0) := by rw [cell_of_row _ _ _ _ _ _ H0wg.out]; rfl
                  have qf : ∀ j, wg.frozen? ⟨w.heap.size, j, none⟩ = false := fun j => frozen_of_row _ _ j _ _ H0wg.out
                  have k0 : wg.cell? ⟨b1, 0, none⟩ = some (.int .i64 0) := by rw [cell_of_row _ _ _ _ _ _ H1wg.out]; rfl
                  have k1 : wg.cell? ⟨b1, 1, none⟩ = some (.string ⟨#[]⟩) := by rw [cell_of_row _ _ _ _ _ _ H1wg.out]; rfl
                  have k2 : wg.cell? ⟨b1, 2, none⟩ = some (.pointer none) := by rw [cell_of_row _ _ _ _ _ _ H1wg.out]; rfl
                  have k3 : wg.cell? ⟨b1, 3, none⟩ = some (.int .i64 (j : Nat)) := by rw [cell_of_row _ _ _ _ _ _ H1wg.out]; rfl
                  have kf : ∀ j, wg.frozen? ⟨b1, j, none⟩ = false := fun j => frozen_of_row _ _ j _ _ H1wg.out
                  go_wp2_with fail
                  go_roundg g2
                  case measure => omega
                  case rel => exact ⟨i + 1, by omega, by omega, HTNwg.out.pos (i + 1) _ (by omega), by show _ = _; rw [← HNI.out]; exact hgi.out, (Below.heap_setCell _ _ _ _ (by show w.heap.size ≠ p; omega)).trans H0wg.out, (Below.heap_setCell _ _ _ _ (by show b1 ≠ p; omega)).trans H1wg.out⟩
                | false =>
                  have HJI := Lib.hid hji
                  have HE : Hid (i = j + LX.nameN (s.drop j)) := by show _ = _; rw [← hgi.out]; exact (HNS rfl).symm
                  clear HNX HNS
                  have hil : i ≤ s.length := by omega
                  clear hi
                  go_wp2_with fail
                  go_quiet ((exact Calls.quiet_of_same (HLI.out _)))
                  have HTNwg := Lib.hid (HTNwr.out.later (ext_drewN (Below.refl _ _) nq))
                  have H0wg := Lib.hid (heap_in H0wr.out (ext_drewN (Below.refl _ _) nq))
                  have H1wg := Lib.hid (heap_in H1wr.out (ext_drewN (Below.refl _ _) nq))
                  clear c0 c1 f1 q0 q1 q2 q3 qf k0 k1 k2 k3 kf
                  generalize wr.drewN nq = wg at *
                  obtain ⟨c0, c1⟩ := HTNwg.out.lx.cells
                  rw [HS.out] at c0
                  have f1 := HTNwg.out.lx.frz 1
                  have q0 : wg.cell? ⟨w.heap.size, 0, none⟩ = some (.int .i64 0) := by rw [cell_of_row _ _ _ _ _ _ H0wg.out]; rfl
                  have q1 : wg.cell? ⟨w.heap.size, 1, none⟩ = some (.string ⟨#[]⟩) := by rw [cell_of_row _ _ _ _ _ _ H0wg.out]; rfl
                  have q2 : wg.cell? ⟨w.heap.size, 2, none⟩ = some (.pointer none) := by rw [cell_of_row _ _ _ _ _ _ H0wg.out]; rfl
                  have q3 : wg.cell? ⟨w.heap.size, 3, none⟩ = some (.int .i64 0) := by rw [cell_of_row _ _ _ _ _ _ H0wg.out]; rfl
                  have qf : ∀ j, wg.frozen? ⟨w.heap.size, j, none⟩ = false := fun j => frozen_of_row _ _ j _ _ H0wg.out
                  have k0 : wg.cell? ⟨b1, 0, none⟩ = some (.int .i64 0) := by rw [cell_of_row _ _ _ _ _ _ H1wg.out]; rfl
                  have k1 : wg.cell? ⟨b1, 1, none⟩ = some (.string ⟨#[]⟩) := by rw [cell_of_row _ _ _ _ _ _ H1wg.out]; rfl
                  have k2 : wg.cell? ⟨b1, 2, none⟩ = some (.pointer none) := by rw [cell_of_row _ _ _ _ _ _ H1wg.out]; rfl
                  have k3 : wg.cell? ⟨b1, 3, none⟩ = some (.int .i64 (j : Nat)) := by rw [cell_of_row _ _ _ _ _ _ H1wg.out]; rfl
                  have kf : ∀ j, wg.frozen? ⟨b1, j, none⟩ = false := fun j => frozen_of_row _ _ j _ _ H1wg.out
                  have hsl := HSL.out i HJI.out hil
                  have HTE : Hid ((s.drop j).take (i - j) = (s.drop j).take (LX.nameN (s.drop j))) := by show _ = _; rw [show i - j = LX.nameN (s.drop j) by have := HE.out; omega]
                  have hTl : ((s.drop j).take (i - j)).length = i - j := by rw [List.length_take, List.length_drop]; omega
                  have HIJ : Hid (i - j = LX.nameN (s.drop j)) := by show _ = _; have := HE.out; omega
                  generalize (s.drop j).take (i - j) = T at *
                  have hTs : (⟨T.toArray⟩ : ByteArray).size = T.length := str_size T
                  generalize hTT : (⟨T.toArray⟩ : ByteArray) = TT at *
                  have HTT := Lib.hid hTT
                  clear hTT
                  go_wp2_with fail
                  go_region
                  have HTNwh := Lib.hid (((HTNwg.out.tok1 0 (.int .i64 1)).tok1 1 (.string TT)).later ((Below.refl _ _).drew))
                  have H0wh := Lib.hid (show (((wg.setCell ⟨b1, 0, none⟩ (.int .i64 1)).setCell ⟨b1, 1, none⟩ (.string TT)).drew).heap[w.heap.size]? = _ from (Below.heap_setCell _ _ _ _ (by show w.heap.size ≠ b1; omega)).trans ((Below.heap_setCell _ _ _ _ (by show w.heap.size ≠ b1; omega)).trans H0wg.out))
                  have H1wh := Lib.hid (show (((wg.setCell ⟨b1, 0, none⟩ (.int .i64 1)).setCell ⟨b1, 1, none⟩ (.string TT)).drew).heap[b1]? = some (.cells #[.int .i64 1, .string TT, .pointer none, .int .i64 (j : Nat)] 40 (0, 0)) from (heap_setCell_same _ _ _ _ _ _ (heap_setCell_same _ _ _ _ _ _ H1wg.out)))
                  clear c0 c1 f1 q0 q1 q2 q3 qf k0 k1 k2 k3 kf
                  generalize ((wg.setCell ⟨b1, 0, none⟩ (.int .i64 1)).setCell ⟨b1, 1, none⟩ (.string TT)).drew = wh at *
                  obtain ⟨c0, c1⟩ := HTNwh.out.lx.cells
                  rw [HS.out] at c0
                  have f1 := HTNwh.out.lx.frz 1
                  have q0 : wh.cell? ⟨w.heap.size, 0, none⟩ = some (.int .i64 0) := by rw [cell_of_row _ _ _ _ _ _ H0wh.out]; rfl
                  have q1 : wh.cell? ⟨w.heap.size, 1, none⟩ = some (.string ⟨#[]⟩) := by rw [cell_of_row _ _ _ _ _ _ H0wh.out]; rfl
                  have q2 : wh.cell? ⟨w.heap.size, 2, none⟩ = some (.pointer none) := by rw [cell_of_row _ _ _ _ _ _ H0wh.out]; rfl
                  have q3 : wh.cell? ⟨w.heap.size, 3, none⟩ = some (.int .i64 0) := by rw [cell_of_row _ _ _ _ _ _ H0wh.out]; rfl
                  have qf : ∀ j, wh.frozen? ⟨w.heap.size, j, none⟩ = false := fun j => frozen_of_row _ _ j _ _ H0wh.out
                  have k0 : wh.cell? ⟨b1, 0, none⟩ = some (.int .i64 1) := by rw [cell_of_row _ _ _ _ _ _ H1wh.out]; rfl
                  have k1 : wh.cell? ⟨b1, 1, none⟩ = some (.string TT) := by rw [cell_of_row _ _ _ _ _ _ H1wh.out]; rfl
                  have k2 : wh.cell? ⟨b1, 2, none⟩ = some (.pointer none) := by rw [cell_of_row _ _ _ _ _ _ H1wh.out]; rfl
                  have k3 : wh.cell? ⟨b1, 3, none⟩ = some (.int .i64 (j : Nat)) := by rw [cell_of_row _ _ _ _ _ _ H1wh.out]; rfl
                  have kf : ∀ j, wh.frozen? ⟨b1, j, none⟩ = false := fun j => frozen_of_row _ _ j _ _ H1wh.out

                  by_cases h30 : 30 < T.length
                  · have HO : Hid (OUT = (⟨1, T, none, j⟩, 3, j)) := by show _ = _; rw [HTB.out, if_pos (by have := HIJ.out; omega), HTE.out]
                    have h30' : (30 : Int) < (T.length : Nat) := by omega
                    go_wp2_with fail
                    try rw [Exit.noGoto_ret]
                    refine bodyPost_ret (v := .tuple #[.agg #[.int .i64 1, .string TT, .pointer none, .int .i64 (j : Nat)], .int .i64 3]) (by simp [results, Tryz.results53, go_sem, q0, q1, q2, q3, k0, k1, k2, k3, hwn, Ne.symm hwn, hpn, Ne.symm hpn, hpw, Ne.symm hpw]) rfl ?_
                    rw [HO.out]
                    have hp := ((((((HTNwh.out.pos j (j : Int) rfl).tok0 0 (.int .i64 1)).tok0 1 (.string TT)).tok0 2 (.pointer none)).tok0 3 (.int .i64 (j : Nat)))).post (t := ⟨1, T, none, j⟩) (e := 3)
                    rw [← HTT.out] at hp ⊢
                    exact hp
                  · have HO : Hid (OUT = (⟨1, T, none, j⟩, 0, i)) := by show _ = _; rw [HTB.out, if_neg (by have := HIJ.out; omega), HTE.out, ← HE.out]
                    have h30' : ¬ (30 : Int) < (T.length : Nat) := by omega
                    go_wp2_with fail
                    try rw [Exit.noGoto_ret]
                    refine bodyPost_ret (v := .tuple #[.agg #[.int .i64 1, .string TT, .pointer none, .int .i64 (j : Nat)], .int .i64 0]) (by simp [results, Tryz.results53, go_sem, q0, q1, q2, q3, k0, k1, k2, k3, hwn, Ne.symm hwn, hpn, Ne.symm hpn, hpw, Ne.symm hpw]) rfl ?_
                    rw [HO.out]
                    have hp := ((((((HTNwh.out).tok0 0 (.int .i64 1)).tok0 1 (.string TT)).tok0 2 (.pointer none)).tok0 3 (.int .i64 (j : Nat)))).post (t := ⟨1, T, none, j⟩) (e := 0)
                    rw [← HTT.out] at hp ⊢
                    exact hp
          | false =>
            have HTB : Hid (OUT = if LX.signs.contains c then (⟨2, [c], none, j⟩, 0, j + 1)
              else if c = 34 then LX.quoted s j (s.drop (j + 1))
              else if c = 47 then LX.expr s j (s.drop (j + 1))
              else (⟨0, [], none, j⟩, 2, j)) := HTA.out
            clear HSL HIDX
            have hixe : ∀ W, Calls Tryz.prog 93 #[.string ⟨#[40, 41, 44, 46, 59, 124, 42, 61]⟩, .int .u8 (c.toNat : Nat)] W fun e w' => e = .returned (.int .i64 (Lib.indexByte LX.signs c)) ∧ w' = W := fun W => by
              have := HIX.out ((c.toNat : Nat) : Int) W
              simpa [LX.signs] using this
            have HIX2 := Lib.hid hixe
            have hge := index_ge LX.signs c
            clear hixe HIX
            generalize Lib.indexByte LX.signs c = ix at *
            by_cases gsg : LX.signs.contains c = true
            · have HO : Hid (OUT = (⟨2, [c], none, j⟩, 0, j + 1)) := by show _ = _; rw [HTB.out, if_pos gsg]
              have hge2 : 0 ≤ ix := of_decide_eq_true (hge.trans gsg)
              clear hge HQU HEX
              have hcv := sign_str c gsg
              obtain ⟨TC, hTC⟩ : ∃ TC : ByteArray, TC = ⟨[c].toArray⟩ := ⟨_, rfl⟩
              have HCV := Lib.hid hTC
              rw [← hTC] at hcv
              clear gsg hTC
              go_wp2_with fail
              refine (HIX2.out _).mono ?_
              rintro e w1 ⟨rfl, rfl⟩
              go_wp2_with fail
              try rw [Exit.noGoto_ret]
              refine bodyPost_ret (v := .tuple #[.agg #[.int .i64 2, .string TC, .pointer none, .int .i64 (j : Nat)], .int .i64 0]) (by simp [results, Tryz.results53, go_sem, q0, q1, q2, q3, k0, k1, k2, k3, hwn, Ne.symm hwn, hpn, Ne.symm hpn, hpw, Ne.symm hpw, hcv]) rfl ?_
              rw [HO.out]
              have hp := ((((((((HTNwe.out.pos (j + 1) ((j : Int) + 1) (by omega)).tok1 0 (.int .i64 2)).tok1 1 (.string TC)).tok0 0 (.int .i64 2)).tok0 1 (.string TC)).tok0 2 (.pointer none)).tok0 3 (.int .i64 (j : Nat)))).post (t := ⟨2, [c], none, j⟩) (e := 0)
              rw [HCV.out] at hp ⊢
              exact hp
            · have HTC : Hid (OUT = if c = 34 then LX.quoted s j (s.drop (j + 1)) else if c = 47 then LX.expr s j (s.drop (j + 1)) else (⟨0, [], none, j⟩, 2, j)) := by show _ = _; rw [HTB.out, if_neg gsg]
              have hge2 : ¬ 0 ≤ ix := fun h => gsg (hge.symm.trans (decide_eq_true h))
              clear hge gsg
              by_cases g34 : c = 34
              · have HTC : Hid (OUT = LX.quoted s j (s.drop (j + 1))) := by show _ = _; rw [HTC.out, if_pos g34]
                have e34 : (((c.toNat : Nat) : Int) == 34) = true := by rw [g34]; rfl
                clear g34 HEX
                generalize c.toNat = n at *
                generalize LX.quoted s j (s.drop (j + 1)) = Q at *
                go_wp2_with fail
                refine (HIX2.out _).mono ?_
                rintro e w1 ⟨rfl, rfl⟩
                go_wp2_with fail
                obtain ⟨⟨kd, tx, ro, pa⟩, en, q⟩ := Q
                have HO := HTC
                refine (HQU.out _ HTNwe.out.lx (Tab.farL HT.out HL0.out HTNwe.out.far)).mono ?_
                rintro e w1 ⟨rv, rfl, hre, hlx, hfar⟩
                simp only at hre hlx
                obtain ⟨po, rfl⟩ := reO_ptr hre
                have HZ1 := (hfar.block w.heap.size (Array.getElem?_eq_some_iff.1 H0we.out).1 (fun e => by have := Option.some.inj e; omega)).trans H0we.out
                have HTNw1 := Lib.hid (HTNwe.out.after hlx hfar hre)
                clear c0 c1 f1 q0 q1 q2 q3 qf k0 k1 k2 k3 kf hre hlx hfar
                have q0 : w1.cell? ⟨w.heap.size, 0, none⟩ = some (.int .i64 0) := by rw [cell_of_row _ _ _ _ _ _ HZ1]; rfl
                have q1 : w1.cell? ⟨w.heap.size, 1, none⟩ = some (.string ⟨#[]⟩) := by rw [cell_of_row _ _ _ _ _ _ HZ1]; rfl
                have q2 : w1.cell? ⟨w.heap.size, 2, none⟩ = some (.pointer none) := by rw [cell_of_row _ _ _ _ _ _ HZ1]; rfl
                have q3 : w1.cell? ⟨w.heap.size, 3, none⟩ = some (.int .i64 0) := by rw [cell_of_row _ _ _ _ _ _ HZ1]; rfl
                have qf : ∀ j, w1.frozen? ⟨w.heap.size, j, none⟩ = false := fun j => frozen_of_row _ _ j _ _ HZ1
                clear HZ1
                simp only [tkV]
                generalize hTX : (⟨tx.toArray⟩ : ByteArray) = TX at *
                have HTX := Lib.hid hTX
                clear hTX
                go_wp2_with fail
                try rw [Exit.noGoto_ret]
                refine bodyPost_ret (v := .tuple #[.agg #[.int .i64 (kd : Nat), .string TX, .pointer po, .int .i64 (pa : Nat)], .int .i64 (en : Nat)]) (by simp [results, Tryz.results53, go_sem, q0, q1, q2, q3, hwn, Ne.symm hwn, hpn, Ne.symm hpn, hpw, Ne.symm hpw]) rfl ?_
                rw [HO.out]
                have hp := ((((((HTNw1.out).tok0 0 (.int .i64 (kd : Nat))).tok0 1 (.string TX)).tok0 2 (.pointer po)).tok0 3 (.int .i64 (pa : Nat)))).post (t := ⟨kd, tx, ro, pa⟩) (e := en)
                rw [← HTX.out] at hp ⊢
                exact hp
              · have e34 : (((c.toNat : Nat) : Int) == 34) = false := u8_ne _ 34 _ (by decide) g34
                by_cases g47 : c = 47
                · have HTC : Hid (OUT = LX.expr s j (s.drop (j + 1))) := by show _ = _; rw [HTC.out, if_neg g34, if_pos g47]
                  have e47 : (((c.toNat : Nat) : Int) == 47) = true := by rw [g47]; rfl
                  clear g34 g47 HQU
                  generalize c.toNat = n at *
                  generalize LX.expr s j (s.drop (j + 1)) = Q at *
                  go_wp2_with fail
                  refine (HIX2.out _).mono ?_
                  rintro e w1 ⟨rfl, rfl⟩
                  go_wp2_with fail
                  obtain ⟨⟨kd, tx, ro, pa⟩, en, q⟩ := Q
                  have HO := HTC
                  refine (HEX.out _ HTNwe.out.lx).mono ?_
                  rintro e w1 ⟨rv, rfl, hre, hlx, hfar⟩
                  simp only at hre hlx
                  obtain ⟨po, rfl⟩ := reO_ptr hre
                  have HZ1 := (hfar.block w.heap.size (Array.getElem?_eq_some_iff.1 H0we.out).1 (fun e => by have := Option.some.inj e; omega)).trans H0we.out
                  have HTNw1 := Lib.hid (HTNwe.out.after hlx hfar hre)
                  clear c0 c1 f1 q0 q1 q2 q3 qf k0 k1 k2 k3 kf hre hlx hfar
                  have q0 : w1.cell? ⟨w.heap.size, 0, none⟩ = some (.int .i64 0) := by rw [cell_of_row _ _ _ _ _ _ HZ1]; rfl
                  have q1 : w1.cell? ⟨w.heap.size, 1, none⟩ = some (.string ⟨#[]⟩) := by rw [cell_of_row _ _ _ _ _ _ HZ1]; rfl
                  have q2 : w1.cell? ⟨w.heap.size, 2, none⟩ = some (.pointer none) := by rw [cell_of_row _ _ _ _ _ _ HZ1]; rfl
                  have q3 : w1.cell? ⟨w.heap.size, 3, none⟩ = some (.int .i64 0) := by rw [cell_of_row _ _ _ _ _ _ HZ1]; rfl
                  have qf : ∀ j, w1.frozen? ⟨w.heap.size, j, none⟩ = false := fun j => frozen_of_row _ _ j _ _ HZ1
                  clear HZ1
                  simp only [tkV]
                  generalize hTX : (⟨tx.toArray⟩ : ByteArray) = TX at *
                  have HTX := Lib.hid hTX
                  clear hTX
                  go_wp2_with fail
                  try rw [Exit.noGoto_ret]
                  refine bodyPost_ret (v := .tuple #[.agg #[.int .i64 (kd : Nat), .string TX, .pointer po, .int .i64 (pa : Nat)], .int .i64 (en : Nat)]) (by simp [results, Tryz.results53, go_sem, q0, q1, q2, q3, hwn, Ne.symm hwn, hpn, Ne.symm hpn, hpw, Ne.symm hpw]) rfl ?_
                  rw [HO.out]
                  have hp := ((((((HTNw1.out).tok0 0 (.int .i64 (kd : Nat))).tok0 1 (.string TX)).tok0 2 (.pointer po)).tok0 3 (.int .i64 (pa : Nat)))).post (t := ⟨kd, tx, ro, pa⟩) (e := en)
                  rw [← HTX.out] at hp ⊢
                  exact hp
                · have HO : Hid (OUT = (⟨0, [], none, j⟩, 2, j)) := by show _ = _; rw [HTC.out, if_neg g34, if_neg g47]
                  have e47 : (((c.toNat : Nat) : Int) == 47) = false := u8_ne _ 47 _ (by decide) g47
                  clear g34 g47 HQU HEX
                  generalize c.toNat = n at *
                  go_wp2_with fail
                  refine (HIX2.out _).mono ?_
                  rintro e w1 ⟨rfl, rfl⟩
                  go_wp2_with fail
                  try rw [Exit.noGoto_ret]
                  refine bodyPost_ret (v := .tuple #[.agg #[.int .i64 0, .string ⟨#[]⟩, .pointer none, .int .i64 (j : Nat)], .int .i64 2]) (by simp [results, Tryz.results53, go_sem, q0, q1, q2, q3, k0, k1, k2, k3, hwn, Ne.symm hwn, hpn, Ne.symm hpn, hpw, Ne.symm hpw]) rfl ?_
                  rw [HO.out]
                  exact ((((((HTNwe.out).tok0 0 (.int .i64 0)).tok0 1 (.string ⟨#[]⟩)).tok0 2 (.pointer none)).tok0 3 (.int .i64 (j : Nat)))).post (t := ⟨0, [], none, j⟩) (e := 2)
end Go.Proofs.YticpjjmacmmpjaaGreatDoor
