/-
  Terms made of plans, walked through the program: whatever plan.
-/
import Derived.Test.YtpajpjocakhcdaaGreatDoorLnK
import Derived.Test.YtpajpjocakhcdaaGreatDoorLnB
set_option linter.unusedSimpArgs false
set_option linter.unusedVariables false
set_option maxRecDepth 100000
set_option linter.unnecessarySimpa false
namespace Go.Proofs.YtpajpjocakhcdaaGreatDoor
open Go.RowKit
abbrev planCells (p : PL) (sv : Value) : Obj := .cells #[.int .i64 p.op, .int .i64 p.w, .int .i64 p.n, sv] 24
/-- a term that is being made of a plan -/
structure MkAt (w : World) (p : PL) (sv : Value) (b o : Nat) (nm : List UInt8) (rv : Value) (tx bk : List UInt8) (kv : Value) (W : World) : Prop where
  node : W.heap[b]? = some (.cells (tmCells o 0 nm rv tx bk kv) 41 (0, 0))
  box : W.heap[w.heap.size]? = some (planCells p sv)
  bel : Below w.heap.size w W
  lo : w.heap.size < b
variable {w W W' : World} {p : PL} {sv rv kv : Value} {b o : Nat} {nm tx bk : List UInt8}
theorem MkAt.later (h : MkAt w p sv b o nm rv tx bk kv W) (hb : Below W.heap.size W W') : MkAt w p sv b o nm rv tx bk kv W' :=
  ⟨(hb.block _ (Array.getElem?_eq_some_iff.1 h.node).1).trans h.node, (hb.block _ (Array.getElem?_eq_some_iff.1 h.box).1).trans h.box, ext_step h.bel hb, h.lo⟩
theorem MkAt.frz (h : MkAt w p sv b o nm rv tx bk kv W) (j : Nat) : W.frozen? ⟨b, j, none⟩ = false := frozen_of_row _ _ _ _ _ h.node
theorem MkAt.cells (h : MkAt w p sv b o nm rv tx bk kv W) : W.cell? ⟨b, 0, none⟩ = some (.int .i64 (o : Nat)) ∧ W.cell? ⟨b, 2, none⟩ = some (.string ⟨nm.toArray⟩) ∧ W.cell? ⟨b, 3, none⟩ = some rv ∧
    W.cell? ⟨b, 4, none⟩ = some (.string ⟨tx.toArray⟩) ∧ W.cell? ⟨b, 5, none⟩ = some (.string ⟨bk.toArray⟩) ∧ W.cell? ⟨b, 6, none⟩ = some kv :=
  ⟨by rw [cell_of_row _ _ _ _ _ _ h.node]; rfl, by rw [cell_of_row _ _ _ _ _ _ h.node]; rfl, by rw [cell_of_row _ _ _ _ _ _ h.node]; rfl, by rw [cell_of_row _ _ _ _ _ _ h.node]; rfl, by rw [cell_of_row _ _ _ _ _ _ h.node]; rfl, by rw [cell_of_row _ _ _ _ _ _ h.node]; rfl⟩
theorem MkAt.plan (h : MkAt w p sv b o nm rv tx bk kv W) : W.cell? ⟨w.heap.size, 0, none⟩ = some (.int .i64 p.op) ∧ W.cell? ⟨w.heap.size, 1, none⟩ = some (.int .i64 p.w) ∧ W.cell? ⟨w.heap.size, 2, none⟩ = some (.int .i64 p.n) ∧ W.cell? ⟨w.heap.size, 3, none⟩ = some sv :=
  ⟨by rw [cell_of_row _ _ _ _ _ _ h.box]; rfl, by rw [cell_of_row _ _ _ _ _ _ h.box]; rfl, by rw [cell_of_row _ _ _ _ _ _ h.box]; rfl, by rw [cell_of_row _ _ _ _ _ _ h.box]; rfl⟩
theorem MkAt.put (h : MkAt w p sv b o nm rv tx bk kv W) (j : Nat) (v : Value) {nm' tx' bk' : List UInt8} {rv' kv' : Value} (e : (tmCells o 0 nm rv tx bk kv).setIfInBounds j v = tmCells o 0 nm' rv' tx' bk' kv') : MkAt w p sv b o nm' rv' tx' bk' kv' (W.setCell ⟨b, j, none⟩ v) :=
  ⟨by rw [heap_setCell_same _ _ _ _ _ _ h.node, e], by rw [Below.heap_setCell _ _ _ _ (by have := h.lo; show w.heap.size ≠ b; omega)]; exact h.box, h.bel.setCell (by have := h.lo; show w.heap.size ≤ b; omega) _, h.lo⟩
/-- made, without parts -/
theorem MkAt.leaf (h : MkAt w p sv b o nm rv tx bk (.slice none 0 0) W) {re : Option RE} (hre : IsReO W rv re) {m : TA} (hm : TA.node 0 o 0 nm re tx bk [] = m) : TmPost w m (.returned (ptr b)) W :=
  ⟨TA.node b o 0 nm re tx bk [], rfl, ⟨⟨rv, none, 0, h.node, hre, .inl rfl⟩, trivial⟩, hm, h.bel, fun c hc => by
    simp only [TA.blocks, TA.blockss, List.mem_cons, List.not_mem_nil, or_false] at hc
    subst hc
    exact ⟨Nat.le_of_lt h.lo, (Array.getElem?_eq_some_iff.1 h.node).1⟩, by simp [TA.blocks, TA.blockss]⟩
/-- what is written into a term's block leaves expressions as they are -/
theorem re_putT {W : World} {b j : Nat} {cs : Array Value} {v : Value} (h : W.heap[b]? = some (.cells cs 41 (0, 0))) {rv : Value} {re : Option RE} (hr : IsReO W rv re) : IsReO (W.setCell ⟨b, j, none⟩ v) rv re :=
  hr.put h (by decide) (by decide) fun k _ hk => Below.heap_setCell _ _ _ _ hk
theorem TA.of_blockss {l : List TA} {c : Nat} (h : c ∈ TA.blockss l) : ∃ t ∈ l, c ∈ t.blocks := by
  induction l with
  | nil => simp [TA.blockss] at h
  | cons a l ih =>
    simp only [TA.blockss, List.mem_append] at h
    rcases h with h | h
    · exact ⟨a, by simp, h⟩
    · obtain ⟨t, h1, h2⟩ := ih h
      exact ⟨t, by simp [h1], h2⟩
/-- .. and its parts -/
theorem MkAt.kids (h : MkAt w p sv b o nm rv tx bk kv W) {re : Option RE} (hre : IsReO W rv re) (ts : List TA) (ht : ∀ t ∈ ts, IsTa W t) (hl : ∀ c ∈ TA.blockss ts, b < c) (hn : (TA.blockss ts).Nodup) {m : TA} (hm : TA.node 0 o 0 nm re tx bk (TA.zeros ts) = m) :
    TmPost w m (.returned (ptr b)) ((W.alloc (.cells (ts.map fun t => ptr t.b).toArray 26)).setCell ⟨b, 6, none⟩ (.slice (some ⟨W.heap.size, 0, none⟩) ts.length ts.length)) := by
  have hx := re_alloc W (.cells (ts.map fun t => ptr t.b).toArray 26)
  have h1 := h.later hx
  have h2 := h1.put 6 (.slice (some ⟨W.heap.size, 0, none⟩) ts.length ts.length) (kv' := .slice (some ⟨W.heap.size, 0, none⟩) ts.length ts.length) rfl
  have hr := re_putT (j := 6) (v := .slice (some ⟨W.heap.size, 0, none⟩) ts.length ts.length) h1.node (hre.later hx)
  have hbw : b < W.heap.size := (Array.getElem?_eq_some_iff.1 h.node).1
  have hbt : ∀ t ∈ ts, ∀ c ∈ t.blocks, c < W.heap.size := fun t htm => IsTa.blocks_lt t (ht t htm)
  have hbs : ∀ c ∈ TA.blockss ts, c < W.heap.size := by
    intro c hc
    obtain ⟨t, htm, hc⟩ := TA.of_blockss hc
    exact hbt t htm c hc
  refine ⟨TA.node b o 0 nm re tx bk ts, rfl, ⟨⟨rv, some ⟨W.heap.size, 0, none⟩, ts.length, h2.node, hr, ?_⟩, ?_⟩, by rw [TA.zero]; exact hm, h2.bel, ?_, ?_⟩
  · exact .inr ⟨W.heap.size, 0, _, (0, 0), rfl, (Below.heap_setCell _ _ _ _ (by show W.heap.size ≠ b; omega)).trans (heap_alloc_last _ _), fun i hi => by
      have hi : i < ts.length := by simpa [TA.kids] using hi
      rw [cell_of_row _ _ _ _ _ _ ((Below.heap_setCell _ _ _ _ (by show W.heap.size ≠ b; omega)).trans (heap_alloc_last _ _))]
      simp [List.getD, hi, TA.kids]⟩
  · refine IsTas.putT h1.node (fun k _ hk => Below.heap_setCell _ _ _ _ hk) ts (fun hc => by have := hl b hc; omega) ?_
    exact (IsTas_iff _ _).2 fun t htm => IsTa.later hx t (ht t htm)
  · intro c hc
    simp only [TA.blocks, List.mem_cons] at hc
    rcases hc with rfl | hc
    · exact ⟨Nat.le_of_lt h.lo, (Array.getElem?_eq_some_iff.1 h2.node).1⟩
    · have := hl c hc
      have := hbs c hc
      have hlo := h.lo
      have := h2.bel.size
      refine ⟨by omega, ?_⟩
      have e : ((W.alloc (.cells (ts.map fun t => ptr t.b).toArray 26)).setCell ⟨b, 6, none⟩ (.slice (some ⟨W.heap.size, 0, none⟩) ts.length ts.length)).heap.size = W.heap.size + 1 := by simp
      omega
  · simp only [TA.blocks, List.nodup_cons]
    exact ⟨fun hc => by have := hl b hc; omega, hn⟩
theorem MkAt.one {W1 : World} {t0 : TA} {m0 : TA} (h : MkAt w p sv b o [] (.pointer none) [] [] kv W) (h0 : IsTa W1 t0) (hz0 : t0.zero = m0) (hb0 : Below W.heap.size W W1) (hl0 : ∀ c ∈ t0.blocks, W.heap.size ≤ c ∧ c < W1.heap.size) (hn0 : t0.blocks.Nodup)
    {m : TA} (hm : TA.node 0 o 0 [] none [] [] [m0] = m) : TmPost w m (.returned (ptr b)) ((W1.alloc (.cells #[ptr t0.b] 26)).setCell ⟨b, 6, none⟩ (.slice (some ⟨W1.heap.size, 0, none⟩) 1 1)) := by
  have hbw : b < W.heap.size := (Array.getElem?_eq_some_iff.1 h.node).1
  refine (h.later hb0).kids (re := none) rfl [t0] (fun t ht => by simp at ht; rw [ht]; exact h0) (fun c hc => ?_) (by simpa [TA.blockss] using hn0) (by rw [← hm, ← hz0]; rfl)
  simp only [TA.blockss, List.append_nil] at hc
  have := hl0 c hc; omega
theorem MkAt.two {W0 W1 W2 : World} {t0 t1 : TA} {m0 m1 : TA} (h : MkAt w p sv b o [] (.pointer none) [] [] kv W) (hd : Below W.heap.size W W0) (h0 : IsTa W1 t0) (hz0 : t0.zero = m0) (hb0 : Below W0.heap.size W0 W1) (hl0 : ∀ c ∈ t0.blocks, W0.heap.size ≤ c ∧ c < W1.heap.size) (hn0 : t0.blocks.Nodup)
    (h1 : IsTa W2 t1) (hz1 : t1.zero = m1) (hb1 : Below W1.heap.size W1 W2) (hl1 : ∀ c ∈ t1.blocks, W1.heap.size ≤ c ∧ c < W2.heap.size) (hn1 : t1.blocks.Nodup)
    {m : TA} (hm : TA.node 0 o 0 [] none [] [] [m0, m1] = m) : TmPost w m (.returned (ptr b)) ((W2.alloc (.cells #[ptr t0.b, ptr t1.b] 26)).setCell ⟨b, 6, none⟩ (.slice (some ⟨W2.heap.size, 0, none⟩) 2 2)) := by
  have hbw : b < W.heap.size := (Array.getElem?_eq_some_iff.1 h.node).1
  have s0 := hd.size
  have s1 := hb0.size
  refine (((h.later hd).later hb0).later hb1).kids (re := none) rfl [t0, t1] (fun t ht => ?_) (fun c hc => ?_) ?_ (by rw [← hm, ← hz0, ← hz1]; rfl)
  · simp only [List.mem_cons, List.not_mem_nil, or_false] at ht
    rcases ht with rfl | rfl
    · exact IsTa.later hb1 _ h0
    · exact h1
  · simp only [TA.blockss, List.append_nil, List.mem_append] at hc
    rcases hc with hc | hc
    · have := hl0 c hc; omega
    · have := hl1 c hc; omega
  · simp only [TA.blockss, List.append_nil]
    exact List.nodup_append.2 ⟨hn0, hn1, fun a ha c hc => by have := hl0 a ha; have := hl1 c hc; omega⟩
set_option maxRecDepth 100000 in
set_option maxHeartbeats 8000000 in
theorem Make_step (p : PL) (sv : Value) (w : World) (hp : IsPl w sv p.kids) (hM : ∀ k ∈ p.kids, ∀ W sv', IsPl W sv' k.kids → Calls Tryz.prog 15 #[plV k sv'] W (TmPost W k.mk)) :
    Calls Tryz.prog 15 #[plV p sv] w (TmPost w p.mk) := by
  obtain ⟨a, cap, B, off, kv, rfl, ha, hml, hks⟩ := hp.open
  have hbox := re_alloc w (planCells p (.slice a p.kids.length cap))
  have HOP := Lib.hid (fun W => op_any p a p.kids.length cap W)
  have HK := Lib.hid (fun i hi W (h : IsPl W (.slice a p.kids.length cap) p.kids) => kid_any p (.slice a p.kids.length cap) i hi W h hM)
  have HP := Lib.hid hp
  have HE : Hid (p.mk = PL.mkTop p.opN p.w p.n (p.kids.map PL.mk)) := p.mk_eq
  have hl := uMod_lt p.op 16 (by omega)
  have ho : p.opN < 18 ∧ 2 ≤ p.opN := by unfold PL.opN; omega
  have ho2 := tm_dec p.opN ho.1
  have hob := ho.2
  have HKP : Hid (∀ i, p.kidP i = (p.kids.map PL.mk).getD i PL.cA) := fun _ => rfl
  clear hks hM ha hml hp hl ho
  generalize p.mk = out at *
  generalize p.opN = o at *
  generalize p.kids.length = len at *
  have HBX := Lib.hid hbox
  have hbh := heap_alloc_last w (planCells p (.slice a len cap))
  have HBH := Lib.hid hbh
  clear hbox hbh
  go_enter Tryz.func15, Tryz.ntmps15
  go_wp2_with fail
  refine (HOP.out _).mono ?_
  rintro e w1 ⟨rfl, hb1⟩
  have hB1 : Below w.heap.size w w1 := HBX.out.trans (hb1.mono (by simp))
  have hx := re_alloc w1 (.cells (tmCells o 0 [] (.pointer none) [] [] (.slice none 0 0)) 41)
  have hS : MkAt w p (.slice a len cap) w1.heap.size o [] (.pointer none) [] [] (.slice none 0 0) (w1.alloc (.cells (tmCells o 0 [] (.pointer none) [] [] (.slice none 0 0)) 41)) :=
    ⟨heap_alloc_last _ _, (hx.block _ (by have := hb1.size; simp at this; omega)).trans ((hb1.block _ (by simp)).trans HBH.out), ext_step hB1 hx, by have := hb1.size; simp at this; omega⟩
  have HS := Lib.hid hS
  have hlt1 : w.heap.size < w1.heap.size := hS.lo
  obtain ⟨q0, q1, q2, q3⟩ := hS.plan
  rw [World.cell?_alloc_old _ _ _ (by show w.heap.size ≠ w1.heap.size; omega)] at q0 q1 q2 q3
  clear hx hB1 hb1 hS
  rcases ho2 with rfl | rfl | rfl | rfl | rfl | rfl | rfl | rfl | rfl | rfl | rfl | rfl | rfl | rfl | rfl | rfl | rfl | rfl
  · omega
  · omega
  · -- 2
    have HM : Hid (PL.mkTop 2 p.w p.n (p.kids.map PL.mk) = out) := HE.out.symm
    go_wp2_with fail
    refine (Expr_any p.w _).mono ?_
    rintro e w2 ⟨rb, rfl, hre, hb2⟩
    have HS2 := Lib.hid (HS.out.later hb2)
    have HR2 := Lib.hid hre
    clear hre hb2 q0 q1 q2 q3
    obtain ⟨n0, n2, n3, n4, n5, n6⟩ := HS2.out.cells
    obtain ⟨_, m1, m2, _⟩ := HS2.out.plan
    have fz := HS2.out.frz
    have hne : w.heap.size ≠ w1.heap.size := by omega
    have HS3 := Lib.hid (HS2.out.put 3 (ptr rb) (rv' := ptr rb) rfl)
    have HR3 := Lib.hid (re_putT (j := 3) (v := ptr rb) HS2.out.node (show IsReO w2 (ptr rb) (some _) from ⟨rb, rfl, HR2.out⟩))
    go_wp2_with fail
    go_ret
    exact HS3.out.leaf HR3.out (by rw [← HM.out]; rfl)
  · -- 16
    have HM : Hid (PL.mkTop 16 p.w p.n (p.kids.map PL.mk) = out) := HE.out.symm
    go_wp2_with fail
    refine (Expr_any p.w _).mono ?_
    rintro e w2 ⟨rb, rfl, hre, hb2⟩
    have HS2 := Lib.hid (HS.out.later hb2)
    have HR2 := Lib.hid hre
    clear hre hb2 q0 q1 q2 q3
    obtain ⟨n0, n2, n3, n4, n5, n6⟩ := HS2.out.cells
    obtain ⟨_, m1, m2, _⟩ := HS2.out.plan
    have fz := HS2.out.frz
    have hne : w.heap.size ≠ w1.heap.size := by omega
    have HS3 := Lib.hid (HS2.out.put 3 (ptr rb) (rv' := ptr rb) rfl)
    have HR3 := Lib.hid (re_putT (j := 3) (v := ptr rb) HS2.out.node (show IsReO w2 (ptr rb) (some _) from ⟨rb, rfl, HR2.out⟩))
    go_wp2_with fail
    go_ret
    exact HS3.out.leaf HR3.out (by rw [← HM.out]; rfl)
  · -- 3
    have HM : Hid (PL.mkTop 3 p.w p.n (p.kids.map PL.mk) = out) := HE.out.symm
    have hbt := bit1_eq p.n
    have HBT := Lib.hid (bit1_lt p.n)
    have HNM : Hid (nameN p.n = if bit1 p.n = 0 then [107] else [99, 111, 108, 111, 114]) := rfl
    go_wp2_with fail
    refine (Expr_any p.w _).mono ?_
    rintro e w2 ⟨rb, rfl, hre, hb2⟩
    have HS2 := Lib.hid (HS.out.later hb2)
    have HR2 := Lib.hid hre
    clear hre hb2 q0 q1 q2 q3
    obtain ⟨n0, n2, n3, n4, n5, n6⟩ := HS2.out.cells
    obtain ⟨_, m1, m2, _⟩ := HS2.out.plan
    have fz := HS2.out.frz
    have hne : w.heap.size ≠ w1.heap.size := by omega
    have HS3 := Lib.hid (HS2.out.put 3 (ptr rb) (rv' := ptr rb) rfl)
    have HR3 := Lib.hid (re_putT (j := 3) (v := ptr rb) HS2.out.node (show IsReO w2 (ptr rb) (some _) from ⟨rb, rfl, HR2.out⟩))
    have HS4 := Lib.hid (HS3.out.later (re_alloc (w2.setCell ⟨w1.heap.size, 3, none⟩ (ptr rb)) (.cells #[.string ⟨#[107]⟩, .string ⟨#[99, 111, 108, 111, 114]⟩] 9)))
    have HR4 := Lib.hid (HR3.out.later (re_alloc (w2.setCell ⟨w1.heap.size, 3, none⟩ (ptr rb)) (.cells #[.string ⟨#[107]⟩, .string ⟨#[99, 111, 108, 111, 114]⟩] 9)))
    have HS5a := Lib.hid (HS3.out.put 2 (.string ⟨(nameN p.n).toArray⟩) (nm' := nameN p.n) rfl)
    have HR5a := Lib.hid (re_putT (j := 2) (v := .string ⟨(nameN p.n).toArray⟩) HS3.out.node HR3.out)
    have HS5 := Lib.hid (HS5a.out.later (re_alloc _ (.cells #[.string ⟨#[107]⟩, .string ⟨#[99, 111, 108, 111, 114]⟩] 9)))
    have HR5 := Lib.hid (HR5a.out.later (re_alloc _ (.cells #[.string ⟨#[107]⟩, .string ⟨#[99, 111, 108, 111, 114]⟩] 9)))
    clear HS5a HR5a
    have hb12 : w1.heap.size < w2.heap.size := (Array.getElem?_eq_some_iff.1 HS2.out.node).1
    have hb13 : w.heap.size < w2.heap.size := by omega
    obtain ⟨_, _, g2, _⟩ := HS4.out.plan
    have gz := HS4.out.frz
    rcases HBT.out with h0 | h0
    · rw [h0] at hbt
      have HNM2 : Hid (nameN p.n = [107]) := by show _ = _; rw [HNM.out, h0]; rfl
      rw [HNM2.out] at HS5 HR5
      clear h0
      go_wp2_with fail
      go_ret
      refine HS5.out.leaf HR5.out (m := out) (by rw [← HM.out, ← HNM2.out]; rfl)
    · rw [h0] at hbt
      have HNM2 : Hid (nameN p.n = [99, 111, 108, 111, 114]) := by show _ = _; rw [HNM.out, h0]; rfl
      rw [HNM2.out] at HS5 HR5
      clear h0
      go_wp2_with fail
      go_ret
      refine HS5.out.leaf HR5.out (m := out) (by rw [← HM.out, ← HNM2.out]; rfl)
  · -- 4
    have HM : Hid (PL.mkTop 4 p.w p.n (p.kids.map PL.mk) = out) := HE.out.symm
    go_wp2_with fail
    refine (Expr_any p.w _).mono ?_
    rintro e w2 ⟨rb, rfl, hre, hb2⟩
    have HS2 := Lib.hid (HS.out.later hb2)
    have HR2 := Lib.hid hre
    clear hre hb2 q0 q1 q2 q3
    obtain ⟨n0, n2, n3, n4, n5, n6⟩ := HS2.out.cells
    obtain ⟨_, m1, m2, _⟩ := HS2.out.plan
    have fz := HS2.out.frz
    have hne : w.heap.size ≠ w1.heap.size := by omega
    have HS3 := Lib.hid (HS2.out.put 3 (ptr rb) (rv' := ptr rb) rfl)
    have HR3 := Lib.hid (re_putT (j := 3) (v := ptr rb) HS2.out.node (show IsReO w2 (ptr rb) (some _) from ⟨rb, rfl, HR2.out⟩))
    go_wp2_with fail
    refine (Text_any p.n _).mono ?_
    rintro e w3 ⟨rfl, hb3⟩
    have HS4 := Lib.hid (HS3.out.later hb3)
    have HR4 := Lib.hid (HR3.out.later hb3)
    clear n0 n2 n3 n4 n5 n6 m1 m2 fz hne
    clear hb3
    obtain ⟨n0, n2, n3, n4, n5, n6⟩ := HS4.out.cells
    obtain ⟨_, m1, m2, _⟩ := HS4.out.plan
    have fz := HS4.out.frz
    have hne : w.heap.size ≠ w1.heap.size := by omega
    have HS5 := Lib.hid (HS4.out.put 4 (.string ⟨(textN p.n).toArray⟩) (tx' := textN p.n) rfl)
    have HR5 := Lib.hid (re_putT (j := 4) (v := .string ⟨(textN p.n).toArray⟩) HS4.out.node HR4.out)
    go_wp2_with fail
    refine (Text_any (wrap64 (p.n.tdiv 7)) _).mono ?_
    rintro e w4 ⟨rfl, hb4⟩
    have HS6 := Lib.hid (HS5.out.later hb4)
    have HR6 := Lib.hid (HR5.out.later hb4)
    clear n0 n2 n3 n4 n5 n6 m1 m2 fz hne
    clear hb4
    obtain ⟨n0, n2, n3, n4, n5, n6⟩ := HS6.out.cells
    obtain ⟨_, m1, m2, _⟩ := HS6.out.plan
    have fz := HS6.out.frz
    have hne : w.heap.size ≠ w1.heap.size := by omega
    have HS7 := Lib.hid (HS6.out.put 5 (.string ⟨(textN (wrap64 (p.n.tdiv 7))).toArray⟩) (bk' := textN (wrap64 (p.n.tdiv 7))) rfl)
    have HR7 := Lib.hid (re_putT (j := 5) (v := .string ⟨(textN (wrap64 (p.n.tdiv 7))).toArray⟩) HS6.out.node HR6.out)
    go_wp2_with fail
    go_ret
    exact HS7.out.leaf HR7.out (by rw [← HM.out]; rfl)
  · -- 5
    have HM : Hid (PL.mkTop 5 p.w p.n (p.kids.map PL.mk) = out) := HE.out.symm
    go_wp2_with fail
    refine (Expr_any p.w _).mono ?_
    rintro e w2 ⟨rb, rfl, hre, hb2⟩
    have HS2 := Lib.hid (HS.out.later hb2)
    have HR2 := Lib.hid hre
    clear hre hb2 q0 q1 q2 q3
    obtain ⟨n0, n2, n3, n4, n5, n6⟩ := HS2.out.cells
    obtain ⟨_, m1, m2, _⟩ := HS2.out.plan
    have fz := HS2.out.frz
    have hne : w.heap.size ≠ w1.heap.size := by omega
    have HS3 := Lib.hid (HS2.out.put 3 (ptr rb) (rv' := ptr rb) rfl)
    have HR3 := Lib.hid (re_putT (j := 3) (v := ptr rb) HS2.out.node (show IsReO w2 (ptr rb) (some _) from ⟨rb, rfl, HR2.out⟩))
    go_wp2_with fail
    refine (Text_any p.n _).mono ?_
    rintro e w3 ⟨rfl, hb3⟩
    have HS4 := Lib.hid (HS3.out.later hb3)
    have HR4 := Lib.hid (HR3.out.later hb3)
    clear n0 n2 n3 n4 n5 n6 m1 m2 fz hne
    clear hb3
    obtain ⟨n0, n2, n3, n4, n5, n6⟩ := HS4.out.cells
    obtain ⟨_, m1, m2, _⟩ := HS4.out.plan
    have fz := HS4.out.frz
    have hne : w.heap.size ≠ w1.heap.size := by omega
    have HS5 := Lib.hid (HS4.out.put 5 (.string ⟨(textN p.n).toArray⟩) (bk' := textN p.n) rfl)
    have HR5 := Lib.hid (re_putT (j := 5) (v := .string ⟨(textN p.n).toArray⟩) HS4.out.node HR4.out)
    go_wp2_with fail
    go_ret
    exact HS5.out.leaf HR5.out (by rw [← HM.out]; rfl)
  · -- 17
    have HM : Hid (PL.mkTop 17 p.w p.n (p.kids.map PL.mk) = out) := HE.out.symm
    go_wp2_with fail
    refine (Expr_any p.w _).mono ?_
    rintro e w2 ⟨rb, rfl, hre, hb2⟩
    have HS2 := Lib.hid (HS.out.later hb2)
    have HR2 := Lib.hid hre
    clear hre hb2 q0 q1 q2 q3
    obtain ⟨n0, n2, n3, n4, n5, n6⟩ := HS2.out.cells
    obtain ⟨_, m1, m2, _⟩ := HS2.out.plan
    have fz := HS2.out.frz
    have hne : w.heap.size ≠ w1.heap.size := by omega
    have HS3 := Lib.hid (HS2.out.put 3 (ptr rb) (rv' := ptr rb) rfl)
    have HR3 := Lib.hid (re_putT (j := 3) (v := ptr rb) HS2.out.node (show IsReO w2 (ptr rb) (some _) from ⟨rb, rfl, HR2.out⟩))
    go_wp2_with fail
    refine (Text_any p.n _).mono ?_
    rintro e w3 ⟨rfl, hb3⟩
    have HS4 := Lib.hid (HS3.out.later hb3)
    have HR4 := Lib.hid (HR3.out.later hb3)
    clear n0 n2 n3 n4 n5 n6 m1 m2 fz hne
    clear hb3
    obtain ⟨n0, n2, n3, n4, n5, n6⟩ := HS4.out.cells
    obtain ⟨_, m1, m2, _⟩ := HS4.out.plan
    have fz := HS4.out.frz
    have hne : w.heap.size ≠ w1.heap.size := by omega
    have HS5 := Lib.hid (HS4.out.put 4 (.string ⟨(textN p.n).toArray⟩) (tx' := textN p.n) rfl)
    have HR5 := Lib.hid (re_putT (j := 4) (v := .string ⟨(textN p.n).toArray⟩) HS4.out.node HR4.out)
    go_wp2_with fail
    go_ret
    exact HS5.out.leaf HR5.out (by rw [← HM.out]; rfl)
  · -- 6
    have HM : Hid (PL.mkTop 6 p.w p.n (p.kids.map PL.mk) = out) := HE.out.symm
    go_wp2_with fail
    refine (Text_any p.n _).mono ?_
    rintro e w2 ⟨rfl, hb2⟩
    have HS2 := Lib.hid (HS.out.later hb2)
    have HR2 : Hid (IsReO w2 (.pointer none) none) := rfl
    clear hb2 q0 q1 q2 q3
    obtain ⟨n0, n2, n3, n4, n5, n6⟩ := HS2.out.cells
    obtain ⟨_, m1, m2, _⟩ := HS2.out.plan
    have fz := HS2.out.frz
    have hne : w.heap.size ≠ w1.heap.size := by omega
    have HS3 := Lib.hid (HS2.out.put 4 (.string ⟨(textN p.n).toArray⟩) (tx' := textN p.n) rfl)
    have HR3 := Lib.hid (re_putT (j := 4) (v := .string ⟨(textN p.n).toArray⟩) HS2.out.node HR2.out)
    go_wp2_with fail
    go_ret
    exact HS3.out.leaf HR3.out (by rw [← HM.out]; rfl)
  · -- 7
    have HM : Hid (PL.mkTop 7 p.w p.n (p.kids.map PL.mk) = out) := HE.out.symm
    have HP0 := Lib.hid (HP.out.later (HBX.out))
    have hl0 : w.heap.size < (w1.alloc (.cells (tmCells 7 0 [] (.pointer none) [] [] (.slice none 0 0)) 41)).heap.size := by simp; omega
    obtain ⟨S, hSd⟩ : ∃ S : World → Prop, ∀ W', S W' ↔ Below (w1.alloc (.cells (tmCells 7 0 [] (.pointer none) [] [] (.slice none 0 0)) 41)).heap.size (w1.alloc (.cells (tmCells 7 0 [] (.pointer none) [] [] (.slice none 0 0)) 41)) W' := ⟨_, fun _ => Iff.rfl⟩
    have HSD := Lib.hid hSd
    have HIP : Hid (∀ W', S W' → IsPl W' (.slice a len cap) p.kids) := fun W' h => HP.out.later (HS.out.bel.trans (((HSD.out W').1 h).mono (Nat.le_of_lt hl0)))
    clear hSd
    have cs : ∀ q : InC S, (q.w.cell? ⟨w.heap.size, 0, none⟩ = some (.int .i64 p.op) ∧ q.w.cell? ⟨w.heap.size, 1, none⟩ = some (.int .i64 p.w) ∧ q.w.cell? ⟨w.heap.size, 2, none⟩ = some (.int .i64 p.n) ∧ q.w.cell? ⟨w.heap.size, 3, none⟩ = some (.slice a len cap)) ∧ q.w.frozen? ⟨w1.heap.size, 6, none⟩ = false := fun q => by
      have h := HS.out.later ((HSD.out q.w).1 q.h)
      exact ⟨h.plan, h.frz 6⟩
    have hSl : ∀ W' : World, Below (w1.alloc (.cells (tmCells 7 0 [] (.pointer none) [] [] (.slice none 0 0)) 41)).heap.size (w1.alloc (.cells (tmCells 7 0 [] (.pointer none) [] [] (.slice none 0 0)) 41)) W' → S W' := fun W' hb => (HSD.out W').2 hb
    have hD : Below (w1.alloc (.cells (tmCells 7 0 [] (.pointer none) [] [] (.slice none 0 0)) 41)).heap.size (w1.alloc (.cells (tmCells 7 0 [] (.pointer none) [] [] (.slice none 0 0)) 41)) (w1.alloc (.cells (tmCells 7 0 [] (.pointer none) [] [] (.slice none 0 0)) 41)).drew := (Below.refl _ _).drew
    have hne : Nonempty (InC S) := ⟨⟨_, hSl _ hD⟩⟩
    go_wp2_with fail
    refine wp_region_mix S [0, 1, 3, 6, 7] [0, 1, 3, 2, 4, 5, 6, 7, 8] (by kernel_rfl) (by kernel_rfl) (hSl _ hD) ?_
    (repeat (refine wpMix_read rfl rfl ?_; go_big_quiet_step (fail); refine wpQuiet_nil ?_))
    refine wpMix_eff (k := true) rfl rfl (by kernel_rfl) ?_
    go_wp2_with (go_at_call 52; refine (HK.out 0 (by omega) _ (HIP.out _ (hSl _ hD))).mono ?_; rintro e wA ⟨tA, rfl, htA, hzA, hbA, hlA, hnA⟩)
    have hD2 := ext_step hD hbA
    refine mixPost_keep (hSl _ hD2) ?_
    (repeat (refine wpMix_read rfl rfl ?_; go_big_quiet_step (fail); refine wpQuiet_nil ?_))
    refine wpMix_eff (k := true) rfl rfl (by kernel_rfl) ?_
    go_wp2_with (go_at_call 52; refine (HK.out 1 (by omega) _ (HIP.out _ (hSl _ hD2))).mono ?_; rintro e wB ⟨tB, rfl, htB, hzB, hbB, hlB, hnB⟩)
    have hD3 := ext_step hD2 hbB
    refine mixPost_keep (hSl _ hD3) ?_
    refine wpMix_eff (k := true) rfl rfl (by kernel_rfl) ?_
    have htk := (HS.out.two (m := out) hD htA hzA hbA hlA hnA htB hzB hbB hlB hnB)
    have hD4 := ext_alloc hD3 (.cells #[ptr tA.b, ptr tB.b] 26)
    have fz := (HS.out.later hD3).frz
    obtain ⟨_, _, _, _, _, n6⟩ := (HS.out.later hD3).cells
    have hwB : w1.heap.size < wB.heap.size := (Array.getElem?_eq_some_iff.1 (HS.out.later hD3).node).1
    have hwn : w1.heap.size ≠ wB.heap.size := by omega
    rw [World.setCell_alloc_past _ _ _ _ hwB] at htk
    have HTK := Lib.hid htk
    clear htk
    clear htA hzA hbA hlA hnA htB hzB hbB hlB hnB hD hD2 hD3
    go_wp2_with fail
    refine mixPost_keep (hSl _ hD4) ?_
    (repeat (refine wpMix_read rfl rfl ?_; go_big_quiet_step (fail); refine wpQuiet_nil ?_))
    refine wpMix_eff (k := false) rfl rfl (by kernel_rfl) ?_
    clear hne cs hSl hD4
    go_wp2_with fail
    refine mixPost_last ?_
    refine wpMix_nil ?_
    go_wp2_with fail
    go_ret
    exact HTK.out (by rw [← HM.out, HKP.out, HKP.out]; rfl)
  · -- 8
    have HM : Hid (PL.mkTop 8 p.w p.n (p.kids.map PL.mk) = out) := HE.out.symm
    have HP0 := Lib.hid (HP.out.later (HBX.out))
    have hl0 : w.heap.size < (w1.alloc (.cells (tmCells 8 0 [] (.pointer none) [] [] (.slice none 0 0)) 41)).heap.size := by simp; omega
    obtain ⟨S, hSd⟩ : ∃ S : World → Prop, ∀ W', S W' ↔ Below (w1.alloc (.cells (tmCells 8 0 [] (.pointer none) [] [] (.slice none 0 0)) 41)).heap.size (w1.alloc (.cells (tmCells 8 0 [] (.pointer none) [] [] (.slice none 0 0)) 41)) W' := ⟨_, fun _ => Iff.rfl⟩
    have HSD := Lib.hid hSd
    have HIP : Hid (∀ W', S W' → IsPl W' (.slice a len cap) p.kids) := fun W' h => HP.out.later (HS.out.bel.trans (((HSD.out W').1 h).mono (Nat.le_of_lt hl0)))
    clear hSd
    have cs : ∀ q : InC S, (q.w.cell? ⟨w.heap.size, 0, none⟩ = some (.int .i64 p.op) ∧ q.w.cell? ⟨w.heap.size, 1, none⟩ = some (.int .i64 p.w) ∧ q.w.cell? ⟨w.heap.size, 2, none⟩ = some (.int .i64 p.n) ∧ q.w.cell? ⟨w.heap.size, 3, none⟩ = some (.slice a len cap)) ∧ q.w.frozen? ⟨w1.heap.size, 6, none⟩ = false := fun q => by
      have h := HS.out.later ((HSD.out q.w).1 q.h)
      exact ⟨h.plan, h.frz 6⟩
    have hSl : ∀ W' : World, Below (w1.alloc (.cells (tmCells 8 0 [] (.pointer none) [] [] (.slice none 0 0)) 41)).heap.size (w1.alloc (.cells (tmCells 8 0 [] (.pointer none) [] [] (.slice none 0 0)) 41)) W' → S W' := fun W' hb => (HSD.out W').2 hb
    have hD : Below (w1.alloc (.cells (tmCells 8 0 [] (.pointer none) [] [] (.slice none 0 0)) 41)).heap.size (w1.alloc (.cells (tmCells 8 0 [] (.pointer none) [] [] (.slice none 0 0)) 41)) (w1.alloc (.cells (tmCells 8 0 [] (.pointer none) [] [] (.slice none 0 0)) 41)).drew := (Below.refl _ _).drew
    have hne : Nonempty (InC S) := ⟨⟨_, hSl _ hD⟩⟩
    go_wp2_with fail
    refine wp_region_mix S [0, 1, 3, 6, 7] [0, 1, 3, 2, 4, 5, 6, 7, 8] (by kernel_rfl) (by kernel_rfl) (hSl _ hD) ?_
    (repeat (refine wpMix_read rfl rfl ?_; go_big_quiet_step (fail); refine wpQuiet_nil ?_))
    refine wpMix_eff (k := true) rfl rfl (by kernel_rfl) ?_
    go_wp2_with (go_at_call 52; refine (HK.out 0 (by omega) _ (HIP.out _ (hSl _ hD))).mono ?_; rintro e wA ⟨tA, rfl, htA, hzA, hbA, hlA, hnA⟩)
    have hD2 := ext_step hD hbA
    refine mixPost_keep (hSl _ hD2) ?_
    (repeat (refine wpMix_read rfl rfl ?_; go_big_quiet_step (fail); refine wpQuiet_nil ?_))
    refine wpMix_eff (k := true) rfl rfl (by kernel_rfl) ?_
    go_wp2_with (go_at_call 52; refine (HK.out 1 (by omega) _ (HIP.out _ (hSl _ hD2))).mono ?_; rintro e wB ⟨tB, rfl, htB, hzB, hbB, hlB, hnB⟩)
    have hD3 := ext_step hD2 hbB
    refine mixPost_keep (hSl _ hD3) ?_
    refine wpMix_eff (k := true) rfl rfl (by kernel_rfl) ?_
    have htk := (HS.out.two (m := out) hD htA hzA hbA hlA hnA htB hzB hbB hlB hnB)
    have hD4 := ext_alloc hD3 (.cells #[ptr tA.b, ptr tB.b] 26)
    have fz := (HS.out.later hD3).frz
    obtain ⟨_, _, _, _, _, n6⟩ := (HS.out.later hD3).cells
    have hwB : w1.heap.size < wB.heap.size := (Array.getElem?_eq_some_iff.1 (HS.out.later hD3).node).1
    have hwn : w1.heap.size ≠ wB.heap.size := by omega
    rw [World.setCell_alloc_past _ _ _ _ hwB] at htk
    have HTK := Lib.hid htk
    clear htk
    clear htA hzA hbA hlA hnA htB hzB hbB hlB hnB hD hD2 hD3
    go_wp2_with fail
    refine mixPost_keep (hSl _ hD4) ?_
    (repeat (refine wpMix_read rfl rfl ?_; go_big_quiet_step (fail); refine wpQuiet_nil ?_))
    refine wpMix_eff (k := false) rfl rfl (by kernel_rfl) ?_
    clear hne cs hSl hD4
    go_wp2_with fail
    refine mixPost_last ?_
    refine wpMix_nil ?_
    go_wp2_with fail
    go_ret
    exact HTK.out (by rw [← HM.out, HKP.out, HKP.out]; rfl)
  · -- 11
    have HM : Hid (PL.mkTop 11 p.w p.n (p.kids.map PL.mk) = out) := HE.out.symm
    have HP0 := Lib.hid (HP.out.later (HBX.out))
    have hl0 : w.heap.size < (w1.alloc (.cells (tmCells 11 0 [] (.pointer none) [] [] (.slice none 0 0)) 41)).heap.size := by simp; omega
    obtain ⟨S, hSd⟩ : ∃ S : World → Prop, ∀ W', S W' ↔ Below (w1.alloc (.cells (tmCells 11 0 [] (.pointer none) [] [] (.slice none 0 0)) 41)).heap.size (w1.alloc (.cells (tmCells 11 0 [] (.pointer none) [] [] (.slice none 0 0)) 41)) W' := ⟨_, fun _ => Iff.rfl⟩
    have HSD := Lib.hid hSd
    have HIP : Hid (∀ W', S W' → IsPl W' (.slice a len cap) p.kids) := fun W' h => HP.out.later (HS.out.bel.trans (((HSD.out W').1 h).mono (Nat.le_of_lt hl0)))
    clear hSd
    have cs : ∀ q : InC S, (q.w.cell? ⟨w.heap.size, 0, none⟩ = some (.int .i64 p.op) ∧ q.w.cell? ⟨w.heap.size, 1, none⟩ = some (.int .i64 p.w) ∧ q.w.cell? ⟨w.heap.size, 2, none⟩ = some (.int .i64 p.n) ∧ q.w.cell? ⟨w.heap.size, 3, none⟩ = some (.slice a len cap)) ∧ q.w.frozen? ⟨w1.heap.size, 6, none⟩ = false := fun q => by
      have h := HS.out.later ((HSD.out q.w).1 q.h)
      exact ⟨h.plan, h.frz 6⟩
    have hSl : ∀ W' : World, Below (w1.alloc (.cells (tmCells 11 0 [] (.pointer none) [] [] (.slice none 0 0)) 41)).heap.size (w1.alloc (.cells (tmCells 11 0 [] (.pointer none) [] [] (.slice none 0 0)) 41)) W' → S W' := fun W' hb => (HSD.out W').2 hb
    have hD : Below (w1.alloc (.cells (tmCells 11 0 [] (.pointer none) [] [] (.slice none 0 0)) 41)).heap.size (w1.alloc (.cells (tmCells 11 0 [] (.pointer none) [] [] (.slice none 0 0)) 41)) (w1.alloc (.cells (tmCells 11 0 [] (.pointer none) [] [] (.slice none 0 0)) 41)).drew := (Below.refl _ _).drew
    have hne : Nonempty (InC S) := ⟨⟨_, hSl _ hD⟩⟩
    go_wp2_with fail
    refine wp_region_mix S [0, 1, 3, 6, 7] [0, 1, 3, 2, 4, 5, 6, 7, 8] (by kernel_rfl) (by kernel_rfl) (hSl _ hD) ?_
    (repeat (refine wpMix_read rfl rfl ?_; go_big_quiet_step (fail); refine wpQuiet_nil ?_))
    refine wpMix_eff (k := true) rfl rfl (by kernel_rfl) ?_
    go_wp2_with (go_at_call 52; refine (HK.out 0 (by omega) _ (HIP.out _ (hSl _ hD))).mono ?_; rintro e wA ⟨tA, rfl, htA, hzA, hbA, hlA, hnA⟩)
    have hD2 := ext_step hD hbA
    refine mixPost_keep (hSl _ hD2) ?_
    (repeat (refine wpMix_read rfl rfl ?_; go_big_quiet_step (fail); refine wpQuiet_nil ?_))
    refine wpMix_eff (k := true) rfl rfl (by kernel_rfl) ?_
    go_wp2_with (go_at_call 52; refine (HK.out 1 (by omega) _ (HIP.out _ (hSl _ hD2))).mono ?_; rintro e wB ⟨tB, rfl, htB, hzB, hbB, hlB, hnB⟩)
    have hD3 := ext_step hD2 hbB
    refine mixPost_keep (hSl _ hD3) ?_
    refine wpMix_eff (k := true) rfl rfl (by kernel_rfl) ?_
    have htk := (HS.out.two (m := out) hD htA hzA hbA hlA hnA htB hzB hbB hlB hnB)
    have hD4 := ext_alloc hD3 (.cells #[ptr tA.b, ptr tB.b] 26)
    have fz := (HS.out.later hD3).frz
    obtain ⟨_, _, _, _, _, n6⟩ := (HS.out.later hD3).cells
    have hwB : w1.heap.size < wB.heap.size := (Array.getElem?_eq_some_iff.1 (HS.out.later hD3).node).1
    have hwn : w1.heap.size ≠ wB.heap.size := by omega
    rw [World.setCell_alloc_past _ _ _ _ hwB] at htk
    have HTK := Lib.hid htk
    clear htk
    clear htA hzA hbA hlA hnA htB hzB hbB hlB hnB hD hD2 hD3
    go_wp2_with fail
    refine mixPost_keep (hSl _ hD4) ?_
    (repeat (refine wpMix_read rfl rfl ?_; go_big_quiet_step (fail); refine wpQuiet_nil ?_))
    refine wpMix_eff (k := false) rfl rfl (by kernel_rfl) ?_
    clear hne cs hSl hD4
    go_wp2_with fail
    refine mixPost_last ?_
    refine wpMix_nil ?_
    go_wp2_with fail
    go_ret
    exact HTK.out (by rw [← HM.out, HKP.out, HKP.out]; rfl)
  · -- 9
    have HM : Hid (PL.mkTop 9 p.w p.n (p.kids.map PL.mk) = out) := HE.out.symm
    have HP0 := Lib.hid (HP.out.later HS.out.bel)
    obtain ⟨n0, n2, n3, n4, n5, n6⟩ := HS.out.cells
    have hne : w.heap.size ≠ w1.heap.size := by omega
    go_wp2_with fail
    refine (HK.out 0 (by omega) _ HP0.out).mono ?_
    rintro e wA ⟨tA, rfl, htA, hzA, hbA, hlA, hnA⟩
    have htk := (HS.out.one (m := out) htA hzA hbA hlA hnA)
    have fz := (HS.out.later hbA).frz
    obtain ⟨_, _, _, _, _, k6⟩ := (HS.out.later hbA).cells
    have hwB : w1.heap.size < wA.heap.size := (Array.getElem?_eq_some_iff.1 (HS.out.later hbA).node).1
    have hwn : w1.heap.size ≠ wA.heap.size := by omega
    rw [World.setCell_alloc_past _ _ _ _ hwB] at htk
    have HTK := Lib.hid htk
    clear htk
    clear htA hzA hbA hlA hnA q0 q1 q2 q3 n0 n2 n3 n4 n5 n6
    go_wp2_with fail
    go_ret
    exact HTK.out (by rw [← HM.out, HKP.out]; rfl)
  · -- 10
    have HM : Hid (PL.mkTop 10 p.w p.n (p.kids.map PL.mk) = out) := HE.out.symm
    have HP0 := Lib.hid (HP.out.later (HBX.out))
    have hl0 : w.heap.size < (w1.alloc (.cells (tmCells 10 0 [] (.pointer none) [] [] (.slice none 0 0)) 41)).heap.size := by simp; omega
    obtain ⟨S, hSd⟩ : ∃ S : World → Prop, ∀ W', S W' ↔ Below (w1.alloc (.cells (tmCells 10 0 [] (.pointer none) [] [] (.slice none 0 0)) 41)).heap.size (w1.alloc (.cells (tmCells 10 0 [] (.pointer none) [] [] (.slice none 0 0)) 41)) W' := ⟨_, fun _ => Iff.rfl⟩
    have HSD := Lib.hid hSd
    have HIP : Hid (∀ W', S W' → IsPl W' (.slice a len cap) p.kids) := fun W' h => HP.out.later (HS.out.bel.trans (((HSD.out W').1 h).mono (Nat.le_of_lt hl0)))
    clear hSd
    have cs : ∀ q : InC S, (q.w.cell? ⟨w.heap.size, 0, none⟩ = some (.int .i64 p.op) ∧ q.w.cell? ⟨w.heap.size, 1, none⟩ = some (.int .i64 p.w) ∧ q.w.cell? ⟨w.heap.size, 2, none⟩ = some (.int .i64 p.n) ∧ q.w.cell? ⟨w.heap.size, 3, none⟩ = some (.slice a len cap)) ∧ q.w.frozen? ⟨w1.heap.size, 6, none⟩ = false := fun q => by
      have h := HS.out.later ((HSD.out q.w).1 q.h)
      exact ⟨h.plan, h.frz 6⟩
    have hSl : ∀ W' : World, Below (w1.alloc (.cells (tmCells 10 0 [] (.pointer none) [] [] (.slice none 0 0)) 41)).heap.size (w1.alloc (.cells (tmCells 10 0 [] (.pointer none) [] [] (.slice none 0 0)) 41)) W' → S W' := fun W' hb => (HSD.out W').2 hb
    have hD : Below (w1.alloc (.cells (tmCells 10 0 [] (.pointer none) [] [] (.slice none 0 0)) 41)).heap.size (w1.alloc (.cells (tmCells 10 0 [] (.pointer none) [] [] (.slice none 0 0)) 41)) (w1.alloc (.cells (tmCells 10 0 [] (.pointer none) [] [] (.slice none 0 0)) 41)).drew := (Below.refl _ _).drew
    have hne : Nonempty (InC S) := ⟨⟨_, hSl _ hD⟩⟩
    go_wp2_with fail
    refine wp_region_mix S [0, 1, 3, 6, 7] [0, 1, 3, 2, 4, 5, 6, 7, 8] (by kernel_rfl) (by kernel_rfl) (hSl _ hD) ?_
    (repeat (refine wpMix_read rfl rfl ?_; go_big_quiet_step (fail); refine wpQuiet_nil ?_))
    refine wpMix_eff (k := true) rfl rfl (by kernel_rfl) ?_
    go_wp2_with (go_at_call 52; refine (HK.out 0 (by omega) _ (HIP.out _ (hSl _ hD))).mono ?_; rintro e wA ⟨tA, rfl, htA, hzA, hbA, hlA, hnA⟩)
    have hD2 := ext_step hD hbA
    refine mixPost_keep (hSl _ hD2) ?_
    (repeat (refine wpMix_read rfl rfl ?_; go_big_quiet_step (fail); refine wpQuiet_nil ?_))
    refine wpMix_eff (k := true) rfl rfl (by kernel_rfl) ?_
    go_wp2_with (go_at_call 52; refine (HK.out 1 (by omega) _ (HIP.out _ (hSl _ hD2))).mono ?_; rintro e wB ⟨tB, rfl, htB, hzB, hbB, hlB, hnB⟩)
    have hD3 := ext_step hD2 hbB
    refine mixPost_keep (hSl _ hD3) ?_
    refine wpMix_eff (k := true) rfl rfl (by kernel_rfl) ?_
    have htk := (HS.out.two (m := out) hD htA hzA hbA hlA hnA htB hzB hbB hlB hnB)
    have hD4 := ext_alloc hD3 (.cells #[ptr tA.b, ptr tB.b] 26)
    have fz := (HS.out.later hD3).frz
    obtain ⟨_, _, _, _, _, n6⟩ := (HS.out.later hD3).cells
    have hwB : w1.heap.size < wB.heap.size := (Array.getElem?_eq_some_iff.1 (HS.out.later hD3).node).1
    have hwn : w1.heap.size ≠ wB.heap.size := by omega
    rw [World.setCell_alloc_past _ _ _ _ hwB] at htk
    have HTK := Lib.hid htk
    clear htk
    clear htA hzA hbA hlA hnA htB hzB hbB hlB hnB hD hD2 hD3
    go_wp2_with fail
    refine mixPost_keep (hSl _ hD4) ?_
    (repeat (refine wpMix_read rfl rfl ?_; go_big_quiet_step (fail); refine wpQuiet_nil ?_))
    refine wpMix_eff (k := false) rfl rfl (by kernel_rfl) ?_
    clear hne cs hSl hD4
    go_wp2_with fail
    refine mixPost_last ?_
    refine wpMix_nil ?_
    go_wp2_with fail
    go_ret
    exact HTK.out (by rw [← HM.out, HKP.out, HKP.out]; rfl)
  · -- 12
    have HM : Hid (PL.mkTop 12 p.w p.n (p.kids.map PL.mk) = out) := HE.out.symm
    have HP0 := Lib.hid (HP.out.later HS.out.bel)
    obtain ⟨n0, n2, n3, n4, n5, n6⟩ := HS.out.cells
    have hne : w.heap.size ≠ w1.heap.size := by omega
    go_wp2_with fail
    refine (HK.out 0 (by omega) _ HP0.out).mono ?_
    rintro e wA ⟨tA, rfl, htA, hzA, hbA, hlA, hnA⟩
    have htk := (HS.out.one (m := out) htA hzA hbA hlA hnA)
    have fz := (HS.out.later hbA).frz
    obtain ⟨_, _, _, _, _, k6⟩ := (HS.out.later hbA).cells
    have hwB : w1.heap.size < wA.heap.size := (Array.getElem?_eq_some_iff.1 (HS.out.later hbA).node).1
    have hwn : w1.heap.size ≠ wA.heap.size := by omega
    rw [World.setCell_alloc_past _ _ _ _ hwB] at htk
    have HTK := Lib.hid htk
    clear htk
    clear htA hzA hbA hlA hnA q0 q1 q2 q3 n0 n2 n3 n4 n5 n6
    go_wp2_with fail
    go_ret
    exact HTK.out (by rw [← HM.out, HKP.out]; rfl)
  · -- 13
    have HM : Hid (PL.mkTop 13 p.w p.n (p.kids.map PL.mk) = out) := HE.out.symm
    have HP0 := Lib.hid (HP.out.later HS.out.bel)
    obtain ⟨n0, n2, n3, n4, n5, n6⟩ := HS.out.cells
    have hne : w.heap.size ≠ w1.heap.size := by omega
    go_wp2_with fail
    refine (HK.out 0 (by omega) _ HP0.out).mono ?_
    rintro e wA ⟨tA, rfl, htA, hzA, hbA, hlA, hnA⟩
    have htk := (HS.out.one (m := out) htA hzA hbA hlA hnA)
    have fz := (HS.out.later hbA).frz
    obtain ⟨_, _, _, _, _, k6⟩ := (HS.out.later hbA).cells
    have hwB : w1.heap.size < wA.heap.size := (Array.getElem?_eq_some_iff.1 (HS.out.later hbA).node).1
    have hwn : w1.heap.size ≠ wA.heap.size := by omega
    rw [World.setCell_alloc_past _ _ _ _ hwB] at htk
    have HTK := Lib.hid htk
    clear htk
    clear htA hzA hbA hlA hnA q0 q1 q2 q3 n0 n2 n3 n4 n5 n6
    go_wp2_with fail
    go_ret
    exact HTK.out (by rw [← HM.out, HKP.out]; rfl)
  · -- 14
    have HM : Hid (PL.mkTop 14 p.w p.n (p.kids.map PL.mk) = out) := HE.out.symm
    have HP0 := Lib.hid (HP.out.later (HBX.out))
    have hl0 : w.heap.size < (w1.alloc (.cells (tmCells 14 0 [] (.pointer none) [] [] (.slice none 0 0)) 41)).heap.size := by simp; omega
    obtain ⟨S, hSd⟩ : ∃ S : World → Prop, ∀ W', S W' ↔ Below (w1.alloc (.cells (tmCells 14 0 [] (.pointer none) [] [] (.slice none 0 0)) 41)).heap.size (w1.alloc (.cells (tmCells 14 0 [] (.pointer none) [] [] (.slice none 0 0)) 41)) W' := ⟨_, fun _ => Iff.rfl⟩
    have HSD := Lib.hid hSd
    have HIP : Hid (∀ W', S W' → IsPl W' (.slice a len cap) p.kids) := fun W' h => HP.out.later (HS.out.bel.trans (((HSD.out W').1 h).mono (Nat.le_of_lt hl0)))
    clear hSd
    have cs : ∀ q : InC S, (q.w.cell? ⟨w.heap.size, 0, none⟩ = some (.int .i64 p.op) ∧ q.w.cell? ⟨w.heap.size, 1, none⟩ = some (.int .i64 p.w) ∧ q.w.cell? ⟨w.heap.size, 2, none⟩ = some (.int .i64 p.n) ∧ q.w.cell? ⟨w.heap.size, 3, none⟩ = some (.slice a len cap)) ∧ q.w.frozen? ⟨w1.heap.size, 6, none⟩ = false := fun q => by
      have h := HS.out.later ((HSD.out q.w).1 q.h)
      exact ⟨h.plan, h.frz 6⟩
    have hSl : ∀ W' : World, Below (w1.alloc (.cells (tmCells 14 0 [] (.pointer none) [] [] (.slice none 0 0)) 41)).heap.size (w1.alloc (.cells (tmCells 14 0 [] (.pointer none) [] [] (.slice none 0 0)) 41)) W' → S W' := fun W' hb => (HSD.out W').2 hb
    have hD : Below (w1.alloc (.cells (tmCells 14 0 [] (.pointer none) [] [] (.slice none 0 0)) 41)).heap.size (w1.alloc (.cells (tmCells 14 0 [] (.pointer none) [] [] (.slice none 0 0)) 41)) (w1.alloc (.cells (tmCells 14 0 [] (.pointer none) [] [] (.slice none 0 0)) 41)).drew := (Below.refl _ _).drew
    have hne : Nonempty (InC S) := ⟨⟨_, hSl _ hD⟩⟩
    go_wp2_with fail
    refine wp_region_mix S [0, 1, 3, 6, 7] [0, 1, 3, 2, 4, 5, 6, 7, 8] (by kernel_rfl) (by kernel_rfl) (hSl _ hD) ?_
    (repeat (refine wpMix_read rfl rfl ?_; go_big_quiet_step (fail); refine wpQuiet_nil ?_))
    refine wpMix_eff (k := true) rfl rfl (by kernel_rfl) ?_
    go_wp2_with (go_at_call 52; refine (HK.out 0 (by omega) _ (HIP.out _ (hSl _ hD))).mono ?_; rintro e wA ⟨tA, rfl, htA, hzA, hbA, hlA, hnA⟩)
    have hD2 := ext_step hD hbA
    refine mixPost_keep (hSl _ hD2) ?_
    (repeat (refine wpMix_read rfl rfl ?_; go_big_quiet_step (fail); refine wpQuiet_nil ?_))
    refine wpMix_eff (k := true) rfl rfl (by kernel_rfl) ?_
    go_wp2_with (go_at_call 52; refine (HK.out 1 (by omega) _ (HIP.out _ (hSl _ hD2))).mono ?_; rintro e wB ⟨tB, rfl, htB, hzB, hbB, hlB, hnB⟩)
    have hD3 := ext_step hD2 hbB
    refine mixPost_keep (hSl _ hD3) ?_
    refine wpMix_eff (k := true) rfl rfl (by kernel_rfl) ?_
    have htk := (HS.out.two (m := out) hD htA hzA hbA hlA hnA htB hzB hbB hlB hnB)
    have hD4 := ext_alloc hD3 (.cells #[ptr tA.b, ptr tB.b] 26)
    have fz := (HS.out.later hD3).frz
    obtain ⟨_, _, _, _, _, n6⟩ := (HS.out.later hD3).cells
    have hwB : w1.heap.size < wB.heap.size := (Array.getElem?_eq_some_iff.1 (HS.out.later hD3).node).1
    have hwn : w1.heap.size ≠ wB.heap.size := by omega
    rw [World.setCell_alloc_past _ _ _ _ hwB] at htk
    have HTK := Lib.hid htk
    clear htk
    clear htA hzA hbA hlA hnA htB hzB hbB hlB hnB hD hD2 hD3
    go_wp2_with fail
    refine mixPost_keep (hSl _ hD4) ?_
    (repeat (refine wpMix_read rfl rfl ?_; go_big_quiet_step (fail); refine wpQuiet_nil ?_))
    refine wpMix_eff (k := false) rfl rfl (by kernel_rfl) ?_
    clear hne cs hSl hD4
    go_wp2_with fail
    refine mixPost_last ?_
    refine wpMix_nil ?_
    go_wp2_with fail
    go_ret
    exact HTK.out (by rw [← HM.out, HKP.out, HKP.out]; rfl)
  · -- 15
    have HM : Hid (PL.mkTop 15 p.w p.n (p.kids.map PL.mk) = out) := HE.out.symm
    have HP0 := Lib.hid (HP.out.later (HBX.out))
    have hl0 : w.heap.size < (w1.alloc (.cells (tmCells 15 0 [] (.pointer none) [] [] (.slice none 0 0)) 41)).heap.size := by simp; omega
    obtain ⟨S, hSd⟩ : ∃ S : World → Prop, ∀ W', S W' ↔ Below (w1.alloc (.cells (tmCells 15 0 [] (.pointer none) [] [] (.slice none 0 0)) 41)).heap.size (w1.alloc (.cells (tmCells 15 0 [] (.pointer none) [] [] (.slice none 0 0)) 41)) W' := ⟨_, fun _ => Iff.rfl⟩
    have HSD := Lib.hid hSd
    have HIP : Hid (∀ W', S W' → IsPl W' (.slice a len cap) p.kids) := fun W' h => HP.out.later (HS.out.bel.trans (((HSD.out W').1 h).mono (Nat.le_of_lt hl0)))
    clear hSd
    have cs : ∀ q : InC S, (q.w.cell? ⟨w.heap.size, 0, none⟩ = some (.int .i64 p.op) ∧ q.w.cell? ⟨w.heap.size, 1, none⟩ = some (.int .i64 p.w) ∧ q.w.cell? ⟨w.heap.size, 2, none⟩ = some (.int .i64 p.n) ∧ q.w.cell? ⟨w.heap.size, 3, none⟩ = some (.slice a len cap)) ∧ q.w.frozen? ⟨w1.heap.size, 6, none⟩ = false := fun q => by
      have h := HS.out.later ((HSD.out q.w).1 q.h)
      exact ⟨h.plan, h.frz 6⟩
    have hSl : ∀ W' : World, Below (w1.alloc (.cells (tmCells 15 0 [] (.pointer none) [] [] (.slice none 0 0)) 41)).heap.size (w1.alloc (.cells (tmCells 15 0 [] (.pointer none) [] [] (.slice none 0 0)) 41)) W' → S W' := fun W' hb => (HSD.out W').2 hb
    have hD : Below (w1.alloc (.cells (tmCells 15 0 [] (.pointer none) [] [] (.slice none 0 0)) 41)).heap.size (w1.alloc (.cells (tmCells 15 0 [] (.pointer none) [] [] (.slice none 0 0)) 41)) (w1.alloc (.cells (tmCells 15 0 [] (.pointer none) [] [] (.slice none 0 0)) 41)).drew := (Below.refl _ _).drew
    have hne : Nonempty (InC S) := ⟨⟨_, hSl _ hD⟩⟩
    go_wp2_with fail
    refine wp_region_mix S [0, 1, 3, 6, 7] [0, 1, 3, 2, 4, 5, 6, 7, 8] (by kernel_rfl) (by kernel_rfl) (hSl _ hD) ?_
    (repeat (refine wpMix_read rfl rfl ?_; go_big_quiet_step (fail); refine wpQuiet_nil ?_))
    refine wpMix_eff (k := true) rfl rfl (by kernel_rfl) ?_
    go_wp2_with (go_at_call 52; refine (HK.out 0 (by omega) _ (HIP.out _ (hSl _ hD))).mono ?_; rintro e wA ⟨tA, rfl, htA, hzA, hbA, hlA, hnA⟩)
    have hD2 := ext_step hD hbA
    refine mixPost_keep (hSl _ hD2) ?_
    (repeat (refine wpMix_read rfl rfl ?_; go_big_quiet_step (fail); refine wpQuiet_nil ?_))
    refine wpMix_eff (k := true) rfl rfl (by kernel_rfl) ?_
    go_wp2_with (go_at_call 52; refine (HK.out 1 (by omega) _ (HIP.out _ (hSl _ hD2))).mono ?_; rintro e wB ⟨tB, rfl, htB, hzB, hbB, hlB, hnB⟩)
    have hD3 := ext_step hD2 hbB
    refine mixPost_keep (hSl _ hD3) ?_
    refine wpMix_eff (k := true) rfl rfl (by kernel_rfl) ?_
    have htk := (HS.out.two (m := out) hD htA hzA hbA hlA hnA htB hzB hbB hlB hnB)
    have hD4 := ext_alloc hD3 (.cells #[ptr tA.b, ptr tB.b] 26)
    have fz := (HS.out.later hD3).frz
    obtain ⟨_, _, _, _, _, n6⟩ := (HS.out.later hD3).cells
    have hwB : w1.heap.size < wB.heap.size := (Array.getElem?_eq_some_iff.1 (HS.out.later hD3).node).1
    have hwn : w1.heap.size ≠ wB.heap.size := by omega
    rw [World.setCell_alloc_past _ _ _ _ hwB] at htk
    have HTK := Lib.hid htk
    clear htk
    clear htA hzA hbA hlA hnA htB hzB hbB hlB hnB hD hD2 hD3
    go_wp2_with fail
    refine mixPost_keep (hSl _ hD4) ?_
    (repeat (refine wpMix_read rfl rfl ?_; go_big_quiet_step (fail); refine wpQuiet_nil ?_))
    refine wpMix_eff (k := false) rfl rfl (by kernel_rfl) ?_
    clear hne cs hSl hD4
    go_wp2_with fail
    refine mixPost_last ?_
    refine wpMix_nil ?_
    go_wp2_with fail
    go_ret
    exact HTK.out (by rw [← HM.out, HKP.out, HKP.out]; rfl)
/-- Plan.Make: at whatever plan -/
theorem Make_any (p : PL) (sv : Value) (w : World) (hp : IsPl w sv p.kids) : Calls Tryz.prog 15 #[plV p sv] w (TmPost w p.mk) := by
  have key : ∀ n (p : PL), p.sz ≤ n → ∀ sv w, IsPl w sv p.kids → Calls Tryz.prog 15 #[plV p sv] w (TmPost w p.mk) := by
    intro n
    induction n with
    | zero => intro p hn; have := p.sz_eq; omega
    | succ n ih =>
      intro p hn sv w hp
      refine Make_step p sv w hp fun k hk W sv' hW => ih k ?_ sv' W hW
      have := PL.mem_szs hk
      have := p.sz_eq
      omega
  exact key p.sz p (Nat.le_refl _) sv w hp
end Go.Proofs.YtpajpjocakhcdaaGreatDoor
