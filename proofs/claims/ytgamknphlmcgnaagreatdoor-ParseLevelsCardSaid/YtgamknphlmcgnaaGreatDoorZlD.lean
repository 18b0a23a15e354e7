/-
  A byte that is written otherwise, behind a backslash, read: walked through the program (a sign). Rows of pointers to expressions, rewritten in their places, walked through the program: the first one of which something is asked; those that are left when some are taken away. What is asked of expressions (the text by which they are told apart, whether they are the same, their size), and lists of them put in order, each once: walked through the program.
-/
import Derived.BigQuiet
import Derived.Shelf.SlicesE.DeleteFunc
import Derived.Shelf.SlSortCmp.NoneTotal
import Derived.Shelf.SlGeneric
import Derived.Ground.SlsfProg
import Derived.Sort.Walk0
import Derived.WalkLawsBesides
import Derived.Deep.QuietTactic
import Derived.Deep.LoopGhost
import Derived.Test.YtgamknphlmcgnaaGreatDoorZlA
import Derived.Test.YtgamknphlmcgnaaGreatDoorZlB
import Derived.Test.YtgamknphlmcgnaaGreatDoorZlC
section
set_option linter.unusedSimpArgs false
set_option linter.unusedVariables false
set_option maxRecDepth 100000
set_option linter.unnecessarySimpa false
namespace Go.Proofs.YtgamknphlmcgnaaGreatDoor
open Go.RowKit
abbrev psCells (s : List UInt8) (st : PS) : Array Value := #[.string ⟨s.toArray⟩, .int .i64 (st.at_ : Nat), .int .i64 (st.deep : Nat), .int .i64 (st.nodes : Nat), .int .i64 (st.e : Nat), .int .i64 (st.wh : Nat)]
theorem byteIs (c : UInt8) (x : Nat) (hx : x < 256) : (((c.toNat : Nat) : Int) == (x : Int)) = decide (c = x.toUInt8) := by
  rw [Bool.eq_iff_iff]
  simp only [beq_iff_eq, decide_eq_true_eq]
  constructor
  · intro h
    have h2 : c.toNat = x := by omega
    rw [← h2]; simp
  · rintro rfl
    have : x.toUInt8.toNat = x := by simp; omega
    omega
/-- the reader lies in block p -/
structure PAt (w : World) (p : Nat) (s : List UInt8) (st : PS) : Prop where
  row : w.heap[p]? = some (.cells (psCells s st) 130 (0, 0))
  rest : st.rest = s.drop st.at_
  tot : st.at_ + st.rest.length = s.length
/-- all blocks but p's lie as they lay -/
abbrev Far (p : Nat) (w w' : World) : Prop := w.grownBy w' (some p)
theorem Far.refl (p : Nat) (w : World) : Far p w w := World.grownBy.refl _ _
theorem Far.trans {p : Nat} {a b c : World} (h : Far p a b) (h' : Far p b c) : Far p a c :=
  ⟨h'.os.trans h.os, h'.tape.trans h.tape, h'.output.trans h.output, Nat.le_trans h.size h'.size, fun k hk hne => (h'.block k (Nat.lt_of_lt_of_le hk h.size) hne).trans (h.block k hk hne)⟩
theorem Far.below {p : Nat} {w w' : World} (h : Below w.heap.size w w') : Far p w w' := ⟨h.os, h.tape, h.output, h.size, fun k hk _ => h.block k hk⟩
theorem Far.drew {p : Nat} {w w' : World} (h : Far p w w') (n : Nat) : Far p w (w'.drewN n) := h.trans (Far.below (ext_drewN (Below.refl _ _) n))
theorem Far.set {p : Nat} {w w' : World} (h : Far p w w') (j : Nat) (v : Value) : Far p w (w'.setCell ⟨p, j, none⟩ v) :=
  h.trans ⟨rfl, rfl, rfl, by simp, fun k hk hne => Below.heap_setCell _ _ _ _ (fun e => hne (by show some k = some p; rw [e]))⟩
theorem PAt.lt {w : World} {p : Nat} {s : List UInt8} {st : PS} (h : PAt w p s st) : p < w.heap.size := (Array.getElem?_eq_some_iff.1 h.row).1
theorem PAt.later {w w' : World} {p : Nat} {s : List UInt8} {st : PS} (h : PAt w p s st) (hb : Below w.heap.size w w') : PAt w' p s st := ⟨(hb.block p h.lt).trans h.row, h.rest, h.tot⟩
theorem PAt.cells {w : World} {p : Nat} {s : List UInt8} {st : PS} (h : PAt w p s st) : w.cell? ⟨p, 0, none⟩ = some (.string ⟨s.toArray⟩) ∧ w.cell? ⟨p, 1, none⟩ = some (.int .i64 (st.at_ : Nat)) ∧ w.cell? ⟨p, 2, none⟩ = some (.int .i64 (st.deep : Nat)) ∧
    w.cell? ⟨p, 3, none⟩ = some (.int .i64 (st.nodes : Nat)) ∧ w.cell? ⟨p, 4, none⟩ = some (.int .i64 (st.e : Nat)) ∧ w.cell? ⟨p, 5, none⟩ = some (.int .i64 (st.wh : Nat)) :=
  ⟨by rw [cell_of_row _ _ _ _ _ _ h.row]; rfl, by rw [cell_of_row _ _ _ _ _ _ h.row]; rfl, by rw [cell_of_row _ _ _ _ _ _ h.row]; rfl, by rw [cell_of_row _ _ _ _ _ _ h.row]; rfl, by rw [cell_of_row _ _ _ _ _ _ h.row]; rfl, by rw [cell_of_row _ _ _ _ _ _ h.row]; rfl⟩
theorem PAt.frz {w : World} {p : Nat} {s : List UInt8} {st : PS} (h : PAt w p s st) (j : Nat) : w.frozen? ⟨p, j, none⟩ = false := frozen_of_row _ _ j _ _ h.row
/-- one field is written -/
theorem PAt.put {w : World} {p : Nat} {s : List UInt8} {st st' : PS} (h : PAt w p s st) (j : Nat) (v : Value) (e : (psCells s st).setIfInBounds j v = psCells s st') (hr : st'.rest = s.drop st'.at_) (ht : st'.at_ + st'.rest.length = s.length) : PAt (w.setCell ⟨p, j, none⟩ v) p s st' :=
  ⟨by rw [heap_setCell_same _ _ _ _ _ _ h.row, e], hr, ht⟩
/-- .. whatever the place -/
theorem PAt.raw {w : World} {p : Nat} {s : List UInt8} {st : PS} (h : w.heap[p]? = some (.cells (psCells s st) 130 (0, 0))) (j : Nat) (v : Value) (st' : PS) (e : (psCells s st).setIfInBounds j v = psCells s st') : (w.setCell ⟨p, j, none⟩ v).heap[p]? = some (.cells (psCells s st') 130 (0, 0)) := by
  rw [heap_setCell_same _ _ _ _ _ _ h, e]
theorem PAt.at_le {w : World} {p : Nat} {s : List UInt8} {st : PS} (h : PAt w p s st) : st.at_ ≤ s.length := by have := h.tot; omega
theorem PAt.adv {w : World} {p : Nat} {s : List UInt8} {st : PS} (h : PAt w p s st) (k : Nat) (hk : k ≤ st.rest.length) : (st.adv k).rest = s.drop (st.adv k).at_ ∧ (st.adv k).at_ + (st.adv k).rest.length = s.length := by
  have ht := h.tot
  refine ⟨?_, ?_⟩
  · show st.rest.drop k = s.drop (st.at_ + k); rw [h.rest, List.drop_drop]
  · show st.at_ + k + (st.rest.drop k).length = _; rw [List.length_drop]; omega
theorem PAt.put_adv {w : World} {p : Nat} {s : List UInt8} {st : PS} (h : PAt w p s st) (k : Nat) (hk : k ≤ st.rest.length) : PAt (w.setCell ⟨p, 1, none⟩ (.int .i64 ((st.at_ + k : Nat) : Int))) p s (st.adv k) :=
  h.put 1 _ rfl (h.adv k hk).1 (h.adv k hk).2
theorem PAt.drew {w : World} {p : Nat} {s : List UInt8} {st : PS} (h : PAt w p s st) (n : Nat) : PAt (w.drewN n) p s st := ⟨h.row, h.rest, h.tot⟩
theorem PAt.put_adv' {w : World} {p : Nat} {s : List UInt8} {st : PS} (h : PAt w p s st) (k a : Nat) (ha : a = st.at_) (hk : k ≤ st.rest.length) : PAt (w.setCell ⟨p, 1, none⟩ (.int .i64 ((a : Int) + (k : Int)))) p s (st.adv k) := by
  have := h.put_adv k hk
  rw [show ((st.at_ + k : Nat) : Int) = (a : Int) + (k : Int) by omega] at this
  exact this
theorem PS.adv_adv (st : PS) (j k : Nat) : (st.adv j).adv k = st.adv (j + k) := by
  unfold PS.adv; simp [List.drop_drop, Nat.add_assoc]
/-- what a call on the reader leaves -/
def PsPost (p : Nat) (s : List UInt8) (w : World) (st' : PS) (v : Value) (e : Ending) (w' : World) : Prop := e = .returned v ∧ PAt w' p s st' ∧ Far p w w'
set_option maxRecDepth 100000 in
theorem psFail_any (p : Nat) (s : List UInt8) (st : PS) (w : World) (h : PAt w p s st) (hs : s.length ≤ 65536) (e : Nat) (he : e ≤ 100) :
    Calls Tryz.prog 74 #[ptr p, .int .i64 (e : Nat)] w (PsPost p s w (st.fail e) (.tuple #[])) := by
  obtain ⟨c0, c1, c2, c3, c4, c5⟩ := h.cells
  have f1 := h.frz 1
  have f4 := h.frz 4
  have f5 := h.frz 5
  have HP := Lib.hid h
  have hsz : (⟨s.toArray⟩ : ByteArray).size = s.length := str_size s
  have ht := h.tot
  have HT := Lib.hid ht
  have hln : st.at_ ≤ s.length := h.at_le
  have HR : Hid ((st.fail e).rest = s.drop (st.fail e).at_ ∧ (st.fail e).at_ + (st.fail e).rest.length = s.length) := by
    show _ ∧ _
    unfold PS.fail
    simp only
    rw [ht]; simp
  clear h ht
  by_cases h0 : st.e = 0
  · have g4 : (((st.e : Nat) : Int) == 0) = true := by rw [h0]; rfl
    have HF : Hid (st.fail e = { st with e := e, wh := st.at_, at_ := st.at_ + st.rest.length, rest := [] }) := by show _ = _; unfold PS.fail; simp [h0]
    have H0 := Lib.hid h0
    clear h0
    go_enter Tryz.func74, Tryz.ntmps74
    go_wp2_with fail
    go_end0
    refine ⟨rfl, ⟨?_, HR.out.1, HR.out.2⟩, ((Far.refl _ _).set _ _ |>.set _ _).set _ _⟩
    have r1 := PAt.raw HP.out.row 4 (.int .i64 (e : Nat)) { st with e := e } rfl
    have r2 := PAt.raw r1 5 (.int .i64 (st.at_ : Nat)) { st with e := e, wh := st.at_ } rfl
    refine PAt.raw r2 1 _ _ ?_
    rw [HF.out, HT.out]; rfl
  · have g4 : (((st.e : Nat) : Int) == 0) = false := by rw [beq_eq_false_iff_ne]; omega
    have HF : Hid (st.fail e = { st with at_ := st.at_ + st.rest.length, rest := [] }) := by show _ = _; unfold PS.fail; simp [h0]
    clear h0
    go_enter Tryz.func74, Tryz.ntmps74
    go_wp2_with fail
    go_end0
    refine ⟨rfl, ⟨?_, HR.out.1, HR.out.2⟩, (Far.refl _ _).set _ _⟩
    refine PAt.raw HP.out.row 1 _ _ ?_
    rw [HF.out, HT.out]; rfl
theorem wsN_lt {l : List UInt8} : ∀ {k : Nat}, k < PS.wsN l → k < l.length ∧ PS.isWs (l.getD k 0) = true := by
  induction l with
  | nil => intro k h; simp [PS.wsN] at h
  | cons c r ih =>
    intro k h
    rw [PS.wsN] at h
    split at h
    · rename_i hc
      cases k with
      | zero => exact ⟨by simp, by simpa using hc⟩
      | succ k => obtain ⟨h1, h2⟩ := ih (by omega : k < PS.wsN r); exact ⟨by simpa using h1, by simpa using h2⟩
    · omega
theorem wsN_stop {l : List UInt8} : PS.wsN l < l.length → PS.isWs (l.getD (PS.wsN l) 0) = false := by
  induction l with
  | nil => intro h; simp at h
  | cons c r ih =>
    intro h
    rw [PS.wsN] at h ⊢
    split
    · rename_i hc
      rw [if_pos hc] at h
      have := ih (by simpa using h)
      simpa using this
    · rename_i hc; simpa using hc
theorem isWs_has (c : UInt8) : PS.isWs c = ([32, 9, 10, 13] : List UInt8).contains c := by
  simp only [List.contains_cons, List.contains_nil, Bool.or_false]; unfold PS.isWs; simp [Bool.or_assoc]
theorem drop_getD (l : List UInt8) (a k : Nat) : (l.drop a).getD k 0 = l.getD (a + k) 0 := by simp [List.getD]
def PeekAt (w : World) (p : Nat) (s : List UInt8) (st : PS) (wr : World) : Prop := ∃ k : Nat, k ≤ PS.wsN st.rest ∧ PAt wr p s (st.adv k) ∧ Far p w wr
set_option maxRecDepth 100000 in
set_option maxHeartbeats 2000000 in
theorem psPeek_any (p : Nat) (s : List UInt8) (st : PS) (w : World) (h : PAt w p s st) (hs : s.length ≤ 65536) :
    Calls Tryz.prog 73 #[ptr p] w (PsPost p s w st.skip (.int .u8 (st.skip.head.toNat : Nat))) := by
  have h0 : PeekAt w p s st w := ⟨0, Nat.zero_le _, by have e : st.adv 0 = st := by cases st; simp [PS.adv]
                                                       rw [e]; exact h, Far.refl _ _⟩
  have HP := Lib.hid h
  have hsz : (⟨s.toArray⟩ : ByteArray).size = s.length := str_size s
  have HW : Hid (∀ k, k < PS.wsN st.rest → st.at_ + k < s.length ∧ PS.isWs (s.getD (st.at_ + k) 0) = true) := fun k hk => by
    obtain ⟨h1, h2⟩ := wsN_lt hk
    have := h.tot
    rw [h.rest, drop_getD] at h2
    exact ⟨by omega, h2⟩
  have HV : Hid (st.at_ + PS.wsN st.rest < s.length → PS.isWs (s.getD (st.at_ + PS.wsN st.rest) 0) = false ∧ st.skip.head = s.getD (st.at_ + PS.wsN st.rest) 0) := fun hl => by
    have hl2 : PS.wsN st.rest < st.rest.length := by have := h.tot; omega
    have h1 := wsN_stop hl2
    have h3 : ∀ k, st.rest.getD k 0 = s.getD (st.at_ + k) 0 := fun k => by rw [h.rest, drop_getD]
    rw [h3] at h1
    refine ⟨h1, ?_⟩
    rw [← h3]
    show (st.rest.drop _).headD 0 = _
    rw [List.headD_eq_head?_getD, List.head?_drop]; simp [List.getD]
  have HE : Hid (¬ st.at_ + PS.wsN st.rest < s.length → st.skip.head = 0) := fun hl => by
    have hl2 : st.rest.length ≤ PS.wsN st.rest := by have := h.tot; omega
    show (st.rest.drop _).headD 0 = _
    rw [List.drop_eq_nil_of_le hl2]; rfl
  have HI := Lib.hid (fun c W => IndexByte_any ⟨#[32, 9, 10, 13]⟩ c W)
  have HN : Hid (PS.wsN st.rest ≤ st.rest.length) := PS.wsN_le _
  clear h
  go_enter Tryz.func73, Tryz.ntmps73
  go_wp2_with fail
  go_loopw [] (fun wr => PeekAt w p s st wr) (fun wr => s.length - (intOf ((wr.cell? ⟨p, 1, none⟩).getD undef)).toNat)
  case atStart => exact h0
  case round =>
    obtain ⟨k, hk, hp, hf⟩ := hrel
    obtain ⟨c0, c1, c2, c3, c4, c5⟩ := hp.cells
    have f1 := hp.frz 1
    have HPR := Lib.hid hp
    have HFR := Lib.hid hf
    have hle : st.at_ + k ≤ s.length := hp.at_le
    rw [show (st.adv k).at_ = st.at_ + k from rfl] at c1
    clear c2 c3 c4 c5 hp hf
    by_cases hlt : k < PS.wsN st.rest
    · obtain ⟨h1, h2⟩ := HW.out k hlt
      have hidx := fun W => str_at s (st.at_ + k) h1 W
      rw [isWs_has] at h2
      have hix : 0 ≤ Lib.indexByte [32, 9, 10, 13] (s.getD (st.at_ + k) 0) := of_decide_eq_true ((index_ge _ _).trans h2)
      have HIX : Hid (∀ W, Calls Tryz.prog 126 #[.string ⟨#[32, 9, 10, 13]⟩, .int .u8 ((s.getD (st.at_ + k) 0).toNat : Nat)] W fun e w' => e = .returned (.int .i64 (Lib.indexByte [32, 9, 10, 13] (s.getD (st.at_ + k) 0))) ∧ w' = W) := fun W => by
        have := HI.out ((s.getD (st.at_ + k) 0).toNat : Nat) W
        simpa using this
      have hput : ∀ n, PAt ((wr.drewN n).setCell ⟨p, 1, none⟩ (.int .i64 ((st.at_ + k + 1 : Nat) : Int))) p s (st.adv (k + 1)) := fun n => by
        have := (show PAt (wr.drewN n) p s (st.adv k) from ⟨HPR.out.row, HPR.out.rest, HPR.out.tot⟩).put_adv 1 (by show 1 ≤ (st.rest.drop k).length; rw [List.length_drop]; have := HN.out; omega)
        rw [PS.adv_adv] at this; exact this
      have HPUT := Lib.hid hput
      clear hput
      have hc' : ((st.at_ + k : Nat) : Int) < (s.length : Nat) := by omega
      clear h2
      generalize Lib.indexByte [32, 9, 10, 13] (s.getD (st.at_ + k) 0) = ix at *
      generalize (s.getD (st.at_ + k) 0).toNat = c at *
      generalize hak : st.at_ + k = a at *
      have HAK := Lib.hid hak
      clear hak
      generalize hss : (⟨s.toArray⟩ : ByteArray) = S at *
      have HSS := Lib.hid hss
      clear hss
      go_wp2_with fail
      go_quiet ((go_at_call 126; exact Calls.quiet_of_same (HIX.out _)))
      go_wp2_with fail
      go_roundw
      case rel => exact ⟨k + 1, hlt, HPUT.out _, (HFR.out.drew _).set _ _⟩
      case measure =>
        have e1 := (HPUT.out nq).cells.2.1
        have e2 : (st.adv (k + 1)).at_ = a + 1 := by rw [← HAK.out]; rfl
        rw [e2] at e1
        have e3 : ((a : Int) + 1) = ((a + 1 : Nat) : Int) := by omega
        rw [e3, e1, c1]
        simp [intOf]; omega
    · obtain rfl : k = PS.wsN st.rest := by omega
      by_cases hat : st.at_ + PS.wsN st.rest < s.length
      · obtain ⟨h2, h3⟩ := HV.out hat
        have hidx := fun W => str_at s (st.at_ + PS.wsN st.rest) hat W
        rw [isWs_has] at h2
        have hix : Lib.indexByte [32, 9, 10, 13] (s.getD (st.at_ + PS.wsN st.rest) 0) < 0 := Int.not_le.1 (of_decide_eq_false ((index_ge _ _).trans h2))
        have HIX : Hid (∀ W, Calls Tryz.prog 126 #[.string ⟨#[32, 9, 10, 13]⟩, .int .u8 ((s.getD (st.at_ + PS.wsN st.rest) 0).toNat : Nat)] W fun e w' => e = .returned (.int .i64 (Lib.indexByte [32, 9, 10, 13] (s.getD (st.at_ + PS.wsN st.rest) 0))) ∧ w' = W) := fun W => by
          have := HI.out ((s.getD (st.at_ + PS.wsN st.rest) 0).toNat : Nat) W
          simpa using this
        have HH : Hid (st.skip.head.toNat = (s.getD (st.at_ + PS.wsN st.rest) 0).toNat) := by show _ = _; rw [h3]
        have hc' : ((st.at_ + PS.wsN st.rest : Nat) : Int) < (s.length : Nat) := by omega
        have HPW : Hid (PAt wr p s st.skip) := HPR.out
        clear h2 h3 HW HV HE
        generalize Lib.indexByte [32, 9, 10, 13] (s.getD (st.at_ + PS.wsN st.rest) 0) = ix at *
        generalize (s.getD (st.at_ + PS.wsN st.rest) 0).toNat = c at *
        generalize hak : st.at_ + PS.wsN st.rest = a at *
        clear hak
        generalize hss : (⟨s.toArray⟩ : ByteArray) = S at *
        clear hss
        go_wp2_with fail
        go_quiet ((go_at_call 126; exact Calls.quiet_of_same (HIX.out _)))
        go_wp2_with fail
        go_quiet (fail)
        go_wp2_with fail
        go_quiet (fail)
        go_wp2_with fail
        go_ret
        exact ⟨by rw [HH.out]; rfl, by repeat (first | exact HPW.out | refine PAt.drew ?_ _), by repeat (first | exact HFR.out | refine Far.drew ?_ _)⟩
      · have h3 := HE.out hat
        have HH : Hid (st.skip.head.toNat = 0) := by show _ = _; rw [h3]; rfl
        have HPW : Hid (PAt wr p s st.skip) := HPR.out
        have hc' : ¬ ((st.at_ + PS.wsN st.rest : Nat) : Int) < (s.length : Nat) := by omega
        have hc2 : ((s.length : Nat) : Int) ≤ ((st.at_ + PS.wsN st.rest : Nat) : Int) := by omega
        clear h3 HW HV HE
        generalize hak : st.at_ + PS.wsN st.rest = a at *
        clear hak
        generalize hss : (⟨s.toArray⟩ : ByteArray) = S at *
        clear hss
        go_wp2_with fail
        go_quiet (fail)
        go_wp2_with fail
        go_quiet (fail)
        go_wp2_with fail
        go_ret
        exact ⟨by rw [HH.out]; rfl, by repeat (first | exact HPW.out | refine PAt.drew ?_ _), by repeat (first | exact HFR.out | refine Far.drew ?_ _)⟩
theorem PS.take_no {st : PS} {b : UInt8} (hr : st.rest ≠ []) (h : ¬ (st.skip.rest ≠ [] ∧ st.skip.head = b)) : st.take b = (st.skip, false) := by unfold PS.take; rw [if_neg hr, if_neg h]
theorem PS.take_yes {st : PS} {b : UInt8} (hr : st.rest ≠ []) (h : st.skip.rest ≠ [] ∧ st.skip.head = b) : st.take b = (st.skip.adv 1, true) := by unfold PS.take; rw [if_neg hr, if_pos h]
set_option maxRecDepth 100000 in
set_option maxHeartbeats 4000000 in
theorem psTake_any (p : Nat) (s : List UInt8) (st : PS) (w : World) (h : PAt w p s st) (hs : s.length ≤ 65536) (b : UInt8) (hb : b ≠ 0) :
    Calls Tryz.prog 130 #[ptr p, .int .u8 (b.toNat : Nat)] w (PsPost p s w (st.take b).1 (.bool (st.take b).2)) := by
  obtain ⟨c0, c1, c2, c3, c4, c5⟩ := h.cells
  have hsz : (⟨s.toArray⟩ : ByteArray).size = s.length := str_size s
  have ht := h.tot
  have hln : st.at_ ≤ s.length := h.at_le
  by_cases hr : st.rest = []
  · have HT : Hid (st.take b = (st, false)) := PS.take_nil hr b
    have hl : st.at_ = s.length := by rw [hr] at ht; simpa using ht
    have hc1 : ¬ ((st.at_ : Nat) : Int) < (s.length : Nat) := by omega
    have hc2 : ¬ st.at_ < s.length := by omega
    have HP := Lib.hid h
    rw [HT.out]
    clear h ht hr hl
    generalize st.at_ = a at *
    go_enter Tryz.func130, Tryz.ntmps130
    go_wp2_with fail
    go_quiet (fail)
    go_wp2_with fail
    go_ret
    exact ⟨rfl, by repeat (first | exact HP.out | refine PAt.drew ?_ _), by repeat (first | exact Far.refl _ _ | refine Far.drew ?_ _)⟩
  · have hl : st.at_ < s.length := by have := List.length_pos_iff.2 hr; omega
    have hc1 : ((st.at_ : Nat) : Int) < (s.length : Nat) := by omega
    have HPK := Lib.hid (fun n => psPeek_any p s st (w.drewN n) (h.drew n) hs)
    have HPK1 := Lib.hid (psPeek_any p s st w.drew ⟨h.row, h.rest, h.tot⟩ hs)
    obtain ⟨S, hS⟩ : ∃ S : World → Prop, ∀ W', S W' ↔ W'.cell? ⟨p, 0, none⟩ = some (.string ⟨s.toArray⟩) := ⟨_, fun _ => Iff.rfl⟩
    have cs : ∀ q : InC S, q.w.cell? ⟨p, 0, none⟩ = some (.string ⟨s.toArray⟩) := fun q => (hS q.w).1 q.h
    have hS0 : S w.drew := (hS _).2 c0
    have hne : Nonempty (InC S) := ⟨⟨_, hS0⟩⟩
    have HS := Lib.hid hS
    have c1' : w.drew.cell? ⟨p, 1, none⟩ = some (.int .i64 (st.at_ : Nat)) := c1
    clear h hS c0 c1 c2 c3 c4 c5 ht
    by_cases hq : st.skip.rest ≠ [] ∧ st.skip.head = b
    · have HT : Hid (st.take b = (st.skip.adv 1, true)) := PS.take_yes hr hq
      have hl2 : 1 ≤ st.skip.rest.length := List.length_pos_iff.2 hq.1
      have HE : Hid (st.skip.head.toNat = b.toNat) := by show _ = _; rw [hq.2]
      have heq : (((st.skip.head.toNat : Nat) : Int) == ((b.toNat : Nat) : Int)) = true := by rw [HE.out]; simp
      rw [HT.out]
      clear hr hl hq
      generalize st.at_ = a at *
      go_enter Tryz.func130, Tryz.ntmps130
      go_wp2_with fail
      refine wp_region_mix S [0, 1, 2, 4, 5, 6, 7, 8, 9, 10, 11, 13, 14, 15, 16, 17, 18, 19, 21, 22, 23, 24, 25, 26, 27] [0, 1, 2, 4, 5, 6, 7, 8, 3, 9, 10, 11, 13, 12, 14, 15, 16, 17, 18, 19, 21, 22, 23, 24, 25, 20, 26, 27] (by kernel_rfl) (by kernel_rfl) hS0 ?_
      (repeat ((with_reducible refine wpMix_read (o := ?_) ?_ ?_ ?_); rotate_left; (· rfl); (· rfl); go_big_quiet_step (fail); (with_reducible refine wpQuiet_nil ?_)))
      refine wpMix_eff (k := true) rfl rfl (by kernel_rfl) ?_
      go_wp2_with fail
      refine mixPost_keep hS0 ?_
      (repeat ((with_reducible refine wpMix_read (o := ?_) ?_ ?_ ?_); rotate_left; (· rfl); (· rfl); go_big_quiet_step (fail); (with_reducible refine wpQuiet_nil ?_)))
      refine wpMix_eff (k := true) rfl rfl (by kernel_rfl) ?_
      go_wp2_with fail
      refine HPK1.out.mono ?_
      rintro e w2 ⟨rfl, hp2, hf2⟩
      have d0 := hp2.cells.1
      have d1 := hp2.cells.2.1
      have hS2 : S w2 := (HS.out _).2 d0
      have f1 := hp2.frz 1
      have HP2 := Lib.hid hp2
      have HF2 := Lib.hid ((show Far p w w.drew from Far.drew (Far.refl p w) 1).trans hf2)
      have ha2 : st.skip.at_ < s.length := by have := hp2.tot; omega
      have hd1 : ((st.skip.at_ : Nat) : Int) < (s.length : Nat) := by omega
      clear hp2 hf2
      obtain ⟨a2, HA2⟩ : ∃ a2, Hid (a2 = st.skip.at_) := ⟨_, rfl⟩
      rw [← HA2.out] at d1 ha2 hd1
      go_wp2_with fail
      refine mixPost_keep hS2 ?_
      (repeat ((with_reducible refine wpMix_read (o := ?_) ?_ ?_ ?_); rotate_left; (· rfl); (· rfl); go_big_quiet_step (fail); (with_reducible refine wpQuiet_nil ?_)))
      refine wpMix_eff (k := true) rfl rfl (by kernel_rfl) ?_
      go_wp2_with fail
      refine mixPost_keep hS2 ?_
      (repeat ((with_reducible refine wpMix_read (o := ?_) ?_ ?_ ?_); rotate_left; (· rfl); (· rfl); go_big_quiet_step (fail); (with_reducible refine wpQuiet_nil ?_)))
      refine wpMix_nil ?_
      go_wp2_with fail
      go_ret
      exact ⟨rfl, HP2.out.put_adv' 1 _ HA2.out hl2, HF2.out.set _ _⟩
    · have HT : Hid (st.take b = (st.skip, false)) := PS.take_no hr hq
      have hne' : st.skip.head ≠ b := fun e => by
        by_cases hr2 : st.skip.rest = []
        · apply hb
          rw [← e]
          show st.skip.rest.headD 0 = 0
          rw [hr2]; rfl
        · exact hq ⟨hr2, e⟩
      have heq : (((st.skip.head.toNat : Nat) : Int) == ((b.toNat : Nat) : Int)) = false := by
        rw [beq_eq_false_iff_ne]
        intro e
        exact hne' (UInt8.toNat_inj.1 (by omega))
      rw [HT.out]
      clear hr hl hq hne' hb HPK
      generalize st.at_ = a at *
      generalize st.skip.head.toNat = c at *
      generalize b.toNat = d at *
      go_enter Tryz.func130, Tryz.ntmps130
      go_wp2_with fail
      refine wp_region_mix S [0, 1, 2, 4, 5, 6, 7, 8, 9, 10, 11, 13, 14, 15, 16, 17, 18, 19, 20, 21, 22, 23, 24, 25, 26, 27] [0, 1, 2, 4, 5, 6, 7, 8, 3, 9, 10, 11, 13, 12, 14, 15, 16, 17, 18, 19, 20, 21, 22, 23, 24, 25, 26, 27] (by kernel_rfl) (by kernel_rfl) hS0 ?_
      (repeat ((with_reducible refine wpMix_read (o := ?_) ?_ ?_ ?_); rotate_left; (· rfl); (· rfl); go_big_quiet_step (fail); (with_reducible refine wpQuiet_nil ?_)))
      refine wpMix_eff (k := true) rfl rfl (by kernel_rfl) ?_
      go_wp2_with fail
      refine mixPost_keep hS0 ?_
      (repeat ((with_reducible refine wpMix_read (o := ?_) ?_ ?_ ?_); rotate_left; (· rfl); (· rfl); go_big_quiet_step (fail); (with_reducible refine wpQuiet_nil ?_)))
      refine wpMix_eff (k := true) rfl rfl (by kernel_rfl) ?_
      go_wp2_with fail
      refine HPK1.out.mono ?_
      rintro e w2 ⟨rfl, hp2, hf2⟩
      have hS2 : S w2 := (HS.out _).2 hp2.cells.1
      have HP2 := Lib.hid hp2
      have HF2 := Lib.hid ((show Far p w w.drew from Far.drew (Far.refl p w) 1).trans hf2)
      clear hp2 hf2
      go_wp2_with fail
      refine mixPost_keep hS2 ?_
      (repeat ((with_reducible refine wpMix_read (o := ?_) ?_ ?_ ?_); rotate_left; (· rfl); (· rfl); go_big_quiet_step (fail); (with_reducible refine wpQuiet_nil ?_)))
      refine wpMix_nil ?_
      go_wp2_with fail
      go_ret
      exact ⟨rfl, HP2.out, HF2.out⟩
end Go.Proofs.YtgamknphlmcgnaaGreatDoor
namespace Go.Proofs.YtgamknphlmcgnaaGreatDoor
open Go.RowKit
theorem strFrom (l : List UInt8) (k : Nat) (h : k ≤ l.length) (w : World) : (Instr.slice 9 (.string ⟨l.toArray⟩) (some (.int .i64 (k : Int))) none none).run Tryz.prog w = .ok (.string ⟨(l.drop k).toArray⟩) w := by
  have hs : (⟨l.toArray⟩ : ByteArray).size = l.length := str_size l
  have e : (⟨l.toArray⟩ : ByteArray).extract k l.length = ⟨(l.drop k).toArray⟩ := by
    refine ByteArray.ext ?_
    rw [ByteArray.data_extract]
    apply Array.toList_inj.1
    simp [List.take_of_length_le]
  simp [Instr.slice, run_underlying Tryz.underlying9, Instr.sliceBounds, hs, go_sem, h, e]
theorem strFromAt (l : List UInt8) (k : Nat) (h : k ≤ l.length) (w : World) : (Instr.sliceAt 9 (.string ⟨l.toArray⟩) (some (.int .i64 (k : Int))) none none).run Tryz.prog w = .ok (.string ⟨(l.drop k).toArray⟩) w := by
  rw [run_sliceAt_string _ _ _ _ _ _ Tryz.underlying9]; exact strFrom l k h w
theorem indexByte_idx (l : List UInt8) (c : UInt8) (h : l.contains c = true) : Lib.indexByte l c = (l.idxOf c : Nat) := by
  induction l with
  | nil => simp at h
  | cons a l ih =>
    rw [Lib.indexByte, List.idxOf_cons]
    by_cases e : a = c
    · simp [e]
    · have h' : l.contains c = true := by
        rw [List.contains_cons] at h
        have : (c == a) = false := by simp; exact fun e2 => e e2.symm
        simpa [this] using h
      have hi := ih h'
      have hb : (a == c) = false := by simpa using e
      have : (((l.idxOf c : Nat) : Int) == -1) = false := by rw [beq_eq_false_iff_ne]; omega
      rw [hi]
      simp [hb, this]
theorem digit_any (c : Nat) (hc : c < 256) (w : World) : Calls Tryz.prog 221 #[.int .u8 (c : Int)] w fun e w' => e = .returned (.int .i64 (Lib.indexByte PS.hexL c.toUInt8)) ∧ w' = w := by
  have HI := Lib.hid (IndexByte_any ⟨#[48, 49, 50, 51, 52, 53, 54, 55, 56, 57, 97, 98, 99, 100, 101, 102]⟩ (c : Int) w)
  have HE : Hid (Lib.indexByte PS.hexL c.toUInt8 = Lib.indexByte (⟨#[48, 49, 50, 51, 52, 53, 54, 55, 56, 57, 97, 98, 99, 100, 101, 102]⟩ : ByteArray).data.toList ((c : Int).toNat.toUInt8)) := by show _ = _; rw [Int.toNat_natCast]; rfl
  rw [HE.out]
  generalize Lib.indexByte (⟨#[48, 49, 50, 51, 52, 53, 54, 55, 56, 57, 97, 98, 99, 100, 101, 102]⟩ : ByteArray).data.toList ((c : Int).toNat.toUInt8) = r at *
  go_enter Tryz.func221, Tryz.ntmps221
  go_wp2_with fail
  refine HI.out.mono ?_
  rintro e w' ⟨rfl, rfl⟩
  go_wp2_with fail
  go_ret
  exact ⟨rfl, rfl⟩
/-- what reading one byte leaves -/
def OnePost (p : Nat) (s : List UInt8) (w : World) (r : PS × Nat) (e : Ending) (w' : World) : Prop := e = .returned (.int .u8 (r.2 : Nat)) ∧ PAt w' p s r.1 ∧ Far p w w'
set_option maxRecDepth 100000 in
theorem one_nil (p : Nat) (s : List UInt8) (st : PS) (w : World) (h : PAt w p s st) (hs : s.length ≤ 65536) (hr : st.rest = []) :
    Calls Tryz.prog 215 #[ptr p] w (OnePost p s w st.one) := by
  have HO : Hid (st.one = (st.fail 2, 0)) := by show _ = _; unfold PS.one; rw [hr]
  rw [HO.out]
  obtain ⟨c0, c1, c2, c3, c4, c5⟩ := h.cells
  have hsz : (⟨s.toArray⟩ : ByteArray).size = s.length := str_size s
  have ht := h.tot
  have hl : st.at_ = s.length := by rw [hr] at ht; simpa using ht
  have hc1 : ¬ ((st.at_ : Nat) : Int) < (s.length : Nat) := by omega
  have hc2 : ¬ st.at_ < s.length := by omega
  have hc3 : ((s.length : Nat) : Int) ≤ ((st.at_ : Nat) : Int) := by omega
  have hc4 : s.length ≤ st.at_ := by omega
  have HF := Lib.hid (fun n => psFail_any p s st (w.drewN n) (h.drew n) hs 2 (by omega))
  clear h ht hr hl c2 c3 c4 c5
  generalize st.at_ = a at *
  go_enter Tryz.func215, Tryz.ntmps215
  go_wp2_with fail
  go_quiet (fail)
  go_wp2_with fail
  refine (HF.out _).mono ?_
  rintro e w2 ⟨rfl, hp2, hf2⟩
  go_wp2_with fail
  go_ret
  exact ⟨rfl, hp2, ((Far.refl _ _).drew _).trans hf2⟩
/-- ahead of the last fail -/
theorem one_at (w : World) (p : Nat) (s : List UInt8) (st : PS) (h : PAt w p s st) (b : UInt8) (r : List UInt8) (hr : st.rest = b :: r) : st.at_ < s.length ∧ s.getD st.at_ 0 = b ∧ s.drop (st.at_ + 1) = r ∧ st.at_ + 1 + r.length = s.length := by
  have ht := h.tot
  have hd := h.rest
  rw [hr] at ht hd
  simp only [List.length_cons] at ht
  refine ⟨by omega, ?_, ?_, by omega⟩
  · have : (s.drop st.at_).getD 0 0 = b := by rw [← hd]; rfl
    rw [drop_getD] at this; simpa using this
  · have : (s.drop st.at_).drop 1 = r := by rw [← hd]; rfl
    rw [List.drop_drop] at this; exact this
set_option maxRecDepth 100000 in
set_option maxHeartbeats 2000000 in
theorem one_plain (p : Nat) (s : List UInt8) (st : PS) (w : World) (h : PAt w p s st) (hs : s.length ≤ 65536) (b : UInt8) (r : List UInt8) (hr : st.rest = b :: r) (hb : b ≠ 92) :
    Calls Tryz.prog 215 #[ptr p] w (OnePost p s w st.one) := by
  have HO : Hid (st.one = if PS.plainBad b then (st.fail 2, 0) else (st.adv 1, b.toNat)) := by show _ = _; unfold PS.one; rw [hr]; simp only; rw [if_pos hb]
  obtain ⟨c0, c1, c2, c3, c4, c5⟩ := h.cells
  have hsz : (⟨s.toArray⟩ : ByteArray).size = s.length := str_size s
  obtain ⟨hl, hg, hd, ht⟩ := one_at w p s st h b r hr
  have hidx := fun W => str_at s st.at_ hl W
  rw [hg] at hidx
  have hc1 : ((st.at_ : Nat) : Int) < (s.length : Nat) := by omega
  have hc2 : ¬ s.length ≤ st.at_ := by omega
  have HF := Lib.hid (fun n => psFail_any p s st (w.drewN n) (h.drew n) hs 2 (by omega))
  have HP := Lib.hid h
  have hk1 : 1 ≤ st.rest.length := by rw [hr]; simp
  have HA := Lib.hid (fun W (hp : PAt W p s st) => hp.put_adv' 1 st.at_ rfl hk1)
  have h92 : (((b.toNat : Nat) : Int) == 92) = false := by rw [beq_eq_false_iff_ne]; intro e; exact hb (UInt8.toNat_inj.1 (by show b.toNat = 92; omega))
  have hbl := b.toNat_lt
  have HIX : Hid (∀ W, Calls Tryz.prog 126 #[.string ⟨#[40, 41, 91, 93, 124, 38, 45, 42, 43, 63, 46, 92, 32, 9, 10, 13]⟩, .int .u8 (b.toNat : Nat)] W fun e w' => e = .returned (.int .i64 (Lib.indexByte specials b)) ∧ w' = W) := fun W => by
    have := IndexByte_any ⟨#[40, 41, 91, 93, 124, 38, 45, 42, 43, 63, 46, 92, 32, 9, 10, 13]⟩ ((b.toNat : Nat) : Int) W
    simpa [specials] using this
  have hge := index_ge specials b
  have f1 := h.frz 1
  have HB : Hid (PS.plainBad b = (decide (b.toNat < 32) || decide (127 ≤ b.toNat) || decide (0 ≤ Lib.indexByte specials b))) := by
    show _ = _
    rw [hge]; unfold PS.plainBad
    congr 1
  clear h hr hl hg hd hb hge c2 c3 c4 c5
  rw [HO.out, HB.out]
  generalize Lib.indexByte specials b = ix at *
  generalize b.toNat = n at *
  generalize hat : st.at_ = a at *
  clear hat
  by_cases h1 : n < 32
  · have h1' : decide ((n : Int) < 32) = true := decide_eq_true (by omega)
    have HX : Hid ((if (decide (n < 32) || decide (127 ≤ n) || decide (0 ≤ ix)) = true then (st.fail 2, 0) else (st.adv 1, n)) = (st.fail 2, 0)) := by show _ = _; simp [h1]
    rw [HX.out]
    go_enter Tryz.func215, Tryz.ntmps215
    go_wp2_with fail
    go_quiet (fail)
    go_wp2_with fail
    go_quiet (fail)
    go_wp2_with fail
    refine (HF.out _).mono ?_
    rintro e w2 ⟨rfl, hp2, hf2⟩
    go_wp2_with fail
    go_ret
    exact ⟨rfl, hp2, ((Far.refl _ _).drew _).trans hf2⟩
  · have h1' : decide ((n : Int) < 32) = false := decide_eq_false (by omega)
    by_cases h2 : 127 ≤ n
    · have h2' : decide ((127 : Int) ≤ (n : Int)) = true := decide_eq_true (by omega)
      have HX : Hid ((if (decide (n < 32) || decide (127 ≤ n) || decide (0 ≤ ix)) = true then (st.fail 2, 0) else (st.adv 1, n)) = (st.fail 2, 0)) := by show _ = _; simp [h2]
      rw [HX.out]
      go_enter Tryz.func215, Tryz.ntmps215
      go_wp2_with fail
      go_quiet (fail)
      go_wp2_with fail
      go_quiet (fail)
      go_wp2_with fail
      refine (HF.out _).mono ?_
      rintro e w2 ⟨rfl, hp2, hf2⟩
      go_wp2_with fail
      go_ret
      exact ⟨rfl, hp2, ((Far.refl _ _).drew _).trans hf2⟩
    · have h2' : decide ((127 : Int) ≤ (n : Int)) = false := decide_eq_false (by omega)
      by_cases h3 : 0 ≤ ix
      · have HX : Hid ((if (decide (n < 32) || decide (127 ≤ n) || decide (0 ≤ ix)) = true then (st.fail 2, 0) else (st.adv 1, n)) = (st.fail 2, 0)) := by show _ = _; simp [h3]
        rw [HX.out]
        go_enter Tryz.func215, Tryz.ntmps215
        go_wp2_with fail
        go_quiet (fail)
        go_wp2_with fail
        go_quiet (fail)
        go_wp2_with fail
        refine (HIX.out _).mono ?_
        rintro e w2 ⟨rfl, rfl⟩
        go_wp2_with fail
        refine (HF.out _).mono ?_
        rintro e w2 ⟨rfl, hp2, hf2⟩
        go_wp2_with fail
        go_ret
        exact ⟨rfl, hp2, ((Far.refl _ _).drew _).trans hf2⟩
      · have HX : Hid ((if (decide (n < 32) || decide (127 ≤ n) || decide (0 ≤ ix)) = true then (st.fail 2, 0) else (st.adv 1, n)) = (st.adv 1, n)) := by show _ = _; simp [h1, h2, h3]
        rw [HX.out]
        go_enter Tryz.func215, Tryz.ntmps215
        go_wp2_with fail
        go_quiet (fail)
        go_wp2_with fail
        go_quiet (fail)
        go_wp2_with fail
        refine (HIX.out _).mono ?_
        rintro e w2 ⟨rfl, rfl⟩
        go_wp2_with fail
        go_ret
        exact ⟨rfl, HA.out _ (HP.out.drew _), (Far.drew (Far.refl _ _) _).set _ _⟩
/-- behind a backslash, c -/
def escW (st : PS) (c : UInt8) (r : List UInt8) : PS × Nat :=
  if c = 110 then (st.adv 2, 10)
  else if c = 116 then (st.adv 2, 9)
  else if c = 120 then
    match r with
    | h :: l :: _ => if PS.isHex h && PS.isHex l then (st.adv 4, PS.hexV h * 16 + PS.hexV l) else (st.fail 2, 0)
    | _ => (st.fail 2, 0)
  else if PS.escOk c then (st.adv 2, c.toNat) else (st.fail 2, 0)
theorem one_esc_eq (st : PS) (c : UInt8) (r : List UInt8) (h : st.rest = 92 :: c :: r) : st.one = escW st c r := by
  unfold PS.one
  rw [h]
  simp only [ne_eq, not_true_eq_false, if_false]
  rfl
theorem one_end_eq (st : PS) (h : st.rest = [92]) : st.one = (st.fail 2, 0) := by
  unfold PS.one
  rw [h]
  simp
theorem hexV_idx (c : UInt8) (h : PS.isHex c = true) : Lib.indexByte PS.hexL c = (PS.hexV c : Nat) := indexByte_idx _ _ h
theorem hexV_neg (c : UInt8) (h : PS.isHex c = false) : Lib.indexByte PS.hexL c < 0 := by
  have := index_ge PS.hexL c
  rw [show PS.hexL.contains c = false from h] at this
  exact Int.not_le.1 (of_decide_eq_false this)
end Go.Proofs.YtgamknphlmcgnaaGreatDoor
namespace Go.Proofs.YtgamknphlmcgnaaGreatDoor
open Go.RowKit
set_option maxRecDepth 100000 in
set_option maxHeartbeats 4000000 in
theorem slash_nil (p : Nat) (s : List UInt8) (st : PS) (w : World) (h : PAt w p s st) (hs : s.length ≤ 65536) (hr : st.rest = 92 :: []) :
    Calls Tryz.prog 215 #[ptr p] w (OnePost p s w (st.fail 2, 0)) := by
  obtain ⟨c0, c1, c2, c3, c4, c5⟩ := h.cells
  have hsz : (⟨s.toArray⟩ : ByteArray).size = s.length := str_size s
  obtain ⟨hl, hg, hd, ht⟩ := one_at w p s st h 92 [] hr
  have hidx := fun W => str_at s st.at_ hl W
  rw [hg] at hidx
  have hc1 : ((st.at_ : Nat) : Int) < (s.length : Nat) := by omega
  have hc2 : ¬ s.length ≤ st.at_ := by omega
  have hc3 : ((st.at_ : Nat) : Int) + 1 ≤ (s.length : Nat) := by omega
  have hf1 := fun W => strFrom s (st.at_ + 1) (by omega) W
  have hf2 := fun W => strFromAt s (st.at_ + 1) (by omega) W
  rw [hd, show ((st.at_ + 1 : Nat) : Int) = (st.at_ : Int) + 1 by omega] at hf1 hf2
  have hwr : IntKind.i64.wrap ((st.at_ : Int) + 1) = (st.at_ : Int) + 1 := by rw [IntKind.wrap_i64]; omega
  have HF := Lib.hid (fun W (hp : PAt W p s st) => psFail_any p s st W hp hs 2 (by omega))
  have HP := Lib.hid h
  have HR2 : Hid (st.rest.length = ([] : List UInt8).length + 1) := by show _ = _; rw [hr]; simp
  have HA := Lib.hid (fun W (hp : PAt W p s st) k (hk : k ≤ st.rest.length) => hp.put_adv' k st.at_ rfl hk)
  have f1 := h.frz 1
  clear h hr hl hg hd c2 c3 c4 c5
  generalize hat : st.at_ = a at *
  clear hat
  go_enter Tryz.func215, Tryz.ntmps215
  go_wp2_with fail
  go_quiet (fail)
  go_wp2_with fail
  go_quiet (fail)
  go_wp2_with fail
  go_quiet (fail)
  go_wp2_with fail
  refine (HF.out _ (by repeat (first | exact HP.out | refine PAt.drew ?_ _))).mono ?_
  rintro e w2 ⟨rfl, hp2, hf2⟩
  go_wp2_with fail
  go_ret
  exact ⟨rfl, hp2, (by repeat (first | exact Far.refl _ _ | refine Far.drew ?_ _) : Far p w _).trans hf2⟩
set_option maxRecDepth 100000 in
set_option maxHeartbeats 4000000 in
theorem slash_n (p : Nat) (s : List UInt8) (st : PS) (w : World) (h : PAt w p s st) (hs : s.length ≤ 65536) (r : List UInt8) (hr : st.rest = 92 :: (110 :: r)) :
    Calls Tryz.prog 215 #[ptr p] w (OnePost p s w (st.adv 2, 10)) := by
  obtain ⟨c0, c1, c2, c3, c4, c5⟩ := h.cells
  have hsz : (⟨s.toArray⟩ : ByteArray).size = s.length := str_size s
  obtain ⟨hl, hg, hd, ht⟩ := one_at w p s st h 92 (110 :: r) hr
  have hidx := fun W => str_at s st.at_ hl W
  rw [hg] at hidx
  have hc1 : ((st.at_ : Nat) : Int) < (s.length : Nat) := by omega
  have hc2 : ¬ s.length ≤ st.at_ := by omega
  have hc3 : ((st.at_ : Nat) : Int) + 1 ≤ (s.length : Nat) := by omega
  have hf1 := fun W => strFrom s (st.at_ + 1) (by omega) W
  have hf2 := fun W => strFromAt s (st.at_ + 1) (by omega) W
  rw [hd, show ((st.at_ + 1 : Nat) : Int) = (st.at_ : Int) + 1 by omega] at hf1 hf2
  have hwr : IntKind.i64.wrap ((st.at_ : Int) + 1) = (st.at_ : Int) + 1 := by rw [IntKind.wrap_i64]; omega
  have HF := Lib.hid (fun W (hp : PAt W p s st) => psFail_any p s st W hp hs 2 (by omega))
  have HP := Lib.hid h
  have HR2 : Hid (st.rest.length = ((110 :: r) : List UInt8).length + 1) := by show _ = _; rw [hr]; simp
  have HA := Lib.hid (fun W (hp : PAt W p s st) k (hk : k ≤ st.rest.length) => hp.put_adv' k st.at_ rfl hk)
  have f1 := h.frz 1
  clear h hr hl hg hd c2 c3 c4 c5
  generalize hat : st.at_ = a at *
  clear hat
  have hz : (⟨(110 :: r).toArray⟩ : ByteArray).size = r.length + 1 := str_size (110 :: r)
  have HR2 : Hid (st.rest.length = r.length + 2) := by show _ = _; have := HR2.out; simpa using this
  go_enter Tryz.func215, Tryz.ntmps215
  go_wp2_with fail
  go_quiet (fail)
  go_wp2_with fail
  go_quiet (fail)
  go_wp2_with fail
  go_quiet (fail)
  go_wp2_with fail
  go_ret
  exact ⟨rfl, HA.out _ (by repeat (first | exact HP.out | refine PAt.drew ?_ _)) 2 (by have := HR2.out; omega), (by repeat (first | exact Far.refl _ _ | refine Far.drew ?_ _ | refine Far.set ?_ _ _))⟩
set_option maxRecDepth 100000 in
set_option maxHeartbeats 4000000 in
theorem slash_t (p : Nat) (s : List UInt8) (st : PS) (w : World) (h : PAt w p s st) (hs : s.length ≤ 65536) (r : List UInt8) (hr : st.rest = 92 :: (116 :: r)) :
    Calls Tryz.prog 215 #[ptr p] w (OnePost p s w (st.adv 2, 9)) := by
  obtain ⟨c0, c1, c2, c3, c4, c5⟩ := h.cells
  have hsz : (⟨s.toArray⟩ : ByteArray).size = s.length := str_size s
  obtain ⟨hl, hg, hd, ht⟩ := one_at w p s st h 92 (116 :: r) hr
  have hidx := fun W => str_at s st.at_ hl W
  rw [hg] at hidx
  have hc1 : ((st.at_ : Nat) : Int) < (s.length : Nat) := by omega
  have hc2 : ¬ s.length ≤ st.at_ := by omega
  have hc3 : ((st.at_ : Nat) : Int) + 1 ≤ (s.length : Nat) := by omega
  have hf1 := fun W => strFrom s (st.at_ + 1) (by omega) W
  have hf2 := fun W => strFromAt s (st.at_ + 1) (by omega) W
  rw [hd, show ((st.at_ + 1 : Nat) : Int) = (st.at_ : Int) + 1 by omega] at hf1 hf2
  have hwr : IntKind.i64.wrap ((st.at_ : Int) + 1) = (st.at_ : Int) + 1 := by rw [IntKind.wrap_i64]; omega
  have HF := Lib.hid (fun W (hp : PAt W p s st) => psFail_any p s st W hp hs 2 (by omega))
  have HP := Lib.hid h
  have HR2 : Hid (st.rest.length = ((116 :: r) : List UInt8).length + 1) := by show _ = _; rw [hr]; simp
  have HA := Lib.hid (fun W (hp : PAt W p s st) k (hk : k ≤ st.rest.length) => hp.put_adv' k st.at_ rfl hk)
  have f1 := h.frz 1
  clear h hr hl hg hd c2 c3 c4 c5
  generalize hat : st.at_ = a at *
  clear hat
  have hz : (⟨(116 :: r).toArray⟩ : ByteArray).size = r.length + 1 := str_size (116 :: r)
  have HR2 : Hid (st.rest.length = r.length + 2) := by show _ = _; have := HR2.out; simpa using this
  go_enter Tryz.func215, Tryz.ntmps215
  go_wp2_with fail
  go_quiet (fail)
  go_wp2_with fail
  go_quiet (fail)
  go_wp2_with fail
  go_quiet (fail)
  go_wp2_with fail
  go_ret
  exact ⟨rfl, HA.out _ (by repeat (first | exact HP.out | refine PAt.drew ?_ _)) 2 (by have := HR2.out; omega), (by repeat (first | exact Far.refl _ _ | refine Far.drew ?_ _ | refine Far.set ?_ _ _))⟩
set_option maxRecDepth 100000 in
set_option maxHeartbeats 4000000 in
theorem slash_x_short (p : Nat) (s : List UInt8) (st : PS) (w : World) (h : PAt w p s st) (hs : s.length ≤ 65536) (r : List UInt8) (h3 : r.length < 2) (hr : st.rest = 92 :: (120 :: r)) :
    Calls Tryz.prog 215 #[ptr p] w (OnePost p s w (st.fail 2, 0)) := by
  obtain ⟨c0, c1, c2, c3, c4, c5⟩ := h.cells
  have hsz : (⟨s.toArray⟩ : ByteArray).size = s.length := str_size s
  obtain ⟨hl, hg, hd, ht⟩ := one_at w p s st h 92 (120 :: r) hr
  have hidx := fun W => str_at s st.at_ hl W
  rw [hg] at hidx
  have hc1 : ((st.at_ : Nat) : Int) < (s.length : Nat) := by omega
  have hc2 : ¬ s.length ≤ st.at_ := by omega
  have hc3 : ((st.at_ : Nat) : Int) + 1 ≤ (s.length : Nat) := by omega
  have hf1 := fun W => strFrom s (st.at_ + 1) (by omega) W
  have hf2 := fun W => strFromAt s (st.at_ + 1) (by omega) W
  rw [hd, show ((st.at_ + 1 : Nat) : Int) = (st.at_ : Int) + 1 by omega] at hf1 hf2
  have hwr : IntKind.i64.wrap ((st.at_ : Int) + 1) = (st.at_ : Int) + 1 := by rw [IntKind.wrap_i64]; omega
  have HF := Lib.hid (fun W (hp : PAt W p s st) => psFail_any p s st W hp hs 2 (by omega))
  have HP := Lib.hid h
  have HR2 : Hid (st.rest.length = ((120 :: r) : List UInt8).length + 1) := by show _ = _; rw [hr]; simp
  have HA := Lib.hid (fun W (hp : PAt W p s st) k (hk : k ≤ st.rest.length) => hp.put_adv' k st.at_ rfl hk)
  have f1 := h.frz 1
  clear h hr hl hg hd c2 c3 c4 c5
  generalize hat : st.at_ = a at *
  clear hat
  have hz : (⟨(120 :: r).toArray⟩ : ByteArray).size = r.length + 1 := str_size (120 :: r)
  have g3 : ¬ (3 : Int) ≤ ((r.length : Nat) : Int) + 1 := by omega
  have g4 : ¬ 3 ≤ r.length + 1 := by omega
  have g5 : ¬ 2 ≤ r.length := by omega
  go_enter Tryz.func215, Tryz.ntmps215
  go_wp2_with fail
  go_quiet (fail)
  go_wp2_with fail
  go_quiet (fail)
  go_wp2_with fail
  go_quiet (fail)
  go_wp2_with fail
  refine (HF.out _ (by repeat (first | exact HP.out | refine PAt.drew ?_ _))).mono ?_
  rintro e w2 ⟨rfl, hp2, hf2⟩
  go_wp2_with fail
  go_ret
  exact ⟨rfl, hp2, (by repeat (first | exact Far.refl _ _ | refine Far.drew ?_ _) : Far p w _).trans hf2⟩
theorem hex_or : ∀ x y : Nat, x < 16 → y < 16 → bits .or .i64 ((x : Int) * 16) (y : Int) % 256 = ((x * 16 + y : Nat) : Int) := by
  have key : ∀ x : Nat, x < 16 → ∀ y : Nat, y < 16 → bits .or .i64 ((x : Int) * 16) (y : Int) % 256 = ((x * 16 + y : Nat) : Int) := by decide +kernel
  exact fun x y hx hy => key x hx y hy
set_option maxRecDepth 100000 in
set_option maxHeartbeats 4000000 in
theorem slash_hex (p : Nat) (s : List UInt8) (st : PS) (w : World) (h : PAt w p s st) (hs : s.length ≤ 65536) (h1 h2 : UInt8) (r : List UInt8) (hx1 : PS.isHex h1 = true) (hx2 : PS.isHex h2 = true) (hr : st.rest = 92 :: (120 :: h1 :: h2 :: r)) :
    Calls Tryz.prog 215 #[ptr p] w (OnePost p s w (st.adv 4, PS.hexV h1 * 16 + PS.hexV h2)) := by
  obtain ⟨c0, c1, c2, c3, c4, c5⟩ := h.cells
  have hsz : (⟨s.toArray⟩ : ByteArray).size = s.length := str_size s
  obtain ⟨hl, hg, hd, ht⟩ := one_at w p s st h 92 (120 :: h1 :: h2 :: r) hr
  have hidx := fun W => str_at s st.at_ hl W
  rw [hg] at hidx
  have hc1 : ((st.at_ : Nat) : Int) < (s.length : Nat) := by omega
  have hc2 : ¬ s.length ≤ st.at_ := by omega
  have hc3 : ((st.at_ : Nat) : Int) + 1 ≤ (s.length : Nat) := by omega
  have hf1 := fun W => strFrom s (st.at_ + 1) (by omega) W
  have hf2 := fun W => strFromAt s (st.at_ + 1) (by omega) W
  rw [hd, show ((st.at_ + 1 : Nat) : Int) = (st.at_ : Int) + 1 by omega] at hf1 hf2
  have hwr : IntKind.i64.wrap ((st.at_ : Int) + 1) = (st.at_ : Int) + 1 := by rw [IntKind.wrap_i64]; omega
  have HF := Lib.hid (fun W (hp : PAt W p s st) => psFail_any p s st W hp hs 2 (by omega))
  have HP := Lib.hid h
  have HR2 : Hid (st.rest.length = ((120 :: h1 :: h2 :: r) : List UInt8).length + 1) := by show _ = _; rw [hr]; simp
  have HA := Lib.hid (fun W (hp : PAt W p s st) k (hk : k ≤ st.rest.length) => hp.put_adv' k st.at_ rfl hk)
  have f1 := h.frz 1
  clear h hr hl hg hd c2 c3 c4 c5
  generalize hat : st.at_ = a at *
  clear hat
  have hz : (⟨(120 :: h1 :: h2 :: r).toArray⟩ : ByteArray).size = (h1 :: h2 :: r).length + 1 := str_size (120 :: h1 :: h2 :: r)
  have hi1 := fun W => str_at (120 :: h1 :: h2 :: r) 1 (by simp) W
  have hi2 := fun W => str_at (120 :: h1 :: h2 :: r) 2 (by simp) W
  have HD1 := Lib.hid (fun W => digit_any h1.toNat h1.toNat_lt W)
  have HD2 := Lib.hid (fun W => digit_any h2.toNat h2.toNat_lt W)
  have g3 : (3 : Int) ≤ (((h1 :: h2 :: r).length : Nat) : Int) + 1 := by simp; omega
  have hb1 : h1.toNat.toUInt8 = h1 := by simp
  have hb2 : h2.toNat.toUInt8 = h2 := by simp
  rw [hb1] at HD1
  rw [hb2] at HD2
  have hx4 : 4 ≤ st.rest.length := by rw [HR2.out]; simp
  have HR2 := Lib.hid hx4
  clear hb1 hb2 hx4
  have hv1 := hexV_idx h1 hx1
  have hl1 := PS.hexV_lt hx1
  rw [hv1] at HD1
  have gd1 : (0 : Int) ≤ ((PS.hexV h1 : Nat) : Int) := by omega
  have hv2 := hexV_idx h2 hx2
  have hl2 := PS.hexV_lt hx2
  rw [hv2] at HD2
  have gd2 : (0 : Int) ≤ ((PS.hexV h2 : Nat) : Int) := by omega
  clear hv1 hv2 hx1 hx2
  generalize PS.hexV h1 = x at *
  generalize PS.hexV h2 = y at *
  go_enter Tryz.func215, Tryz.ntmps215
  go_wp2_with fail
  go_quiet (fail)
  go_wp2_with fail
  go_quiet (fail)
  go_wp2_with fail
  go_quiet (fail)
  go_wp2_with fail
  refine (HD1.out _).mono ?_
  rintro e w' ⟨rfl, rfl⟩
  go_wp2_with fail
  refine (HD2.out _).mono ?_
  rintro e w' ⟨rfl, rfl⟩
  go_wp2_with fail
  go_quiet (first | (exact Calls.quiet_of_same (HD1.out _)) | (exact Calls.quiet_of_same (HD2.out _)))
  go_wp2_with fail
  go_ret
  exact ⟨congrArg (fun z => Ending.returned (.int .u8 z)) (hex_or x y hl1 hl2), (HA.out _ (by repeat (first | exact HP.out | refine PAt.drew ?_ _)) 4 HR2.out).drew _, (by repeat (first | exact Far.refl _ _ | refine Far.drew ?_ _ | refine Far.set ?_ _ _))⟩
set_option maxRecDepth 100000 in
set_option maxHeartbeats 4000000 in
theorem slash_hex1 (p : Nat) (s : List UInt8) (st : PS) (w : World) (h : PAt w p s st) (hs : s.length ≤ 65536) (h1 h2 : UInt8) (r : List UInt8) (hx1 : PS.isHex h1 = true) (hx2 : PS.isHex h2 = false) (hr : st.rest = 92 :: (120 :: h1 :: h2 :: r)) :
    Calls Tryz.prog 215 #[ptr p] w (OnePost p s w (st.fail 2, 0)) := by
  obtain ⟨c0, c1, c2, c3, c4, c5⟩ := h.cells
  have hsz : (⟨s.toArray⟩ : ByteArray).size = s.length := str_size s
  obtain ⟨hl, hg, hd, ht⟩ := one_at w p s st h 92 (120 :: h1 :: h2 :: r) hr
  have hidx := fun W => str_at s st.at_ hl W
  rw [hg] at hidx
  have hc1 : ((st.at_ : Nat) : Int) < (s.length : Nat) := by omega
  have hc2 : ¬ s.length ≤ st.at_ := by omega
  have hc3 : ((st.at_ : Nat) : Int) + 1 ≤ (s.length : Nat) := by omega
  have hf1 := fun W => strFrom s (st.at_ + 1) (by omega) W
  have hf2 := fun W => strFromAt s (st.at_ + 1) (by omega) W
  rw [hd, show ((st.at_ + 1 : Nat) : Int) = (st.at_ : Int) + 1 by omega] at hf1 hf2
  have hwr : IntKind.i64.wrap ((st.at_ : Int) + 1) = (st.at_ : Int) + 1 := by rw [IntKind.wrap_i64]; omega
  have HF := Lib.hid (fun W (hp : PAt W p s st) => psFail_any p s st W hp hs 2 (by omega))
  have HP := Lib.hid h
  have HR2 : Hid (st.rest.length = ((120 :: h1 :: h2 :: r) : List UInt8).length + 1) := by show _ = _; rw [hr]; simp
  have HA := Lib.hid (fun W (hp : PAt W p s st) k (hk : k ≤ st.rest.length) => hp.put_adv' k st.at_ rfl hk)
  have f1 := h.frz 1
  clear h hr hl hg hd c2 c3 c4 c5
  generalize hat : st.at_ = a at *
  clear hat
  have hz : (⟨(120 :: h1 :: h2 :: r).toArray⟩ : ByteArray).size = (h1 :: h2 :: r).length + 1 := str_size (120 :: h1 :: h2 :: r)
  have hi1 := fun W => str_at (120 :: h1 :: h2 :: r) 1 (by simp) W
  have hi2 := fun W => str_at (120 :: h1 :: h2 :: r) 2 (by simp) W
  have HD1 := Lib.hid (fun W => digit_any h1.toNat h1.toNat_lt W)
  have HD2 := Lib.hid (fun W => digit_any h2.toNat h2.toNat_lt W)
  have g3 : (3 : Int) ≤ (((h1 :: h2 :: r).length : Nat) : Int) + 1 := by simp; omega
  have hb1 : h1.toNat.toUInt8 = h1 := by simp
  have hb2 : h2.toNat.toUInt8 = h2 := by simp
  rw [hb1] at HD1
  rw [hb2] at HD2
  have hx4 : 4 ≤ st.rest.length := by rw [HR2.out]; simp
  have HR2 := Lib.hid hx4
  clear hb1 hb2 hx4
  have hv1 := hexV_idx h1 hx1
  have hl1 := PS.hexV_lt hx1
  rw [hv1] at HD1
  have gd1 : (0 : Int) ≤ ((PS.hexV h1 : Nat) : Int) := by omega
  have hv2 := hexV_neg h2 hx2
  clear hv1 hx1 hx2
  generalize PS.hexV h1 = x at *
  generalize Lib.indexByte PS.hexL h2 = y at *
  have gd2 : ¬ (0 : Int) ≤ y := by omega
  go_enter Tryz.func215, Tryz.ntmps215
  go_wp2_with fail
  go_quiet (fail)
  go_wp2_with fail
  go_quiet (fail)
  go_wp2_with fail
  go_quiet (fail)
  go_wp2_with fail
  refine (HD1.out _).mono ?_
  rintro e w' ⟨rfl, rfl⟩
  go_wp2_with fail
  refine (HD2.out _).mono ?_
  rintro e w' ⟨rfl, rfl⟩
  go_wp2_with fail
  refine (HF.out _ (by repeat (first | exact HP.out | refine PAt.drew ?_ _))).mono ?_
  rintro e w2 ⟨rfl, hp2, hf2⟩
  go_wp2_with fail
  go_ret
  exact ⟨rfl, hp2, (by repeat (first | exact Far.refl _ _ | refine Far.drew ?_ _) : Far p w _).trans hf2⟩
set_option maxRecDepth 100000 in
set_option maxHeartbeats 4000000 in
theorem slash_hex0 (p : Nat) (s : List UInt8) (st : PS) (w : World) (h : PAt w p s st) (hs : s.length ≤ 65536) (h1 h2 : UInt8) (r : List UInt8) (hx1 : PS.isHex h1 = false) (hr : st.rest = 92 :: (120 :: h1 :: h2 :: r)) :
    Calls Tryz.prog 215 #[ptr p] w (OnePost p s w (st.fail 2, 0)) := by
  obtain ⟨c0, c1, c2, c3, c4, c5⟩ := h.cells
  have hsz : (⟨s.toArray⟩ : ByteArray).size = s.length := str_size s
  obtain ⟨hl, hg, hd, ht⟩ := one_at w p s st h 92 (120 :: h1 :: h2 :: r) hr
  have hidx := fun W => str_at s st.at_ hl W
  rw [hg] at hidx
  have hc1 : ((st.at_ : Nat) : Int) < (s.length : Nat) := by omega
  have hc2 : ¬ s.length ≤ st.at_ := by omega
  have hc3 : ((st.at_ : Nat) : Int) + 1 ≤ (s.length : Nat) := by omega
  have hf1 := fun W => strFrom s (st.at_ + 1) (by omega) W
  have hf2 := fun W => strFromAt s (st.at_ + 1) (by omega) W
  rw [hd, show ((st.at_ + 1 : Nat) : Int) = (st.at_ : Int) + 1 by omega] at hf1 hf2
  have hwr : IntKind.i64.wrap ((st.at_ : Int) + 1) = (st.at_ : Int) + 1 := by rw [IntKind.wrap_i64]; omega
  have HF := Lib.hid (fun W (hp : PAt W p s st) => psFail_any p s st W hp hs 2 (by omega))
  have HP := Lib.hid h
  have HR2 : Hid (st.rest.length = ((120 :: h1 :: h2 :: r) : List UInt8).length + 1) := by show _ = _; rw [hr]; simp
  have HA := Lib.hid (fun W (hp : PAt W p s st) k (hk : k ≤ st.rest.length) => hp.put_adv' k st.at_ rfl hk)
  have f1 := h.frz 1
  clear h hr hl hg hd c2 c3 c4 c5
  generalize hat : st.at_ = a at *
  clear hat
  have hz : (⟨(120 :: h1 :: h2 :: r).toArray⟩ : ByteArray).size = (h1 :: h2 :: r).length + 1 := str_size (120 :: h1 :: h2 :: r)
  have hi1 := fun W => str_at (120 :: h1 :: h2 :: r) 1 (by simp) W
  have hi2 := fun W => str_at (120 :: h1 :: h2 :: r) 2 (by simp) W
  have HD1 := Lib.hid (fun W => digit_any h1.toNat h1.toNat_lt W)
  have HD2 := Lib.hid (fun W => digit_any h2.toNat h2.toNat_lt W)
  have g3 : (3 : Int) ≤ (((h1 :: h2 :: r).length : Nat) : Int) + 1 := by simp; omega
  have hb1 : h1.toNat.toUInt8 = h1 := by simp
  have hb2 : h2.toNat.toUInt8 = h2 := by simp
  rw [hb1] at HD1
  rw [hb2] at HD2
  have hx4 : 4 ≤ st.rest.length := by rw [HR2.out]; simp
  have HR2 := Lib.hid hx4
  clear hb1 hb2 hx4
  have hv1 := hexV_neg h1 hx1
  clear hx1
  generalize Lib.indexByte PS.hexL h1 = x at *
  have gd1 : ¬ (0 : Int) ≤ x := by omega
  go_enter Tryz.func215, Tryz.ntmps215
  go_wp2_with fail
  go_quiet (fail)
  go_wp2_with fail
  go_quiet (fail)
  go_wp2_with fail
  go_quiet (fail)
  go_wp2_with fail
  refine (HD1.out _).mono ?_
  rintro e w' ⟨rfl, rfl⟩
  go_wp2_with fail
  refine (HF.out _ (by repeat (first | exact HP.out | refine PAt.drew ?_ _))).mono ?_
  rintro e w2 ⟨rfl, hp2, hf2⟩
  go_wp2_with fail
  go_ret
  exact ⟨rfl, hp2, (by repeat (first | exact Far.refl _ _ | refine Far.drew ?_ _) : Far p w _).trans hf2⟩
end Go.Proofs.YtgamknphlmcgnaaGreatDoor
namespace Go.Proofs.YtgamknphlmcgnaaGreatDoor
open Go.RowKit
set_option maxRecDepth 100000 in
set_option maxHeartbeats 4000000 in
theorem sl_space (p : Nat) (s : List UInt8) (st : PS) (w : World) (h : PAt w p s st) (hs : s.length ≤ 65536) (c : UInt8) (r : List UInt8) (hno : c.toNat ≠ 110 ∧ c.toNat ≠ 116 ∧ c.toNat ≠ 120) (hk : c.toNat = 32) (hr : st.rest = 92 :: (c :: r)) :
    Calls Tryz.prog 215 #[ptr p] w (OnePost p s w (st.adv 2, c.toNat)) := by
  obtain ⟨c0, c1, c2, c3, c4, c5⟩ := h.cells
  have hsz : (⟨s.toArray⟩ : ByteArray).size = s.length := str_size s
  obtain ⟨hl, hg, hd, ht⟩ := one_at w p s st h 92 (c :: r) hr
  have hidx := fun W => str_at s st.at_ hl W
  rw [hg] at hidx
  have hc1 : ((st.at_ : Nat) : Int) < (s.length : Nat) := by omega
  have hc2 : ¬ s.length ≤ st.at_ := by omega
  have hc3 : ((st.at_ : Nat) : Int) + 1 ≤ (s.length : Nat) := by omega
  have hf1 := fun W => strFrom s (st.at_ + 1) (by omega) W
  have hf2 := fun W => strFromAt s (st.at_ + 1) (by omega) W
  rw [hd, show ((st.at_ + 1 : Nat) : Int) = (st.at_ : Int) + 1 by omega] at hf1 hf2
  have hwr : IntKind.i64.wrap ((st.at_ : Int) + 1) = (st.at_ : Int) + 1 := by rw [IntKind.wrap_i64]; omega
  have HF := Lib.hid (fun W (hp : PAt W p s st) => psFail_any p s st W hp hs 2 (by omega))
  have HP := Lib.hid h
  have HR2 : Hid (st.rest.length = ((c :: r) : List UInt8).length + 1) := by show _ = _; rw [hr]; simp
  have HA := Lib.hid (fun W (hp : PAt W p s st) k (hk : k ≤ st.rest.length) => hp.put_adv' k st.at_ rfl hk)
  have f1 := h.frz 1
  clear h hr hl hg hd c2 c3 c4 c5
  generalize hat : st.at_ = a at *
  clear hat
  have hz : (⟨(c :: r).toArray⟩ : ByteArray).size = r.length + 1 := str_size (c :: r)
  have hix : (⟨(c :: r).toArray⟩ : ByteArray)[0].toNat = c.toNat := rfl
  have HR2 : Hid (st.rest.length = r.length + 2) := by show _ = _; have := HR2.out; simpa using this
  have hcl := c.toNat_lt
  have g110 : (((c.toNat : Nat) : Int) == 110) = false := by rw [beq_eq_false_iff_ne]; omega
  have g116 : (((c.toNat : Nat) : Int) == 116) = false := by rw [beq_eq_false_iff_ne]; omega
  have g120 : (((c.toNat : Nat) : Int) == 120) = false := by rw [beq_eq_false_iff_ne]; omega
  generalize c.toNat = n at *
  have b1 : ¬ (32 : Int) < (n : Int) := by omega
  have q32 : ((n : Int) == 32) = true := by rw [hk]; rfl
  clear hno hk
  go_enter Tryz.func215, Tryz.ntmps215
  go_wp2_with fail
  go_quiet (fail)
  go_wp2_with fail
  go_quiet (fail)
  go_wp2_with fail
  go_quiet (fail)
  go_wp2_with fail
  go_ret
  exact ⟨rfl, HA.out _ (by repeat (first | exact HP.out | refine PAt.drew ?_ _)) 2 (by have := HR2.out; omega), (by repeat (first | exact Far.refl _ _ | refine Far.drew ?_ _ | refine Far.set ?_ _ _))⟩
set_option maxRecDepth 100000 in
set_option maxHeartbeats 4000000 in
theorem sl_low (p : Nat) (s : List UInt8) (st : PS) (w : World) (h : PAt w p s st) (hs : s.length ≤ 65536) (c : UInt8) (r : List UInt8) (hno : c.toNat ≠ 110 ∧ c.toNat ≠ 116 ∧ c.toNat ≠ 120) (hk : c.toNat < 32) (hr : st.rest = 92 :: (c :: r)) :
    Calls Tryz.prog 215 #[ptr p] w (OnePost p s w (st.fail 2, 0)) := by
  obtain ⟨c0, c1, c2, c3, c4, c5⟩ := h.cells
  have hsz : (⟨s.toArray⟩ : ByteArray).size = s.length := str_size s
  obtain ⟨hl, hg, hd, ht⟩ := one_at w p s st h 92 (c :: r) hr
  have hidx := fun W => str_at s st.at_ hl W
  rw [hg] at hidx
  have hc1 : ((st.at_ : Nat) : Int) < (s.length : Nat) := by omega
  have hc2 : ¬ s.length ≤ st.at_ := by omega
  have hc3 : ((st.at_ : Nat) : Int) + 1 ≤ (s.length : Nat) := by omega
  have hf1 := fun W => strFrom s (st.at_ + 1) (by omega) W
  have hf2 := fun W => strFromAt s (st.at_ + 1) (by omega) W
  rw [hd, show ((st.at_ + 1 : Nat) : Int) = (st.at_ : Int) + 1 by omega] at hf1 hf2
  have hwr : IntKind.i64.wrap ((st.at_ : Int) + 1) = (st.at_ : Int) + 1 := by rw [IntKind.wrap_i64]; omega
  have HF := Lib.hid (fun W (hp : PAt W p s st) => psFail_any p s st W hp hs 2 (by omega))
  have HP := Lib.hid h
  have HR2 : Hid (st.rest.length = ((c :: r) : List UInt8).length + 1) := by show _ = _; rw [hr]; simp
  have HA := Lib.hid (fun W (hp : PAt W p s st) k (hk : k ≤ st.rest.length) => hp.put_adv' k st.at_ rfl hk)
  have f1 := h.frz 1
  clear h hr hl hg hd c2 c3 c4 c5
  generalize hat : st.at_ = a at *
  clear hat
  have hz : (⟨(c :: r).toArray⟩ : ByteArray).size = r.length + 1 := str_size (c :: r)
  have hix : (⟨(c :: r).toArray⟩ : ByteArray)[0].toNat = c.toNat := rfl
  have HR2 : Hid (st.rest.length = r.length + 2) := by show _ = _; have := HR2.out; simpa using this
  have hcl := c.toNat_lt
  have g110 : (((c.toNat : Nat) : Int) == 110) = false := by rw [beq_eq_false_iff_ne]; omega
  have g116 : (((c.toNat : Nat) : Int) == 116) = false := by rw [beq_eq_false_iff_ne]; omega
  have g120 : (((c.toNat : Nat) : Int) == 120) = false := by rw [beq_eq_false_iff_ne]; omega
  generalize c.toNat = n at *
  have b1 : ¬ (32 : Int) < (n : Int) := by omega
  have q32 : ((n : Int) == 32) = false := by rw [beq_eq_false_iff_ne]; omega
  clear hno hk
  go_enter Tryz.func215, Tryz.ntmps215
  go_wp2_with fail
  go_quiet (fail)
  go_wp2_with fail
  go_quiet (fail)
  go_wp2_with fail
  go_quiet (fail)
  go_wp2_with fail
  refine (HF.out _ (by repeat (first | exact HP.out | refine PAt.drew ?_ _))).mono ?_
  rintro e w2 ⟨rfl, hp2, hf2⟩
  go_wp2_with fail
  go_ret
  exact ⟨rfl, hp2, (by repeat (first | exact Far.refl _ _ | refine Far.drew ?_ _) : Far p w _).trans hf2⟩
set_option maxRecDepth 100000 in
set_option maxHeartbeats 4000000 in
theorem sl_high (p : Nat) (s : List UInt8) (st : PS) (w : World) (h : PAt w p s st) (hs : s.length ≤ 65536) (c : UInt8) (r : List UInt8) (hno : c.toNat ≠ 110 ∧ c.toNat ≠ 116 ∧ c.toNat ≠ 120) (hk : 127 ≤ c.toNat) (hr : st.rest = 92 :: (c :: r)) :
    Calls Tryz.prog 215 #[ptr p] w (OnePost p s w (st.fail 2, 0)) := by
  obtain ⟨c0, c1, c2, c3, c4, c5⟩ := h.cells
  have hsz : (⟨s.toArray⟩ : ByteArray).size = s.length := str_size s
  obtain ⟨hl, hg, hd, ht⟩ := one_at w p s st h 92 (c :: r) hr
  have hidx := fun W => str_at s st.at_ hl W
  rw [hg] at hidx
  have hc1 : ((st.at_ : Nat) : Int) < (s.length : Nat) := by omega
  have hc2 : ¬ s.length ≤ st.at_ := by omega
  have hc3 : ((st.at_ : Nat) : Int) + 1 ≤ (s.length : Nat) := by omega
  have hf1 := fun W => strFrom s (st.at_ + 1) (by omega) W
  have hf2 := fun W => strFromAt s (st.at_ + 1) (by omega) W
  rw [hd, show ((st.at_ + 1 : Nat) : Int) = (st.at_ : Int) + 1 by omega] at hf1 hf2
  have hwr : IntKind.i64.wrap ((st.at_ : Int) + 1) = (st.at_ : Int) + 1 := by rw [IntKind.wrap_i64]; omega
  have HF := Lib.hid (fun W (hp : PAt W p s st) => psFail_any p s st W hp hs 2 (by omega))
  have HP := Lib.hid h
  have HR2 : Hid (st.rest.length = ((c :: r) : List UInt8).length + 1) := by show _ = _; rw [hr]; simp
  have HA := Lib.hid (fun W (hp : PAt W p s st) k (hk : k ≤ st.rest.length) => hp.put_adv' k st.at_ rfl hk)
  have f1 := h.frz 1
  clear h hr hl hg hd c2 c3 c4 c5
  generalize hat : st.at_ = a at *
  clear hat
  have hz : (⟨(c :: r).toArray⟩ : ByteArray).size = r.length + 1 := str_size (c :: r)
  have hix : (⟨(c :: r).toArray⟩ : ByteArray)[0].toNat = c.toNat := rfl
  have HR2 : Hid (st.rest.length = r.length + 2) := by show _ = _; have := HR2.out; simpa using this
  have hcl := c.toNat_lt
  have g110 : (((c.toNat : Nat) : Int) == 110) = false := by rw [beq_eq_false_iff_ne]; omega
  have g116 : (((c.toNat : Nat) : Int) == 116) = false := by rw [beq_eq_false_iff_ne]; omega
  have g120 : (((c.toNat : Nat) : Int) == 120) = false := by rw [beq_eq_false_iff_ne]; omega
  generalize c.toNat = n at *
  have b1 : (32 : Int) < (n : Int) := by omega
  have b2 : ¬ (n : Int) < 127 := by omega
  have q32 : ((n : Int) == 32) = false := by rw [beq_eq_false_iff_ne]; omega
  clear hno hk
  go_enter Tryz.func215, Tryz.ntmps215
  go_wp2_with fail
  go_quiet (fail)
  go_wp2_with fail
  go_quiet (fail)
  go_wp2_with fail
  go_quiet (fail)
  go_wp2_with fail
  refine (HF.out _ (by repeat (first | exact HP.out | refine PAt.drew ?_ _))).mono ?_
  rintro e w2 ⟨rfl, hp2, hf2⟩
  go_wp2_with fail
  go_ret
  exact ⟨rfl, hp2, (by repeat (first | exact Far.refl _ _ | refine Far.drew ?_ _) : Far p w _).trans hf2⟩
set_option maxRecDepth 100000 in
set_option maxHeartbeats 4000000 in
theorem sl_lc (p : Nat) (s : List UInt8) (st : PS) (w : World) (h : PAt w p s st) (hs : s.length ≤ 65536) (c : UInt8) (r : List UInt8) (hno : c.toNat ≠ 110 ∧ c.toNat ≠ 116 ∧ c.toNat ≠ 120) (hk : (97 ≤ c.toNat ∧ c.toNat ≤ 122)) (hr : st.rest = 92 :: (c :: r)) :
    Calls Tryz.prog 215 #[ptr p] w (OnePost p s w (st.fail 2, 0)) := by
  obtain ⟨c0, c1, c2, c3, c4, c5⟩ := h.cells
  have hsz : (⟨s.toArray⟩ : ByteArray).size = s.length := str_size s
  obtain ⟨hl, hg, hd, ht⟩ := one_at w p s st h 92 (c :: r) hr
  have hidx := fun W => str_at s st.at_ hl W
  rw [hg] at hidx
  have hc1 : ((st.at_ : Nat) : Int) < (s.length : Nat) := by omega
  have hc2 : ¬ s.length ≤ st.at_ := by omega
  have hc3 : ((st.at_ : Nat) : Int) + 1 ≤ (s.length : Nat) := by omega
  have hf1 := fun W => strFrom s (st.at_ + 1) (by omega) W
  have hf2 := fun W => strFromAt s (st.at_ + 1) (by omega) W
  rw [hd, show ((st.at_ + 1 : Nat) : Int) = (st.at_ : Int) + 1 by omega] at hf1 hf2
  have hwr : IntKind.i64.wrap ((st.at_ : Int) + 1) = (st.at_ : Int) + 1 := by rw [IntKind.wrap_i64]; omega
  have HF := Lib.hid (fun W (hp : PAt W p s st) => psFail_any p s st W hp hs 2 (by omega))
  have HP := Lib.hid h
  have HR2 : Hid (st.rest.length = ((c :: r) : List UInt8).length + 1) := by show _ = _; rw [hr]; simp
  have HA := Lib.hid (fun W (hp : PAt W p s st) k (hk : k ≤ st.rest.length) => hp.put_adv' k st.at_ rfl hk)
  have f1 := h.frz 1
  clear h hr hl hg hd c2 c3 c4 c5
  generalize hat : st.at_ = a at *
  clear hat
  have hz : (⟨(c :: r).toArray⟩ : ByteArray).size = r.length + 1 := str_size (c :: r)
  have hix : (⟨(c :: r).toArray⟩ : ByteArray)[0].toNat = c.toNat := rfl
  have HR2 : Hid (st.rest.length = r.length + 2) := by show _ = _; have := HR2.out; simpa using this
  have hcl := c.toNat_lt
  have g110 : (((c.toNat : Nat) : Int) == 110) = false := by rw [beq_eq_false_iff_ne]; omega
  have g116 : (((c.toNat : Nat) : Int) == 116) = false := by rw [beq_eq_false_iff_ne]; omega
  have g120 : (((c.toNat : Nat) : Int) == 120) = false := by rw [beq_eq_false_iff_ne]; omega
  generalize c.toNat = n at *
  have b1 : (32 : Int) < (n : Int) := by omega
  have b2 : (n : Int) < 127 := by omega
  have b3 : ¬ (n : Int) < 97 := by omega
  have b4 : ¬ (122 : Int) < (n : Int) := by omega
  have q32 : ((n : Int) == 32) = false := by rw [beq_eq_false_iff_ne]; omega
  clear hno hk
  go_enter Tryz.func215, Tryz.ntmps215
  go_wp2_with fail
  go_quiet (fail)
  go_wp2_with fail
  go_quiet (fail)
  go_wp2_with fail
  go_quiet (fail)
  go_wp2_with fail
  refine (HF.out _ (by repeat (first | exact HP.out | refine PAt.drew ?_ _))).mono ?_
  rintro e w2 ⟨rfl, hp2, hf2⟩
  go_wp2_with fail
  go_ret
  exact ⟨rfl, hp2, (by repeat (first | exact Far.refl _ _ | refine Far.drew ?_ _) : Far p w _).trans hf2⟩
set_option maxRecDepth 100000 in
set_option maxHeartbeats 4000000 in
theorem sl_uc (p : Nat) (s : List UInt8) (st : PS) (w : World) (h : PAt w p s st) (hs : s.length ≤ 65536) (c : UInt8) (r : List UInt8) (hno : c.toNat ≠ 110 ∧ c.toNat ≠ 116 ∧ c.toNat ≠ 120) (hk : (65 ≤ c.toNat ∧ c.toNat ≤ 90)) (hr : st.rest = 92 :: (c :: r)) :
    Calls Tryz.prog 215 #[ptr p] w (OnePost p s w (st.fail 2, 0)) := by
  obtain ⟨c0, c1, c2, c3, c4, c5⟩ := h.cells
  have hsz : (⟨s.toArray⟩ : ByteArray).size = s.length := str_size s
  obtain ⟨hl, hg, hd, ht⟩ := one_at w p s st h 92 (c :: r) hr
  have hidx := fun W => str_at s st.at_ hl W
  rw [hg] at hidx
  have hc1 : ((st.at_ : Nat) : Int) < (s.length : Nat) := by omega
  have hc2 : ¬ s.length ≤ st.at_ := by omega
  have hc3 : ((st.at_ : Nat) : Int) + 1 ≤ (s.length : Nat) := by omega
  have hf1 := fun W => strFrom s (st.at_ + 1) (by omega) W
  have hf2 := fun W => strFromAt s (st.at_ + 1) (by omega) W
  rw [hd, show ((st.at_ + 1 : Nat) : Int) = (st.at_ : Int) + 1 by omega] at hf1 hf2
  have hwr : IntKind.i64.wrap ((st.at_ : Int) + 1) = (st.at_ : Int) + 1 := by rw [IntKind.wrap_i64]; omega
  have HF := Lib.hid (fun W (hp : PAt W p s st) => psFail_any p s st W hp hs 2 (by omega))
  have HP := Lib.hid h
  have HR2 : Hid (st.rest.length = ((c :: r) : List UInt8).length + 1) := by show _ = _; rw [hr]; simp
  have HA := Lib.hid (fun W (hp : PAt W p s st) k (hk : k ≤ st.rest.length) => hp.put_adv' k st.at_ rfl hk)
  have f1 := h.frz 1
  clear h hr hl hg hd c2 c3 c4 c5
  generalize hat : st.at_ = a at *
  clear hat
  have hz : (⟨(c :: r).toArray⟩ : ByteArray).size = r.length + 1 := str_size (c :: r)
  have hix : (⟨(c :: r).toArray⟩ : ByteArray)[0].toNat = c.toNat := rfl
  have HR2 : Hid (st.rest.length = r.length + 2) := by show _ = _; have := HR2.out; simpa using this
  have hcl := c.toNat_lt
  have g110 : (((c.toNat : Nat) : Int) == 110) = false := by rw [beq_eq_false_iff_ne]; omega
  have g116 : (((c.toNat : Nat) : Int) == 116) = false := by rw [beq_eq_false_iff_ne]; omega
  have g120 : (((c.toNat : Nat) : Int) == 120) = false := by rw [beq_eq_false_iff_ne]; omega
  generalize c.toNat = n at *
  have b1 : (32 : Int) < (n : Int) := by omega
  have b2 : (n : Int) < 127 := by omega
  have b3 : (n : Int) < 97 := by omega
  have b4 : ¬ (n : Int) < 65 := by omega
  have b5 : ¬ (90 : Int) < (n : Int) := by omega
  have q32 : ((n : Int) == 32) = false := by rw [beq_eq_false_iff_ne]; omega
  clear hno hk
  go_enter Tryz.func215, Tryz.ntmps215
  go_wp2_with fail
  go_quiet (fail)
  go_wp2_with fail
  go_quiet (fail)
  go_wp2_with fail
  go_quiet (fail)
  go_wp2_with fail
  refine (HF.out _ (by repeat (first | exact HP.out | refine PAt.drew ?_ _))).mono ?_
  rintro e w2 ⟨rfl, hp2, hf2⟩
  go_wp2_with fail
  go_ret
  exact ⟨rfl, hp2, (by repeat (first | exact Far.refl _ _ | refine Far.drew ?_ _) : Far p w _).trans hf2⟩
set_option maxRecDepth 100000 in
set_option maxHeartbeats 4000000 in
theorem sl_dg (p : Nat) (s : List UInt8) (st : PS) (w : World) (h : PAt w p s st) (hs : s.length ≤ 65536) (c : UInt8) (r : List UInt8) (hno : c.toNat ≠ 110 ∧ c.toNat ≠ 116 ∧ c.toNat ≠ 120) (hk : (48 ≤ c.toNat ∧ c.toNat ≤ 57)) (hr : st.rest = 92 :: (c :: r)) :
    Calls Tryz.prog 215 #[ptr p] w (OnePost p s w (st.fail 2, 0)) := by
  obtain ⟨c0, c1, c2, c3, c4, c5⟩ := h.cells
  have hsz : (⟨s.toArray⟩ : ByteArray).size = s.length := str_size s
  obtain ⟨hl, hg, hd, ht⟩ := one_at w p s st h 92 (c :: r) hr
  have hidx := fun W => str_at s st.at_ hl W
  rw [hg] at hidx
  have hc1 : ((st.at_ : Nat) : Int) < (s.length : Nat) := by omega
  have hc2 : ¬ s.length ≤ st.at_ := by omega
  have hc3 : ((st.at_ : Nat) : Int) + 1 ≤ (s.length : Nat) := by omega
  have hf1 := fun W => strFrom s (st.at_ + 1) (by omega) W
  have hf2 := fun W => strFromAt s (st.at_ + 1) (by omega) W
  rw [hd, show ((st.at_ + 1 : Nat) : Int) = (st.at_ : Int) + 1 by omega] at hf1 hf2
  have hwr : IntKind.i64.wrap ((st.at_ : Int) + 1) = (st.at_ : Int) + 1 := by rw [IntKind.wrap_i64]; omega
  have HF := Lib.hid (fun W (hp : PAt W p s st) => psFail_any p s st W hp hs 2 (by omega))
  have HP := Lib.hid h
  have HR2 : Hid (st.rest.length = ((c :: r) : List UInt8).length + 1) := by show _ = _; rw [hr]; simp
  have HA := Lib.hid (fun W (hp : PAt W p s st) k (hk : k ≤ st.rest.length) => hp.put_adv' k st.at_ rfl hk)
  have f1 := h.frz 1
  clear h hr hl hg hd c2 c3 c4 c5
  generalize hat : st.at_ = a at *
  clear hat
  have hz : (⟨(c :: r).toArray⟩ : ByteArray).size = r.length + 1 := str_size (c :: r)
  have hix : (⟨(c :: r).toArray⟩ : ByteArray)[0].toNat = c.toNat := rfl
  have HR2 : Hid (st.rest.length = r.length + 2) := by show _ = _; have := HR2.out; simpa using this
  have hcl := c.toNat_lt
  have g110 : (((c.toNat : Nat) : Int) == 110) = false := by rw [beq_eq_false_iff_ne]; omega
  have g116 : (((c.toNat : Nat) : Int) == 116) = false := by rw [beq_eq_false_iff_ne]; omega
  have g120 : (((c.toNat : Nat) : Int) == 120) = false := by rw [beq_eq_false_iff_ne]; omega
  generalize c.toNat = n at *
  have b1 : (32 : Int) < (n : Int) := by omega
  have b2 : (n : Int) < 127 := by omega
  have b3 : (n : Int) < 97 := by omega
  have b4 : (n : Int) < 65 := by omega
  have b5 : ¬ (n : Int) < 48 := by omega
  have b6 : ¬ (57 : Int) < (n : Int) := by omega
  have q32 : ((n : Int) == 32) = false := by rw [beq_eq_false_iff_ne]; omega
  clear hno hk
  go_enter Tryz.func215, Tryz.ntmps215
  go_wp2_with fail
  go_quiet (fail)
  go_wp2_with fail
  go_quiet (fail)
  go_wp2_with fail
  go_quiet (fail)
  go_wp2_with fail
  refine (HF.out _ (by repeat (first | exact HP.out | refine PAt.drew ?_ _))).mono ?_
  rintro e w2 ⟨rfl, hp2, hf2⟩
  go_wp2_with fail
  go_ret
  exact ⟨rfl, hp2, (by repeat (first | exact Far.refl _ _ | refine Far.drew ?_ _) : Far p w _).trans hf2⟩
set_option maxRecDepth 100000 in
set_option maxHeartbeats 4000000 in
theorem sl_ok1 (p : Nat) (s : List UInt8) (st : PS) (w : World) (h : PAt w p s st) (hs : s.length ≤ 65536) (c : UInt8) (r : List UInt8) (hno : c.toNat ≠ 110 ∧ c.toNat ≠ 116 ∧ c.toNat ≠ 120) (hk : 33 ≤ c.toNat ∧ c.toNat ≤ 47) (hr : st.rest = 92 :: (c :: r)) :
    Calls Tryz.prog 215 #[ptr p] w (OnePost p s w (st.adv 2, c.toNat)) := by
  obtain ⟨c0, c1, c2, c3, c4, c5⟩ := h.cells
  have hsz : (⟨s.toArray⟩ : ByteArray).size = s.length := str_size s
  obtain ⟨hl, hg, hd, ht⟩ := one_at w p s st h 92 (c :: r) hr
  have hidx := fun W => str_at s st.at_ hl W
  rw [hg] at hidx
  have hc1 : ((st.at_ : Nat) : Int) < (s.length : Nat) := by omega
  have hc2 : ¬ s.length ≤ st.at_ := by omega
  have hc3 : ((st.at_ : Nat) : Int) + 1 ≤ (s.length : Nat) := by omega
  have hf1 := fun W => strFrom s (st.at_ + 1) (by omega) W
  have hf2 := fun W => strFromAt s (st.at_ + 1) (by omega) W
  rw [hd, show ((st.at_ + 1 : Nat) : Int) = (st.at_ : Int) + 1 by omega] at hf1 hf2
  have hwr : IntKind.i64.wrap ((st.at_ : Int) + 1) = (st.at_ : Int) + 1 := by rw [IntKind.wrap_i64]; omega
  have HF := Lib.hid (fun W (hp : PAt W p s st) => psFail_any p s st W hp hs 2 (by omega))
  have HP := Lib.hid h
  have HR2 : Hid (st.rest.length = ((c :: r) : List UInt8).length + 1) := by show _ = _; rw [hr]; simp
  have HA := Lib.hid (fun W (hp : PAt W p s st) k (hk : k ≤ st.rest.length) => hp.put_adv' k st.at_ rfl hk)
  have f1 := h.frz 1
  clear h hr hl hg hd c2 c3 c4 c5
  generalize hat : st.at_ = a at *
  clear hat
  have hz : (⟨(c :: r).toArray⟩ : ByteArray).size = r.length + 1 := str_size (c :: r)
  have hix : (⟨(c :: r).toArray⟩ : ByteArray)[0].toNat = c.toNat := rfl
  have HR2 : Hid (st.rest.length = r.length + 2) := by show _ = _; have := HR2.out; simpa using this
  have hcl := c.toNat_lt
  have g110 : (((c.toNat : Nat) : Int) == 110) = false := by rw [beq_eq_false_iff_ne]; omega
  have g116 : (((c.toNat : Nat) : Int) == 116) = false := by rw [beq_eq_false_iff_ne]; omega
  have g120 : (((c.toNat : Nat) : Int) == 120) = false := by rw [beq_eq_false_iff_ne]; omega
  generalize c.toNat = n at *
  have b0 : (32 : Int) < (n : Int) := by omega
  have b1 : (n : Int) < 127 := by omega
  have b2 : (n : Int) < 97 := by omega
  have b3 : (n : Int) < 65 := by omega
  have b4 : (n : Int) < 48 := by omega
  clear hno hk
  go_enter Tryz.func215, Tryz.ntmps215
  go_wp2_with fail
  go_quiet (fail)
  go_wp2_with fail
  go_quiet (fail)
  go_wp2_with fail
  go_quiet (fail)
  go_wp2_with fail
  go_ret
  exact ⟨rfl, HA.out _ (by repeat (first | exact HP.out | refine PAt.drew ?_ _)) 2 (by have := HR2.out; omega), (by repeat (first | exact Far.refl _ _ | refine Far.drew ?_ _ | refine Far.set ?_ _ _))⟩
set_option maxRecDepth 100000 in
set_option maxHeartbeats 4000000 in
theorem sl_ok2 (p : Nat) (s : List UInt8) (st : PS) (w : World) (h : PAt w p s st) (hs : s.length ≤ 65536) (c : UInt8) (r : List UInt8) (hno : c.toNat ≠ 110 ∧ c.toNat ≠ 116 ∧ c.toNat ≠ 120) (hk : 58 ≤ c.toNat ∧ c.toNat ≤ 64) (hr : st.rest = 92 :: (c :: r)) :
    Calls Tryz.prog 215 #[ptr p] w (OnePost p s w (st.adv 2, c.toNat)) := by
  obtain ⟨c0, c1, c2, c3, c4, c5⟩ := h.cells
  have hsz : (⟨s.toArray⟩ : ByteArray).size = s.length := str_size s
  obtain ⟨hl, hg, hd, ht⟩ := one_at w p s st h 92 (c :: r) hr
  have hidx := fun W => str_at s st.at_ hl W
  rw [hg] at hidx
  have hc1 : ((st.at_ : Nat) : Int) < (s.length : Nat) := by omega
  have hc2 : ¬ s.length ≤ st.at_ := by omega
  have hc3 : ((st.at_ : Nat) : Int) + 1 ≤ (s.length : Nat) := by omega
  have hf1 := fun W => strFrom s (st.at_ + 1) (by omega) W
  have hf2 := fun W => strFromAt s (st.at_ + 1) (by omega) W
  rw [hd, show ((st.at_ + 1 : Nat) : Int) = (st.at_ : Int) + 1 by omega] at hf1 hf2
  have hwr : IntKind.i64.wrap ((st.at_ : Int) + 1) = (st.at_ : Int) + 1 := by rw [IntKind.wrap_i64]; omega
  have HF := Lib.hid (fun W (hp : PAt W p s st) => psFail_any p s st W hp hs 2 (by omega))
  have HP := Lib.hid h
  have HR2 : Hid (st.rest.length = ((c :: r) : List UInt8).length + 1) := by show _ = _; rw [hr]; simp
  have HA := Lib.hid (fun W (hp : PAt W p s st) k (hk : k ≤ st.rest.length) => hp.put_adv' k st.at_ rfl hk)
  have f1 := h.frz 1
  clear h hr hl hg hd c2 c3 c4 c5
  generalize hat : st.at_ = a at *
  clear hat
  have hz : (⟨(c :: r).toArray⟩ : ByteArray).size = r.length + 1 := str_size (c :: r)
  have hix : (⟨(c :: r).toArray⟩ : ByteArray)[0].toNat = c.toNat := rfl
  have HR2 : Hid (st.rest.length = r.length + 2) := by show _ = _; have := HR2.out; simpa using this
  have hcl := c.toNat_lt
  have g110 : (((c.toNat : Nat) : Int) == 110) = false := by rw [beq_eq_false_iff_ne]; omega
  have g116 : (((c.toNat : Nat) : Int) == 116) = false := by rw [beq_eq_false_iff_ne]; omega
  have g120 : (((c.toNat : Nat) : Int) == 120) = false := by rw [beq_eq_false_iff_ne]; omega
  generalize c.toNat = n at *
  have b0 : (32 : Int) < (n : Int) := by omega
  have b1 : (n : Int) < 127 := by omega
  have b2 : (n : Int) < 97 := by omega
  have b3 : (n : Int) < 65 := by omega
  have b4 : ¬ (n : Int) < 48 := by omega
  have b5 : (57 : Int) < (n : Int) := by omega
  clear hno hk
  go_enter Tryz.func215, Tryz.ntmps215
  go_wp2_with fail
  go_quiet (fail)
  go_wp2_with fail
  go_quiet (fail)
  go_wp2_with fail
  go_quiet (fail)
  go_wp2_with fail
  go_ret
  exact ⟨rfl, HA.out _ (by repeat (first | exact HP.out | refine PAt.drew ?_ _)) 2 (by have := HR2.out; omega), (by repeat (first | exact Far.refl _ _ | refine Far.drew ?_ _ | refine Far.set ?_ _ _))⟩
set_option maxRecDepth 100000 in
set_option maxHeartbeats 4000000 in
theorem sl_ok3 (p : Nat) (s : List UInt8) (st : PS) (w : World) (h : PAt w p s st) (hs : s.length ≤ 65536) (c : UInt8) (r : List UInt8) (hno : c.toNat ≠ 110 ∧ c.toNat ≠ 116 ∧ c.toNat ≠ 120) (hk : 91 ≤ c.toNat ∧ c.toNat ≤ 96) (hr : st.rest = 92 :: (c :: r)) :
    Calls Tryz.prog 215 #[ptr p] w (OnePost p s w (st.adv 2, c.toNat)) := by
  obtain ⟨c0, c1, c2, c3, c4, c5⟩ := h.cells
  have hsz : (⟨s.toArray⟩ : ByteArray).size = s.length := str_size s
  obtain ⟨hl, hg, hd, ht⟩ := one_at w p s st h 92 (c :: r) hr
  have hidx := fun W => str_at s st.at_ hl W
  rw [hg] at hidx
  have hc1 : ((st.at_ : Nat) : Int) < (s.length : Nat) := by omega
  have hc2 : ¬ s.length ≤ st.at_ := by omega
  have hc3 : ((st.at_ : Nat) : Int) + 1 ≤ (s.length : Nat) := by omega
  have hf1 := fun W => strFrom s (st.at_ + 1) (by omega) W
  have hf2 := fun W => strFromAt s (st.at_ + 1) (by omega) W
  rw [hd, show ((st.at_ + 1 : Nat) : Int) = (st.at_ : Int) + 1 by omega] at hf1 hf2
  have hwr : IntKind.i64.wrap ((st.at_ : Int) + 1) = (st.at_ : Int) + 1 := by rw [IntKind.wrap_i64]; omega
  have HF := Lib.hid (fun W (hp : PAt W p s st) => psFail_any p s st W hp hs 2 (by omega))
  have HP := Lib.hid h
  have HR2 : Hid (st.rest.length = ((c :: r) : List UInt8).length + 1) := by show _ = _; rw [hr]; simp
  have HA := Lib.hid (fun W (hp : PAt W p s st) k (hk : k ≤ st.rest.length) => hp.put_adv' k st.at_ rfl hk)
  have f1 := h.frz 1
  clear h hr hl hg hd c2 c3 c4 c5
  generalize hat : st.at_ = a at *
  clear hat
  have hz : (⟨(c :: r).toArray⟩ : ByteArray).size = r.length + 1 := str_size (c :: r)
  have hix : (⟨(c :: r).toArray⟩ : ByteArray)[0].toNat = c.toNat := rfl
  have HR2 : Hid (st.rest.length = r.length + 2) := by show _ = _; have := HR2.out; simpa using this
  have hcl := c.toNat_lt
  have g110 : (((c.toNat : Nat) : Int) == 110) = false := by rw [beq_eq_false_iff_ne]; omega
  have g116 : (((c.toNat : Nat) : Int) == 116) = false := by rw [beq_eq_false_iff_ne]; omega
  have g120 : (((c.toNat : Nat) : Int) == 120) = false := by rw [beq_eq_false_iff_ne]; omega
  generalize c.toNat = n at *
  have b0 : (32 : Int) < (n : Int) := by omega
  have b1 : (n : Int) < 127 := by omega
  have b2 : (n : Int) < 97 := by omega
  have b3 : ¬ (n : Int) < 65 := by omega
  have b4 : (90 : Int) < (n : Int) := by omega
  have b5 : ¬ (n : Int) < 48 := by omega
  have b6 : (57 : Int) < (n : Int) := by omega
  clear hno hk
  go_enter Tryz.func215, Tryz.ntmps215
  go_wp2_with fail
  go_quiet (fail)
  go_wp2_with fail
  go_quiet (fail)
  go_wp2_with fail
  go_quiet (fail)
  go_wp2_with fail
  go_ret
  exact ⟨rfl, HA.out _ (by repeat (first | exact HP.out | refine PAt.drew ?_ _)) 2 (by have := HR2.out; omega), (by repeat (first | exact Far.refl _ _ | refine Far.drew ?_ _ | refine Far.set ?_ _ _))⟩
set_option maxRecDepth 100000 in
set_option maxHeartbeats 4000000 in
theorem sl_ok4 (p : Nat) (s : List UInt8) (st : PS) (w : World) (h : PAt w p s st) (hs : s.length ≤ 65536) (c : UInt8) (r : List UInt8) (hno : c.toNat ≠ 110 ∧ c.toNat ≠ 116 ∧ c.toNat ≠ 120) (hk : 123 ≤ c.toNat ∧ c.toNat ≤ 126) (hr : st.rest = 92 :: (c :: r)) :
    Calls Tryz.prog 215 #[ptr p] w (OnePost p s w (st.adv 2, c.toNat)) := by
  obtain ⟨c0, c1, c2, c3, c4, c5⟩ := h.cells
  have hsz : (⟨s.toArray⟩ : ByteArray).size = s.length := str_size s
  obtain ⟨hl, hg, hd, ht⟩ := one_at w p s st h 92 (c :: r) hr
  have hidx := fun W => str_at s st.at_ hl W
  rw [hg] at hidx
  have hc1 : ((st.at_ : Nat) : Int) < (s.length : Nat) := by omega
  have hc2 : ¬ s.length ≤ st.at_ := by omega
  have hc3 : ((st.at_ : Nat) : Int) + 1 ≤ (s.length : Nat) := by omega
  have hf1 := fun W => strFrom s (st.at_ + 1) (by omega) W
  have hf2 := fun W => strFromAt s (st.at_ + 1) (by omega) W
  rw [hd, show ((st.at_ + 1 : Nat) : Int) = (st.at_ : Int) + 1 by omega] at hf1 hf2
  have hwr : IntKind.i64.wrap ((st.at_ : Int) + 1) = (st.at_ : Int) + 1 := by rw [IntKind.wrap_i64]; omega
  have HF := Lib.hid (fun W (hp : PAt W p s st) => psFail_any p s st W hp hs 2 (by omega))
  have HP := Lib.hid h
  have HR2 : Hid (st.rest.length = ((c :: r) : List UInt8).length + 1) := by show _ = _; rw [hr]; simp
  have HA := Lib.hid (fun W (hp : PAt W p s st) k (hk : k ≤ st.rest.length) => hp.put_adv' k st.at_ rfl hk)
  have f1 := h.frz 1
  clear h hr hl hg hd c2 c3 c4 c5
  generalize hat : st.at_ = a at *
  clear hat
  have hz : (⟨(c :: r).toArray⟩ : ByteArray).size = r.length + 1 := str_size (c :: r)
  have hix : (⟨(c :: r).toArray⟩ : ByteArray)[0].toNat = c.toNat := rfl
  have HR2 : Hid (st.rest.length = r.length + 2) := by show _ = _; have := HR2.out; simpa using this
  have hcl := c.toNat_lt
  have g110 : (((c.toNat : Nat) : Int) == 110) = false := by rw [beq_eq_false_iff_ne]; omega
  have g116 : (((c.toNat : Nat) : Int) == 116) = false := by rw [beq_eq_false_iff_ne]; omega
  have g120 : (((c.toNat : Nat) : Int) == 120) = false := by rw [beq_eq_false_iff_ne]; omega
  generalize c.toNat = n at *
  have b0 : (32 : Int) < (n : Int) := by omega
  have b1 : (n : Int) < 127 := by omega
  have b2 : ¬ (n : Int) < 97 := by omega
  have b3 : (122 : Int) < (n : Int) := by omega
  have b4 : ¬ (n : Int) < 65 := by omega
  have b5 : (90 : Int) < (n : Int) := by omega
  have b6 : ¬ (n : Int) < 48 := by omega
  have b7 : (57 : Int) < (n : Int) := by omega
  clear hno hk
  go_enter Tryz.func215, Tryz.ntmps215
  go_wp2_with fail
  go_quiet (fail)
  go_wp2_with fail
  go_quiet (fail)
  go_wp2_with fail
  go_quiet (fail)
  go_wp2_with fail
  go_ret
  exact ⟨rfl, HA.out _ (by repeat (first | exact HP.out | refine PAt.drew ?_ _)) 2 (by have := HR2.out; omega), (by repeat (first | exact Far.refl _ _ | refine Far.drew ?_ _ | refine Far.set ?_ _ _))⟩
end Go.Proofs.YtgamknphlmcgnaaGreatDoor
end
section
set_option linter.unusedSimpArgs false
set_option linter.unusedVariables false
set_option maxRecDepth 100000
set_option linter.unnecessarySimpa false
namespace Go.Proofs.YtgamknphlmcgnaaGreatDoor
open Go.RowKit
/-- what a function value answers of expressions, in whatever world they lie -/
def Asks (g : Nat) (p : RE → Bool) : Prop := ∀ (W : World) (b : Nat) (r : RE), IsRe W b r → Calls Tryz.prog g #[ptr b] W fun e w' => e = .returned (.bool (p r)) ∧ w' = W
set_option maxHeartbeats 800000 in
theorem isEps : Asks 62 (fun r => r.op == 1) := by
  intro W b r hb
  obtain ⟨kp1, cap1, bs1, hnode, hptr, hkids⟩ := hb.open
  have hop : W.cell? ⟨b, 0, none⟩ = some (.int .i64 (r.op : Nat)) := by rw [cell_of_row _ _ _ _ _ _ hnode]; rfl
  clear hnode hptr hkids hb
  have he : ((r.op : Int) == 1) = (r.op == 1) := by
    by_cases h : r.op = 1
    · simp [h]
    · have h2 : ¬ ((r.op : Int) = 1) := by omega
      rw [beq_eq_false_iff_ne.2 h, beq_eq_false_iff_ne.2 h2]
  have HE := Lib.hid he
  clear he
  go_enter Tryz.func62, Tryz.ntmps62
  go_wp2_with fail
  rw [HE.out]
  go_wp2_with fail
  go_ret
  exact ⟨rfl, rfl⟩
def IdxFAt (w : World) (p : RE → Bool) (ls : List RE) (i : Value) (wr : World) : Prop := ∃ k : Nat, k ≤ ls.length ∧ i = .int .i64 k ∧ wr = w ∧ ∀ j, j < k → p (ls.getD j RE.nothing) = false
set_option maxRecDepth 100000 in
set_option maxHeartbeats 2000000 in
/-- none of them -/
theorem IndexFunc_none (g : Nat) (p : RE → Bool) (hg : Asks g p) (eg : ∀ args w, (callFunc g args).run Tryz.prog w = .ok (.enter g args) w) (kp : Option Addr) (cap : Nat) (bs : List Nat) (ls : List RE) (w : World) (hr : PtrsAt w kp bs) (hk : AreRe w bs ls) (hn : ∀ r ∈ ls, p r = false) (hln : ls.length ≤ 1099511627776) :
    Calls Tryz.prog 109 #[.slice kp ls.length cap, .func (.func g) #[] #[]] w fun e w' => e = .returned (.int .i64 (-1)) ∧ w' = w := by
  have HR := Lib.hid hr
  have HK := Lib.hid hk
  have HN := Lib.hid hn
  have HG := Lib.hid hg
  clear hr hk hn hg
  go_enter Tryz.func109, Tryz.ntmps109
  go_wp2_with fail
  go_loopw [8] (fun i wr => IdxFAt w p ls i wr) (fun i _ => ls.length - (intOf i).toNat)
  case atStart => exact ⟨0, by omega, rfl, rfl, fun j hj => by omega⟩
  case round =>
    obtain ⟨k, hk, rfl, rfl, hno⟩ := hrel
    by_cases hlt : k < ls.length
    · obtain ⟨hbl, hkids⟩ := HK.out
      rcases HR.out with h0 | ⟨kb, ko, rfl, hrow⟩
      · rw [h0] at hbl; simp at hbl; omega
      have hptr : wr.cell? ⟨kb, ko + k, none⟩ = some (.pointer (some ⟨bs.getD k 0, 0, none⟩)) := hrow k (by omega)
      have hkid := hkids k hlt
      have hpf : p (ls.getD k RE.nothing) = false := HN.out _ (by simp [List.getD, hlt])
      have hc := HG.out wr _ _ hkid
      rw [hpf] at hc
      have HC := Lib.hid hc
      have HNO : Hid (∀ j, j < k + 1 → p (ls.getD j RE.nothing) = false) := fun j hj => if h : j < k then hno j h else by rw [show j = k by omega]; exact hpf
      clear hc hpf hkid hkids hrow hbl hno
      generalize bs.getD k 0 = b at *
      go_wp2_with fail
      refine HC.out.mono ?_
      rintro e w' ⟨rfl, rfl⟩
      go_wp2_with fail
      go_roundw
      case rel => exact ⟨k + 1, by omega, by go_num, rfl, HNO.out⟩
      case measure => simp [intOf]; omega
    · go_wp2
      go_ret
      exact ⟨rfl, rfl⟩
set_option maxRecDepth 100000 in
set_option maxHeartbeats 2000000 in
/-- nothing is taken away -/
theorem DeleteFunc_none (g : Nat) (p : RE → Bool) (hg : Asks g p) (eg : ∀ args w, (callFunc g args).run Tryz.prog w = .ok (.enter g args) w) (kp : Option Addr) (cap : Nat) (bs : List Nat) (ls : List RE) (w : World) (hr : PtrsAt w kp bs) (hk : AreRe w bs ls) (hn : ∀ r ∈ ls, p r = false) (hln : ls.length ≤ 1099511627776) :
    Calls Tryz.prog 60 #[.slice kp ls.length cap, .func (.func g) #[] #[]] w fun e w' => e = .returned (.slice kp ls.length cap) ∧ w' = w := by
  have HI := Lib.hid (IndexFunc_none g p hg eg kp cap bs ls w hr hk hn hln)
  clear hr hk hn hg
  go_enter Tryz.func60, Tryz.ntmps60
  go_wp2_with (go_at_call 109; refine HI.out.mono ?_; rintro e w' ⟨rfl, rfl⟩)
  go_ret
  exact ⟨rfl, rfl⟩
theorem OwnRe.row {w wr : World} {ls : List RE} {bs : List Nat} {v : Value} (h : OwnRe w ls bs v wr) : ∃ kp cap, v = .slice kp ls.length cap ∧ PtrsAt wr kp bs ∧ (∀ a : Addr, kp = some a → v.ownBlock = some a.block) := by
  rcases h.own.2 with ⟨h1, h0⟩ | ⟨g, cap, cur, hv, hg, hgb, hnc, h4, h5, h6⟩
  · refine ⟨none, 0, by rw [h1, ← h.are.1, h0], .inl (List.length_eq_zero_iff.1 h0), fun a ha => by cases ha⟩
  · refine ⟨some ⟨g, 0, none⟩, cap, by rw [hv, h.are.1], .inr ⟨g, 0, rfl, fun i hi => ?_⟩, fun a ha => by rw [hv]; cases ha; rfl⟩
    have ho := h.own
    rw [hv] at ho
    rw [Nat.zero_add, ho.cellAt i (by omega)]
    simp [List.getD, hi]
theorem OwnRe.ty {w wr : World} {ls : List RE} {bs : List Nat} {kp : Option Addr} {n cap : Nat} (h : OwnRe w ls bs (.slice kp n cap) wr) : TyAt wr bs kp := fun hne a ha => by
  rcases h.own.2 with ⟨h1, h0⟩ | ⟨g, cap', cur, hv, hg, hgb, _⟩
  · exact absurd (List.length_eq_zero_iff.1 h0) hne
  · rw [ha] at hv
    simp only [Value.slice.injEq, Option.some.injEq] at hv
    rw [hv.1]
    exact ⟨cur, _, hgb⟩
def ThenAt (w : World) (F : List RE) (v i : Value) (wr : World) : Prop := ∃ k : Nat, k ≤ F.length ∧ i = .int .i64 k ∧ v = .bool (RE.nullAll (F.take k)) ∧ wr = w ∧ ∀ j, j < k → (F.getD j RE.nothing).op ≠ 0
theorem RE.nullAll_snoc (l : List RE) (r : RE) : RE.nullAll (l ++ [r]) = (RE.nullAll l && r.null) := by simp [RE.nullAll_eq]
end Go.Proofs.YtgamknphlmcgnaaGreatDoor
namespace Go.Proofs.YtgamknphlmcgnaaGreatDoor
open Go.RowKit Go.Sort Go.Lib
abbrev QE := Option (Nat × RE)
/-- a pointer that may be nil -/
def encQ : QE → Value | none => .pointer none | some q => ptr q.1
theorem encQ_one : OneCell encQ := fun x => by cases x <;> rfl
theorem putRow_block {α : Type} [Inhabited α] (enc : α → Value) (w : World) (n blk off : Nat) (d : Array α) (k : Nat) (h : k ≠ blk) : (putRow enc (Sort.ahead w n) blk off d).heap[k]? = w.heap[k]? := by
  show (w.heap.modify blk _)[k]? = _
  rw [Array.getElem?_modify, if_neg (fun e => h e.symm)]
theorem IsReX.inRow {α : Type} [Inhabited α] {w : World} {blk off : Nat} {b : Nat} {r : RE} (h : IsReX (· = blk) w b r) (enc : α → Value) (n : Nat) (d : Array α) : IsReX (· = blk) (putRow enc (Sort.ahead w n) blk off d) b r :=
  h.keep fun k _ hk => putRow_block enc w n blk off d k hk
/-- where the first one is of which p holds; below 0: nowhere -/
def IdxRes (p : RE → Bool) (ls : List RE) (i : Int) : Prop := (i = -1 ∧ ∀ r ∈ ls, p r = false) ∨ ∃ k, k < ls.length ∧ i = (k : Int) ∧ p (ls.getD k RE.nothing) = true ∧ ∀ j, j < k → p (ls.getD j RE.nothing) = false
def IdxPost (p : RE → Bool) (ls : List RE) (w : World) (e : Ending) (w' : World) : Prop := (∃ i, IdxRes p ls i ∧ e = .returned (.int .i64 i)) ∧ w' = w
set_option maxRecDepth 100000 in
set_option maxHeartbeats 2000000 in
theorem IndexFunc_any (g : Nat) (p : RE → Bool) (hg : Asks g p) (eg : ∀ args w, (callFunc g args).run Tryz.prog w = .ok (.enter g args) w) (kp : Option Addr) (cap : Nat) (bs : List Nat) (ls : List RE) (w : World) (hr : PtrsAt w kp bs) (hk : AreRe w bs ls) (hln : ls.length ≤ 1099511627776) :
    Calls Tryz.prog 109 #[.slice kp ls.length cap, .func (.func g) #[] #[]] w (IdxPost p ls w) := by
  have HR := Lib.hid hr
  have HK := Lib.hid hk
  have HG := Lib.hid hg
  clear hr hk hg
  go_enter Tryz.func109, Tryz.ntmps109
  go_wp2_with fail
  go_loopw [8] (fun i wr => IdxFAt w p ls i wr) (fun i _ => ls.length - (intOf i).toNat)
  case atStart => exact ⟨0, by omega, rfl, rfl, fun j hj => by omega⟩
  case round =>
    obtain ⟨k, hk, rfl, rfl, hno⟩ := hrel
    by_cases hlt : k < ls.length
    · obtain ⟨hbl, hkids⟩ := HK.out
      rcases HR.out with h0 | ⟨kb, ko, rfl, hrow⟩
      · rw [h0] at hbl; simp at hbl; omega
      have hptr : wr.cell? ⟨kb, ko + k, none⟩ = some (.pointer (some ⟨bs.getD k 0, 0, none⟩)) := hrow k (by omega)
      have hkid := hkids k hlt
      have hc := HG.out wr _ _ hkid
      have HNO := Lib.hid hno
      cases hpf : p (ls.getD k RE.nothing) with
      | false =>
        rw [hpf] at hc
        have HC := Lib.hid hc
        have HPF := Lib.hid hpf
        clear hc hpf hkid hkids hrow hbl hno
        generalize bs.getD k 0 = b at *
        go_wp2_with fail
        refine HC.out.mono ?_
        rintro e w' ⟨rfl, rfl⟩
        go_wp2_with fail
        go_roundw
        case rel => exact ⟨k + 1, by omega, by go_num, rfl, fun j hj => if h : j < k then HNO.out j h else by rw [show j = k by omega]; exact HPF.out⟩
        case measure => simp [intOf]; omega
      | true =>
        rw [hpf] at hc
        have HC := Lib.hid hc
        have HRS : Hid (IdxRes p ls k) := .inr ⟨k, hlt, rfl, hpf, hno⟩
        clear hc hpf hkid hkids hrow hbl hno HNO
        generalize bs.getD k 0 = b at *
        go_wp2_with fail
        refine HC.out.mono ?_
        rintro e w' ⟨rfl, rfl⟩
        go_wp2_with fail
        go_ret
        exact ⟨⟨_, HRS.out, rfl⟩, rfl⟩
    · have HRS : Hid (IdxRes p ls (-1)) := .inl ⟨rfl, fun r hr => by
        obtain ⟨j, hj, rfl⟩ := List.mem_iff_getElem.1 hr
        have := hno j (by omega)
        simpa [List.getD, hj] using this⟩
      clear hno
      go_wp2
      go_ret
      exact ⟨⟨_, HRS.out, rfl⟩, rfl⟩
theorem zeroPtr (w : World) : (zeroValue 28).run Tryz.prog w = .ok (encQ none) w := by kernel_rfl
/-- a row of expressions -/
def RowQ (w : World) (blk off : Nat) (d : Array QE) : Prop := Holds encQ w blk off d ∧ ∀ x ∈ d.toList, ∃ q, x = some q ∧ IsReX (· = blk) w q.1 q.2
def asksQ (p : RE → Bool) : QE → Bool | none => false | some q => p q.2
/-- what is left when some are taken away -/
def leftQ (p : RE → Bool) (d : Array QE) : List QE := d.toList.filter fun x => !asksQ p x
def DelPost (L : List QE) (blk off cap : Nat) (d : Array QE) (w : World) (e : Ending) (w' : World) : Prop :=
  e = .returned (.slice (some ⟨blk, off, none⟩) L.length cap) ∧ ∃ q, w' = putRow encQ (Sort.ahead w q) blk off (L ++ List.replicate (d.size - L.length) none).toArray
theorem RowQ.ptrs {w : World} {blk off : Nat} {d : Array QE} (h : RowQ w blk off d) : ∃ bs ls, bs.length = d.size ∧ ls.length = d.size ∧ (∀ j, j < d.size → d[j]! = some (bs.getD j 0, ls.getD j RE.nothing)) ∧ PtrsAt w (some ⟨blk, off, none⟩) bs ∧ AreReX (· = blk) w bs ls := by
  obtain ⟨hH, hX⟩ := h
  have hx : ∀ j, (hj : j < d.size) → ∃ q, d[j]! = some q ∧ IsReX (· = blk) w q.1 q.2 := fun j hj => by
    rw [getElem!_pos d j hj]
    exact hX _ (by simp)
  have hlen : ∀ f : QE → Nat, (d.toList.map f).length = d.size := by simp
  refine ⟨d.toList.map fun x => match x with | some q => q.1 | none => 0, d.toList.map fun x => match x with | some q => q.2 | none => RE.nothing, by simp, by simp, ?_, .inr ⟨blk, off, rfl, ?_⟩, by simp, ?_⟩
  · intro j hj
    obtain ⟨q, hq, _⟩ := hx j hj
    have : d[j] = some q := by rw [← getElem!_pos d j hj]; exact hq
    simp [List.getD, hj, this]
  · intro j hj
    have hj : j < d.size := by simpa using hj
    obtain ⟨q, hq, _⟩ := hx j hj
    have h2 : d[j] = some q := by rw [← getElem!_pos d j hj]; exact hq
    rw [(hH j hj).1, hq]
    simp [List.getD, hj, h2, encQ]
  · intro j hj
    have hj : j < d.size := by simpa using hj
    obtain ⟨q, hq, h3⟩ := hx j hj
    have h2 : d[j] = some q := by rw [← getElem!_pos d j hj]; exact hq
    simpa [List.getD, hj, h2] using h3
set_option maxRecDepth 1000000 in
set_option maxHeartbeats 4000000 in
theorem DeleteFunc_any (g : Nat) (p : RE → Bool) (hg : Asks g p) (eg : ∀ args w, (callFunc g args).run Tryz.prog w = .ok (.enter g args) w) (blk off cap : Nat) (d : Array QE) (w : World) (hQ : RowQ w blk off d) (hcap : d.size ≤ cap) (hsz : d.size ≤ 1099511627776) :
    Calls Tryz.prog 60 #[.slice (some ⟨blk, off, none⟩) d.size cap, .func (.func g) #[] #[]] w (DelPost (leftQ p d) blk off cap d w) := by
  obtain ⟨bs, ls, hbs, hls, hd, hptr, hare⟩ := hQ.ptrs
  have hH := hQ.1
  have hIF := IndexFunc_any g p hg eg (some ⟨blk, off, none⟩) cap bs ls w hptr hare.is (by omega)
  rw [hls] at hIF
  have HIF := Lib.hid hIF
  obtain ⟨kp, HK⟩ : ∃ kp : Nat → Bool, Hid (kp = fun j => !asksQ p d[j]!) := ⟨_, rfl⟩
  have hfil : leftQ p d = keptUpTo kp d d.size := by rw [HK.out]; exact (keptUpTo_filter (fun x => !asksQ p x) d).symm
  have HKP : Hid (∀ j, j < d.size → kp j = !p (ls.getD j RE.nothing)) := fun j hj => by rw [HK.out]; show (!asksQ p d[j]!) = _; rw [hd j hj]; rfl
  have HD := Lib.hid hd
  have HH : Hid (Holds encQ w blk off d) := hH
  have HA := Lib.hid hare
  have HG := Lib.hid hg
  rw [hfil]
  have undPtr := Tryz.underlying113
  clear hQ hIF hfil hd hH hptr hare hg HK
  go_enter Tryz.func60, Tryz.ntmps60
  go_wp2_with fail
  refine HIF.out.mono ?_
  rintro e w' ⟨⟨i, hres, rfl⟩, rfl⟩
  rcases hres with ⟨rfl, hall⟩ | ⟨k0, hk0, rfl, ht, hall⟩
  · have hkeep : ∀ j, j < d.size → kp j = true := fun j hj => by rw [HKP.out j hj, hall _ (by simp [List.getD, hls, hj])]; rfl
    have e3 : keptUpTo kp d d.size = d.toList := by rw [keptUpTo_all kp d _ hkeep, range_map_get]
    have HE : Hid (DelPost (keptUpTo kp d d.size) blk off cap d w' (.returned (.slice (some ⟨blk, off, none⟩) d.size cap)) w') := by
      show DelPost _ _ _ _ _ _ _ _
      rw [e3]
      refine ⟨by simp, 0, ?_⟩
      simp only [Array.length_toList, Nat.sub_self, List.replicate_zero, List.append_nil, Array.toArray_toList]
      exact (putRow_self encQ (Sort.ahead w' 0) blk off d (holds_ahead encQ w' 0 blk off d HH.out)).symm
    clear hall hkeep e3
    go_wp2_with fail
    go_ret
    exact HE.out
  · have hk0' : k0 < d.size := by omega
    have hkeep : ∀ j, j < k0 → kp j = true := fun j hj => by rw [HKP.out j (by omega), hall j hj]; rfl
    have hdrop : kp k0 = false := by rw [HKP.out k0 hk0', ht]; rfl
    have hne1 : ((k0 : Int) == -1) = false := beq_eq_false_iff_ne.2 (by omega)
    have HKE := Lib.hid hkeep
    have HDR := Lib.hid hdrop
    clear hall ht hkeep hdrop
    go_wp2_with fail
    go_loopg [5, 6, 7] d.size (fun gg s5 s6 _ wr => ∃ (i j : Nat) (dk : Array QE), s5 = .int .i64 i ∧ s6 = .int .i64 j ∧ j ≤ d.size ∧ d.size - j ≤ gg ∧ wr = putRow encQ (Sort.ahead w' 0) blk off dk ∧ Hid (KeptInv kp d j i dk))
    case atStart => exact ⟨k0, k0 + 1, d, rfl, by go_num, by omega, by omega, (putRow_self encQ (Sort.ahead w' 0) blk off d (holds_ahead encQ w' 0 blk off d HH.out)).symm, KeptInv.start HKE.out HDR.out⟩
    case round =>
      obtain ⟨i, j, dk, rfl, rfl, hjd, hgg, hwr, I2⟩ := hrel
      have hI := I2.out
      have hij := hI.lt
      have hds := hI.size
      have hHk : Holds encQ wr blk off dk := by rw [hwr]; exact holds_putRow encQ _ blk off d dk (holds_ahead encQ w' 0 blk off d HH.out) hds
      have W2 : Hid (wr = putRow encQ (Sort.ahead w' 0) blk off dk) := hwr
      by_cases hlt : j < d.size
      · have hltz : (j : Int) < (d.size : Int) := by omega
        obtain ⟨cj, _⟩ := hHk j (by omega)
        obtain ⟨ci, fi⟩ := hHk i (by omega)
        rw [hI.high j (by omega), HD.out j hlt] at cj
        change wr.cell? ⟨blk, off + j, none⟩ = some (.pointer (some ⟨bs.getD j 0, 0, none⟩)) at cj
        have hcall := HG.out wr (bs.getD j 0) (ls.getD j RE.nothing) (by rw [hwr]; exact ((HA.out.2 j (by omega)).inRow encQ 0 dk).is)
        have HKJ := Lib.hid (HKP.out j hlt)
        have HDJ := Lib.hid (HD.out j hlt)
        generalize dk[i]! = old at ci
        generalize bs.getD j 0 = b at *
        generalize ls.getD j RE.nothing = r at *
        clear hHk hI hwr
        cases hq : p r with
        | false =>
          rw [hq] at hcall
          have HC := Lib.hid hcall
          have HQ := Lib.hid hq
          clear hcall hq
          go_wp2_with fail
          refine HC.out.mono ?_
          rintro e w1 ⟨rfl, rfl⟩
          go_wp2_with fail
          go_roundg (d.size - (j + 1))
          case measure => omega
          case rel =>
            refine ⟨i + 1, j + 1, dk.setIfInBounds i (some (b, r)), by go_num, by go_num, by omega, Nat.le_refl _, ?_, (show Hid _ from ?_)⟩
            · rw [W2.out]; exact putRow_set encQ _ blk off dk i (some (b, r)) (by omega)
            · have := I2.out.keep hlt (by rw [HKJ.out, HQ.out]; rfl)
              rwa [HDJ.out] at this
        | true =>
          rw [hq] at hcall
          have HC := Lib.hid hcall
          have HQ := Lib.hid hq
          clear hcall hq
          go_wp2_with fail
          refine HC.out.mono ?_
          rintro e w1 ⟨rfl, rfl⟩
          go_wp2_with fail
          go_roundg (d.size - (j + 1))
          case measure => omega
          case rel => exact ⟨i, j + 1, dk, rfl, by go_num, by omega, Nat.le_refl _, W2.out, I2.out.skip (by rw [HKJ.out, HQ.out]; rfl)⟩
      · obtain rfl : j = d.size := by omega
        have hltz : ¬ (d.size : Int) < (d.size : Int) := by omega
        have hcl : ∀ ty, (Builtin.clear_ #[113] ty #[.slice (some ⟨blk, off + i, none⟩) (d.size - i) (cap - i)]).run Tryz.prog wr = .ok (.tuple #[]) (wr.setCells blk (off + i) (List.replicate (d.size - i) (encQ none))) :=
          fun ty => Lib.run_clear_slice wr _ _ ty _ undPtr zeroPtr (encQ_one.cells none) (encQ_one none) blk (off + i) _ _ (by omega) (fun t ht => by rw [show off + i + t = off + (i + t) by omega, (hHk (i + t) (by omega)).1]; rfl) (fun t ht => by rw [show off + i + t = off + (i + t) by omega]; exact (hHk (i + t) (by omega)).2)
        clear hHk hI hwr
        go_wp2
        go_ret
        have hI := I2.out
        refine ⟨by rw [hI.len]; rfl, 0, ?_⟩
        rw [hI.len, ← hI.done none, ← putRow_setCells encQ _ blk off _ dk i (by simp; omega), ← W2.out, List.map_replicate]
end Go.Proofs.YtgamknphlmcgnaaGreatDoor
end
section
set_option linter.unusedSimpArgs false
set_option linter.unusedVariables false
set_option maxRecDepth 100000
set_option linter.unnecessarySimpa false
namespace Go.Proofs
open Go.Shelf in
def Tryz.laysSort_ren : Go.Shelf.Ren := ⟨fun | 6 => 190 | 15 => 200 | 14 => 199 | 28 => 213 | 29 => 186 | 20 => 205 | 21 => 206 | 22 => 207 | 23 => 208 | 24 => 209 | 25 => 210 | 26 => 211 | 27 => 212 | 46 => 216 | 47 => 217 | 48 => 218 | 49 => 219 | 50 => 220 | 57 => 222 | n => n, fun | 22 => 113 | 24 => 28 | 25 => 227 | 3 => 3 | 39 => 73 | 0 => 0 | 53 => 222 | 55 => 30 | 4 => 4 | 46 => 238 | 45 => 237 | 50 => 242 | 5 => 5 | 9 => 9 | 66 => 244 | 70 => 248 | 76 => 251 | 77 => 252 | n => n, fun | n => n⟩
open Go.Shelf in
theorem Tryz.laysSort : Go.Proofs.SlLaysF.n6 Tryz.prog Tryz.laysSort_ren := {
  mixed := by kernel_rfl
  f6 := ⟨Tryz.f190.name, by decide, Tryz.func190.trans (congrArg some (by kernel_rfl))⟩
  f14 := ⟨Tryz.f199.name, by decide, Tryz.func199.trans (congrArg some (by kernel_rfl))⟩
  f15 := Tryz.func200.trans (congrArg some (by kernel_rfl))
  f20 := ⟨Tryz.f205.name, by decide, Tryz.func205.trans (congrArg some (by kernel_rfl))⟩
  f21 := ⟨Tryz.f206.name, by decide, Tryz.func206.trans (congrArg some (by kernel_rfl))⟩
  f22 := ⟨Tryz.f207.name, by decide, Tryz.func207.trans (congrArg some (by kernel_rfl))⟩
  f23 := ⟨Tryz.f208.name, by decide, Tryz.func208.trans (congrArg some (by kernel_rfl))⟩
  f24 := ⟨Tryz.f209.name, by decide, Tryz.func209.trans (congrArg some (by kernel_rfl))⟩
  f25 := ⟨Tryz.f210.name, by decide, Tryz.func210.trans (congrArg some (by kernel_rfl))⟩
  f26 := ⟨Tryz.f211.name, by decide, Tryz.func211.trans (congrArg some (by kernel_rfl))⟩
  f27 := ⟨Tryz.f212.name, by decide, Tryz.func212.trans (congrArg some (by kernel_rfl))⟩
  f28 := Tryz.func213.trans (congrArg some (by kernel_rfl))
  f29 := Tryz.func186.trans (congrArg some (by kernel_rfl))
  f46 := ⟨Tryz.f216.name, by decide, Tryz.func216.trans (congrArg some (by kernel_rfl))⟩
  f47 := Tryz.func217.trans (congrArg some (by kernel_rfl))
  f48 := Tryz.func218.trans (congrArg some (by kernel_rfl))
  f49 := ⟨Tryz.f219.name, by decide, Tryz.func219.trans (congrArg some (by kernel_rfl))⟩
  f50 := ⟨Tryz.f220.name, by decide, Tryz.func220.trans (congrArg some (by kernel_rfl))⟩
  f57 := ⟨Tryz.f222.name, by decide, Tryz.func222.trans (congrArg some (by kernel_rfl))⟩
  t0 := Tryz.underlying0
  a0 := Tryz.isAgg0
  z0 := Tryz.sizeOf0
  v0 := Tryz.zeroValue0
  t3 := Tryz.underlying3
  a3 := Tryz.isAgg3
  z3 := Tryz.sizeOf3
  v3 := Tryz.zeroValue3
  t4 := Tryz.underlying4
  a4 := Tryz.isAgg4
  z4 := Tryz.sizeOf4
  v4 := Tryz.zeroValue4
  t5 := Tryz.underlying5
  a5 := Tryz.isAgg5
  z5 := Tryz.sizeOf5
  v5 := Tryz.zeroValue5
  t9 := Tryz.underlying9
  a9 := Tryz.isAgg9
  z9 := Tryz.sizeOf9
  v9 := Tryz.zeroValue9
  t22 := Tryz.underlying113
  a22 := Tryz.isAgg113
  z22 := Tryz.sizeOf113
  v22 := Tryz.zeroValue113
  a24 := Tryz.isAgg28
  z24 := Tryz.sizeOf28
  t25 := Tryz.underlying227
  a25 := Tryz.isAgg227
  z25 := Tryz.sizeOf227
  v25 := Tryz.zeroValue227
  t39 := Tryz.underlying73
  a39 := Tryz.isAgg73
  z39 := Tryz.sizeOf73
  v39 := Tryz.zeroValue73
  t45 := Tryz.underlying237
  a45 := Tryz.isAgg237
  z45 := Tryz.sizeOf237
  v45 := Tryz.zeroValue237
  t46 := Tryz.underlying238
  a46 := Tryz.isAgg238
  z46 := Tryz.sizeOf238
  v46 := Tryz.zeroValue238
  t50 := Tryz.underlying242
  a50 := Tryz.isAgg242
  z50 := Tryz.sizeOf242
  v50 := Tryz.zeroValue242
  t53 := Tryz.underlying222
  a53 := Tryz.isAgg222
  z53 := Tryz.sizeOf222
  v53 := Tryz.zeroValue222
  t55 := Tryz.underlying30
  a55 := Tryz.isAgg30
  z55 := Tryz.sizeOf30
  v55 := Tryz.zeroValue30
  t66 := Tryz.underlying244
  a66 := Tryz.isAgg244
  z66 := Tryz.sizeOf244
  v66 := Tryz.zeroValue244
  t70 := Tryz.underlying248
  a70 := Tryz.isAgg248
  z70 := Tryz.sizeOf248
  v70 := Tryz.zeroValue248
  t76 := Tryz.underlying251
  a76 := Tryz.isAgg251
  z76 := Tryz.sizeOf251
  v76 := Tryz.zeroValue251
  t77 := Tryz.underlying252
  a77 := Tryz.isAgg252
  z77 := Tryz.sizeOf252
  v77 := Tryz.zeroValue252 }
namespace YtgamknphlmcgnaaGreatDoor
open Go.RowKit Go.Sort Go.Lib
theorem Key_any (v : Value) (o : Option RE) (w : World) (h : IsReO w v o) :
    Calls Tryz.prog 71 #[v] w fun e w' => e = .returned (.string ⟨(RE.keyO o).toArray⟩) ∧ w' = w := by
  cases o with
  | none =>
    have hv : v = .pointer none := h
    subst hv
    go_enter Tryz.func71, Tryz.ntmps71
    go_wp2
    go_ret
    exact ⟨rfl, rfl⟩
  | some r =>
    obtain ⟨b, rfl, hb⟩ := h
    obtain ⟨kp1, cap1, bs1, hnode, _, _⟩ := hb.open
    have hc : w.cell? ⟨b, 2 + 3 + 2, none⟩ = some (.string ⟨r.key.toArray⟩) := by rw [cell_of_row _ _ _ _ _ _ hnode]; rfl
    clear hnode hb
    go_enter Tryz.func71, Tryz.ntmps71
    go_wp2
    go_ret
    exact ⟨rfl, rfl⟩
theorem Size_any (v : Value) (o : Option RE) (w : World) (h : IsReO w v o) :
    Calls Tryz.prog 21 #[v] w fun e w' => e = .returned (.int .i64 (RE.sizeO o : Nat)) ∧ w' = w := by
  cases o with
  | none =>
    have hv : v = .pointer none := h
    subst hv
    go_enter Tryz.func21, Tryz.ntmps21
    go_wp2
    go_ret
    exact ⟨rfl, rfl⟩
  | some r =>
    obtain ⟨b, rfl, hb⟩ := h
    obtain ⟨kp1, cap1, bs1, hnode, _, _⟩ := hb.open
    have hc : w.cell? ⟨b, 2 + 3 + 3, none⟩ = some (.int .i64 (r.size : Nat)) := by rw [cell_of_row _ _ _ _ _ _ hnode]; rfl
    clear hnode hb
    go_enter Tryz.func21, Tryz.ntmps21
    go_wp2
    go_ret
    exact ⟨rfl, rfl⟩
theorem Null_asks : Asks 156 RE.null := by
  intro W b r hb
  obtain ⟨kp1, cap1, bs1, hnode, _, _⟩ := hb.open
  have hc : W.cell? ⟨b, 2 + 3 + 1, none⟩ = some (.bool r.null) := by rw [cell_of_row _ _ _ _ _ _ hnode]; rfl
  clear hnode hb
  go_enter Tryz.func156, Tryz.ntmps156
  go_wp2
  go_ret
  exact ⟨rfl, rfl⟩
theorem beq_bytes (l l' : List UInt8) : ((⟨l.toArray⟩ : ByteArray).toList == (⟨l'.toArray⟩ : ByteArray).toList) = decide (l = l') := by
  rw [Lib.toList_data, Lib.toList_data]
  by_cases h : l = l'
  · simp [h]
  · simp [h]
def sameB (o o' : Option RE) : Bool := decide (RE.keyO o = RE.keyO o')
theorem Same_any (v v' : Value) (o o' : Option RE) (w : World) (h : IsReO w v o) (h' : IsReO w v' o') :
    Calls Tryz.prog 26 #[v, v'] w fun e w' => e = .returned (.bool (sameB o o')) ∧ w' = w := by
  have H1 := Lib.hid (Key_any v o w h)
  have H2 := Lib.hid (Key_any v' o' w h')
  have HB : Hid (((⟨(RE.keyO o).toArray⟩ : ByteArray).toList == (⟨(RE.keyO o').toArray⟩ : ByteArray).toList) = sameB o o') := beq_bytes _ _
  generalize (⟨(RE.keyO o).toArray⟩ : ByteArray) = k at *
  generalize (⟨(RE.keyO o').toArray⟩ : ByteArray) = k' at *
  clear h h'
  go_enter Tryz.func26, Tryz.ntmps26
  go_wp2_with fail
  refine H1.out.mono ?_
  rintro e w' ⟨rfl, rfl⟩
  go_wp2_with fail
  refine H2.out.mono ?_
  rintro e w' ⟨rfl, rfl⟩
  go_wp2_with fail
  go_ret
  exact ⟨congrArg (fun b => Ending.returned (.bool b)) HB.out, rfl⟩
theorem isNaN_any (x : ByteArray) (w : World) : Calls Tryz.prog 201 #[.string x] w fun e w' => e = .returned (.bool false) ∧ w' = w := by
  go_enter Tryz.func201, Tryz.ntmps201
  go_wp2
  go_ret
  exact ⟨by simp, rfl⟩
/-- which of two texts comes first -/
def cmpK (x y : List UInt8) : Int := if x < y then -1 else if y < x then 1 else 0
theorem Compare_any (x y : List UInt8) (w : World) : Calls Tryz.prog 192 #[.string ⟨x.toArray⟩, .string ⟨y.toArray⟩] w fun e w' => e = .returned (.int .i64 (cmpK x y)) ∧ w' = w := by
  have hb : Op.bytesLess (⟨x.toArray⟩ : ByteArray).toList (⟨y.toArray⟩ : ByteArray).toList = decide (x < y) := by rw [bytesLess_eq, Lib.toList_data, Lib.toList_data]
  have he := beq_bytes x y
  have HC : Hid (cmpK x y = if x < y then -1 else if y < x then 1 else 0) := rfl
  generalize cmpK x y = c at *
  generalize (⟨x.toArray⟩ : ByteArray) = k at *
  generalize (⟨y.toArray⟩ : ByteArray) = k' at *
  by_cases h1 : x < y
  · have h2 : c = -1 := by rw [HC.out, if_pos h1]
    subst h2
    rw [decide_eq_true h1] at hb
    clear he h1 HC
    go_enter Tryz.func192, Tryz.ntmps192
    go_wp2_with (go_at_call 201; refine (isNaN_any _ _).mono ?_; rintro e w' ⟨rfl, rfl⟩)
    go_ret
    exact ⟨rfl, rfl⟩
  · by_cases h3 : y < x
    · have h2 : c = 1 := by rw [HC.out, if_neg h1, if_pos h3]
      subst h2
      rw [decide_eq_false h1] at hb
      rw [decide_eq_false (fun e => List.lt_irrefl x (by rw [← e] at h3; exact h3))] at he
      clear h1 h3 HC
      go_enter Tryz.func192, Tryz.ntmps192
      go_wp2_with (go_at_call 201; refine (isNaN_any _ _).mono ?_; rintro e w' ⟨rfl, rfl⟩)
      go_ret
      exact ⟨rfl, rfl⟩
    · have h2 : c = 0 := by rw [HC.out, if_neg h1, if_neg h3]
      subst h2
      rw [decide_eq_false h1] at hb
      rw [decide_eq_true (List.le_antisymm (List.not_lt.1 h3) (List.not_lt.1 h1))] at he
      clear h1 h3 HC
      go_enter Tryz.func192, Tryz.ntmps192
      go_wp2_with (go_at_call 201; refine (isNaN_any _ _).mono ?_; rintro e w' ⟨rfl, rfl⟩)
      go_ret
      exact ⟨rfl, rfl⟩
def CmpPost (c : Int) (w : World) (e : Ending) (w' : World) : Prop := e = .returned (.int .i64 c) ∧ ∃ n, w' = w.drewN n
set_option maxHeartbeats 1600000 in
theorem cmpRe_any (b b' : Nat) (r r' : RE) (w : World) (h : IsRe w b r) (h' : IsRe w b' r') :
    Calls Tryz.prog 191 #[ptr b, ptr b'] w (CmpPost (cmpK r.key r'.key) w) := by
  obtain ⟨kp1, cap1, bs1, hnode, _, _⟩ := h.open
  have hc : w.cell? ⟨b, 2 + 3 + 2, none⟩ = some (.string ⟨r.key.toArray⟩) := by rw [cell_of_row _ _ _ _ _ _ hnode]; rfl
  obtain ⟨kp2, cap2, bs2, hnode', _, _⟩ := h'.open
  have hc' : w.cell? ⟨b', 2 + 3 + 2, none⟩ = some (.string ⟨r'.key.toArray⟩) := by rw [cell_of_row _ _ _ _ _ _ hnode']; rfl
  have HC := Lib.hid (fun W => Compare_any r.key r'.key W)
  generalize cmpK r.key r'.key = c at *
  generalize (⟨r.key.toArray⟩ : ByteArray) = k at *
  generalize (⟨r'.key.toArray⟩ : ByteArray) = k' at *
  clear hnode hnode' h h'
  go_enter Tryz.func191, Tryz.ntmps191
  go_wp2_with fail
  go_quiet ((go_at_call 192; exact Calls.quiet_of_same (HC.out _)))
  go_wp2
  go_ret
  exact ⟨rfl, _, rfl⟩
end YtgamknphlmcgnaaGreatDoor
end Go.Proofs
end
