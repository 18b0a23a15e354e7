/-
  Texts quoted, walked through the program: the program's own 'Quote' and the statement's.
-/
import Derived.Test.YtpajpjocakhcdaaGreatDoorTxB
import Derived.Test.YtpajpjocakhcdaaGreatDoorSetP
set_option linter.unusedSimpArgs false
set_option linter.unusedVariables false
set_option maxRecDepth 100000
set_option linter.unnecessarySimpa false
namespace Go.Proofs.YtpajpjocakhcdaaGreatDoor
open Go.RowKit
def bytesW (l : List UInt8) : List UInt8 := l.flatMap fun c => byteW c.toNat
def quoteW (l : List UInt8) : List UInt8 := 34 :: (bytesW l ++ [34])
theorem byteW_len (b : Nat) : (byteW b).length ≤ 4 := by
  unfold byteW
  split
  · simp
  · split
    · simp
    · split
      · simp
      · split <;> simp
theorem bytesW_len (l : List UInt8) : (bytesW l).length ≤ 4 * l.length := by
  induction l with
  | nil => simp [bytesW]
  | cons a l ih => have := byteW_len a.toNat; simp [bytesW] at ih ⊢; omega
theorem bytesW_take (l : List UInt8) (k : Nat) (h : k < l.length) : bytesW (l.take (k + 1)) = bytesW (l.take k) ++ byteW (l.getD k 0).toNat := by
  unfold bytesW
  rw [List.take_succ_eq_append_getElem h, List.flatMap_append]
  simp [List.getD, h]
theorem str_at (l : List UInt8) (k : Nat) (h : k < l.length) (w : World) : (Instr.index 9 (.string ⟨l.toArray⟩) (.int .i64 (k : Int))).run Tryz.prog w = .ok (.int .u8 ((l.getD k 0).toNat : Int)) w := by
  rw [run_index_string w _ _ .i64 _ undStr, dif_pos ⟨by omega, by show (k : Int) < (l.length : Nat); omega⟩]
  simp [List.getD, h]
  rfl
theorem str_size (l : List UInt8) : (⟨l.toArray⟩ : ByteArray).size = l.length := by simp [ByteArray.size]
theorem re_alloc0 (w : World) (o : Obj) : Below w.heap.size w (w.alloc o) := ext_alloc (Below.refl _ w) o
theorem builder_later {T e : TypeId} {B b : Nat} {bs : List Value} {w w' : World} (h : Lib.IsBuilder T e B b bs w) (hb : Below w.heap.size w w') : Lib.IsBuilder T e B b bs w' := by
  have key : ∀ p, Lib.BuilderAt T e B b p bs w → Lib.BuilderAt T e B b p bs w' := by
    rintro p ⟨h1, v, h2, h3, h4⟩
    exact ⟨h1, v, (hb.block b (Array.getElem?_eq_some_iff.1 h2).1).trans h2, h3.kept (row := none) ⟨hb.os, hb.tape, hb.output, hb.size, fun k hk _ => hb.block k hk⟩ (by cases v.ownBlock <;> simp), h4⟩
  rcases h with h | h
  · exact .inl (key _ h)
  · exact .inr (key _ h)
def QuAt (l : List UInt8) (w : World) (i : Value) (wr : World) : Prop :=
  ∃ k : Nat, k ≤ l.length ∧ i = .int .i64 k ∧ Lib.IsBuilder 115 5 w.heap.size w.heap.size (Lib.byteCells (34 :: bytesW (l.take k))) wr ∧ Below w.heap.size w wr
set_option maxRecDepth 100000 in
set_option maxHeartbeats 2000000 in
theorem Quote_any (l : List UInt8) (hl : l.length ≤ 1099511627776) (w : World) :
    Calls Tryz.prog 55 #[.string ⟨l.toArray⟩] w fun e w' => e = .returned (.string ⟨(quoteW l).toArray⟩) ∧ Below w.heap.size w w' := by
  have hss := str_size l
  go_enter Tryz.func55, Tryz.ntmps55
  have hB0 : Lib.IsBuilder 115 5 w.heap.size w.heap.size [] (w.alloc (.cells #[.pointer none, .slice none 0 0] 115)) :=
    .inl ⟨Nat.le_refl _, .slice none 0 0, heap_alloc_last _ _, World.ownsRow_nil _ _ _ _, by simp [Value.ownBlock]⟩
  have HB0 := Lib.hid hB0
  clear hB0
  go_wp2_with fail
  refine (WriteByte_any w.heap.size w.heap.size [] 34 _ HB0.out (by simp) (by simp)).mono ?_
  rintro e w1 ⟨rfl, hI1, hb1⟩
  have hB1 : Below w.heap.size w w1 := (re_alloc0 w _).trans hb1
  go_wp2_with fail
  go_loopw [8] (fun i wr => QuAt l w i wr) (fun i _ => l.length - (intOf i).toNat)
  case atStart => exact ⟨0, by omega, rfl, hI1, hB1⟩
  case round =>
    clear hI1 hb1 hB1
    obtain ⟨k, hk, rfl, hI, hbel⟩ := hrel
    by_cases hlt : k < l.length
    · have hix := str_at l k hlt
      have HNX := Lib.hid (bytesW_take l k hlt)
      have hbl := bytesW_len (l.take k)
      have htk : (l.take k).length ≤ l.length := List.length_take_le' _ _
      have hbb := byteW_len (l.getD k 0).toNat
      generalize bytesW (l.take k) = pre at *
      have HB := Lib.hid (Byte_any (l.getD k 0).toNat (l.getD k 0).toNat_lt)
      generalize (l.getD k 0).toNat = b at *
      generalize byteW b = bw at *
      have HI := Lib.hid hI
      clear hI
      go_wp2_with fail
      refine (HB.out _).mono ?_
      rintro e w1 ⟨rfl, hb1⟩
      have hI1 := builder_later HI.out hb1
      have hB1 := ext_step hbel hb1
      have HWS := Lib.hid (WriteString_any w.heap.size w.heap.size (Lib.byteCells (34 :: pre)) ⟨bw.toArray⟩ w1 hI1 (by rw [Lib.byteCells_length, str_size]; simp; omega) hB1.size)
      clear hI1
      go_wp2_with fail
      refine HWS.out.mono ?_
      rintro e w2 ⟨rfl, hI2, hb2⟩
      have HI2 : Hid (Lib.IsBuilder 115 5 w.heap.size w.heap.size (Lib.byteCells (34 :: bytesW (l.take (k + 1)))) w2) := by
        show Lib.IsBuilder _ _ _ _ _ _
        rw [HNX.out]
        simpa [Lib.byteCells, Lib.strCells] using hI2
      have hB2 := hB1.trans hb2
      clear hI2 hb2 hb1 hB1
      go_wp2
      go_roundw
      case rel => exact ⟨k + 1, by omega, by go_num, HI2.out, hB2⟩
      case measure => simp [intOf]; omega
    · obtain rfl : k = l.length := by omega
      rw [List.take_length] at hI
      have hbl := bytesW_len l
      have HQ : Hid (quoteW l = (34 :: bytesW l) ++ [34]) := rfl
      generalize bytesW l = pre at *
      have HWB := Lib.hid (WriteByte_any w.heap.size w.heap.size (Lib.byteCells (34 :: pre)) 34 wr hI (by rw [Lib.byteCells_length]; simp; omega) hbel.size)
      clear hI
      go_wp2_with fail
      refine HWB.out.mono ?_
      rintro e w1 ⟨rfl, hI1, hb1⟩
      have hB1 := hbel.trans hb1
      have hI2 : Lib.IsBuilder 115 5 w.heap.size w.heap.size (Lib.byteCells (quoteW l)) w1 := by
        rw [HQ.out]
        simpa [Lib.byteCells] using hI1
      have HST := Lib.hid (String_any w.heap.size w.heap.size (quoteW l) w1 hI2 hB1.size)
      clear hI1 hI2 HQ
      go_wp2_with fail
      refine HST.out.mono ?_
      rintro e w2 ⟨rfl, hb2⟩
      go_wp2_with fail
      go_ret
      exact ⟨rfl, hB1.trans hb2⟩
def LqAt (l : List UInt8) (w : World) (v i : Value) (wr : World) : Prop :=
  ∃ k : Nat, k ≤ l.length ∧ i = .int .i64 k ∧ v = .string ⟨(34 :: bytesW (l.take k)).toArray⟩ ∧ Below w.heap.size w wr
set_option maxRecDepth 100000 in
set_option maxHeartbeats 2000000 in
theorem quote_any (l : List UInt8) (hl : l.length ≤ 1099511627776) (w : World) :
    Calls Tryz.prog 59 #[.string ⟨l.toArray⟩] w fun e w' => e = .returned (.string ⟨(quoteW l).toArray⟩) ∧ Below w.heap.size w w' := by
  have hss := str_size l
  go_enter Tryz.func59, Tryz.ntmps59
  go_wp2_with fail
  go_loopw [3, 4] (fun v i wr => LqAt l w v i wr) (fun _ i _ => l.length - (intOf i).toNat)
  case atStart => exact ⟨0, by omega, rfl, rfl, Below.refl _ _⟩
  case round =>
    obtain ⟨k, hk, rfl, rfl, hbel⟩ := hrel
    by_cases hlt : k < l.length
    · have hix := str_at l k hlt
      have HNX := Lib.hid (bytesW_take l k hlt)
      have hbl := bytesW_len (l.take k)
      have htk : (l.take k).length ≤ l.length := List.length_take_le' _ _
      have hbb := byteW_len (l.getD k 0).toNat
      generalize bytesW (l.take k) = pre at *
      have HB := Lib.hid (Byte_any (l.getD k 0).toNat (l.getD k 0).toNat_lt)
      generalize (l.getD k 0).toNat = b at *
      generalize byteW b = bw at *
      go_wp2_with (go_at_call 33; refine (HB.out _).mono ?_; rintro e w1 ⟨rfl, hb1⟩)
      go_roundw
      case rel => exact ⟨k + 1, by omega, by go_num, congrArg Value.string (ByteArray.ext (by rw [HNX.out]; simp)), ext_step hbel hb1⟩
      case measure => simp [intOf]; omega
    · obtain rfl : k = l.length := by omega
      have HQ : Hid (quoteW l = (34 :: bytesW l) ++ [34]) := rfl
      rw [List.take_length]
      have hbl := bytesW_len l
      generalize bytesW l = pre at *
      go_wp2_with fail
      go_ret
      exact ⟨congrArg (fun s => Ending.returned (.string s)) (ByteArray.ext (by rw [HQ.out]; simp)), hbel⟩
end Go.Proofs.YtpajpjocakhcdaaGreatDoor
