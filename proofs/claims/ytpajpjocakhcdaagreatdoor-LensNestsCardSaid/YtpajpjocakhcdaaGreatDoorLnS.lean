/-
  Terms as they are written, walked through the program: those of the document's example.
-/
import Derived.Test.YtpajpjocakhcdaaGreatDoorLnT
import Derived.Test.YtpajpjocakhcdaaGreatDoorTxC
set_option linter.unusedSimpArgs false
set_option linter.unusedVariables false
set_option maxRecDepth 100000
set_option linter.unnecessarySimpa false
namespace Go.Proofs.YtpajpjocakhcdaaGreatDoor
open Go.RowKit
theorem TermAt.later {w w1 : World} {b op : Nat} {re : Value} {text : List UInt8} {kids : Value} (h : TermAt w b op re text kids) (hb : Below w.heap.size w w1) : TermAt w1 b op re text kids :=
  (hb.block b (Array.getElem?_eq_some_iff.1 h).1).trans h
set_option maxRecDepth 100000 in
set_option maxHeartbeats 2000000 in
theorem String_ins (b : Nat) (re : Value) (text : List UInt8) (ht : text.length ≤ 1000000) (kids : Value) (w : World) (h : TermAt w b 6 re text kids) :
    Calls Tryz.prog 16 #[.pointer (some ⟨b, 0, none⟩)] w fun e w' => e = .returned (.string ⟨([105, 110, 115, 32] ++ quoteW text).toArray⟩) ∧ Below w.heap.size w w' := by
  have hc : w.cell? ⟨b, 0, none⟩ = some (.int .i64 6) := by rw [cell_of_row _ _ _ _ _ _ h]; rfl
  have hx : w.cell? ⟨b, 4, none⟩ = some (.string ⟨text.toArray⟩) := by rw [cell_of_row _ _ _ _ _ _ h]; rfl
  have hq : (quoteW text).length ≤ 4000002 := by have := bytesW_len text; simp [quoteW]; omega
  have HQ := Lib.hid (Quote_any text (by omega) w)
  generalize quoteW text = q at *
  clear h
  go_enter Tryz.func16, Tryz.ntmps16
  go_wp2_with fail
  refine HQ.out.mono ?_
  rintro e w1 ⟨rfl, hb⟩
  go_wp2_with fail
  go_ret
  exact ⟨congrArg (fun s => Ending.returned (.string s)) (ByteArray.ext (by simp)), hb⟩
set_option maxRecDepth 100000 in
set_option maxHeartbeats 2000000 in
theorem arg_one (b rb : Nat) (s0 s1 s2 s3 : BitVec 64) (x : Nat) (hx : x < 256) (hl : (⟨s0, s1, s2, s3⟩ : BS).len = 1) (hle : (⟨s0, s1, s2, s3⟩ : BS).least = x) (w : World) (hT : Tab w) (hr : IsRe w rb (RE.node 2 ⟨s0, s1, s2, s3⟩ [])) (h : TermAt w b 2 (.pointer (some ⟨rb, 0, none⟩)) [] (.slice none 0 0)) :
    Calls Tryz.prog 54 #[.pointer (some ⟨b, 0, none⟩)] w fun e w' => e = .returned (.string ⟨([47] ++ byteW x ++ [47]).toArray⟩) ∧ Below w.heap.size w w' := by
  have HO := Lib.hid (Of_one s0 s1 s2 s3 x hx hl hle rb w hT hr)
  have hk : w.cell? ⟨b, 6, none⟩ = some (.slice none 0 0) := by rw [cell_of_row _ _ _ _ _ _ h]; rfl
  have hre : w.cell? ⟨b, 3, none⟩ = some (.pointer (some ⟨rb, 0, none⟩)) := by rw [cell_of_row _ _ _ _ _ _ h]; rfl
  have hbl := byteW_len x
  generalize byteW x = y at *
  clear h hr hT hl hle
  go_enter Tryz.func54, Tryz.ntmps54
  go_wp2_with fail
  refine HO.out.mono ?_
  rintro e w1 ⟨rfl, hb⟩
  go_wp2_with fail
  go_ret
  exact ⟨congrArg (fun s => Ending.returned (.string s)) (ByteArray.ext (by simp)), hb⟩
set_option maxRecDepth 100000 in
set_option maxHeartbeats 2000000 in
theorem String_copy (b rb : Nat) (s0 s1 s2 s3 : BitVec 64) (x : Nat) (hx : x < 256) (hl : (⟨s0, s1, s2, s3⟩ : BS).len = 1) (hle : (⟨s0, s1, s2, s3⟩ : BS).least = x) (w : World) (hT : Tab w) (hWo : WordsAt w) (hr : IsRe w rb (RE.node 2 ⟨s0, s1, s2, s3⟩ [])) (h : TermAt w b 2 (.pointer (some ⟨rb, 0, none⟩)) [] (.slice none 0 0)) :
    Calls Tryz.prog 16 #[.pointer (some ⟨b, 0, none⟩)] w fun e w' => e = .returned (.string ⟨([99, 111, 112, 121, 32] ++ ([47] ++ byteW x ++ [47])).toArray⟩) ∧ Below w.heap.size w w' := by
  have HA := Lib.hid (arg_one b rb s0 s1 s2 s3 x hx hl hle w hT hr h)
  have hc : w.cell? ⟨b, 0, none⟩ = some (.int .i64 2) := by rw [cell_of_row _ _ _ _ _ _ h]; rfl
  have HWD := Lib.hid (Word_op 2 w hWo)
  have hbl : ([47] ++ byteW x ++ [47]).length ≤ 6 := by have := byteW_len x; simp; omega
  generalize [47] ++ byteW x ++ [47] = y at *
  clear h hr hT hl hle hWo
  go_enter Tryz.func16, Tryz.ntmps16
  go_wp2_with fail
  refine HWD.out.mono ?_
  rintro e w' ⟨rfl, rfl⟩
  rw [show wordT 2 = [99, 111, 112, 121] from rfl]
  go_wp2_with fail
  refine HA.out.mono ?_
  rintro e w1 ⟨rfl, hb⟩
  go_wp2_with fail
  go_ret
  exact ⟨congrArg (fun s => Ending.returned (.string s)) (ByteArray.ext (by simp)), hb⟩
end Go.Proofs.YtpajpjocakhcdaaGreatDoor
