/-
  ParseErrors, walked through the program.
-/
import Derived.Test.YticpjjmacmmpjaaGreatDoorPrV
set_option linter.unusedSimpArgs false
set_option linter.unusedVariables false
set_option maxRecDepth 100000
set_option linter.unnecessarySimpa false
namespace Go.Proofs.YticpjjmacmmpjaaGreatDoor
open Go.RowKit
def PErrAt (K : Nat) (W : World) (a i : Value) (wr : World) : Prop := ∃ k : Nat, k ≤ K ∧ i = .int .i64 k ∧ a = .string ⟨(PR.errA k).toArray⟩ ∧ wr = W
theorem pcell_box1 (w : World) (cs : Array Value) (t : TypeId) (j : Nat) (w5 : World) (hb : Below (w.alloc (.cells cs t)).heap.size (w.alloc (.cells cs t)) w5) : w5.cell? ⟨w.heap.size, j, none⟩ = cs[j]? := by
  rw [hb.cell (p := ⟨w.heap.size, j, none⟩) (by simp), World.cell?_alloc_new]
theorem p_bytes (l m : List UInt8) : (⟨l.toArray⟩ : ByteArray) ++ ⟨m.toArray⟩ = ⟨(l ++ m).toArray⟩ := ByteArray.ext (by simp)
set_option maxRecDepth 100000 in
set_option maxHeartbeats 1600000 in
theorem ParseErrors_any (n m : Int) (w : World) (hT : Tab w) (hWo : WordsAt w) : Calls Tryz.prog 8 #[.int .i64 n, .int .i64 m] w fun e w' => e = .returned (.bool true) ∧ Below w.heap.size w w' := by
  obtain ⟨hk1, hk2⟩ := lowN_eq m 7 (by omega)
  have hu : (IntKind.u64.wrap n).tmod 30 = (uRem n 30 : Nat) := uRem_eq n 30
  have hul := uRem_lt n 30 (by omega)
  generalize lowN m 7 = K at *
  generalize uRem n 30 = i at *
  have hk1' : bits .and .i64 m 7 = (K : Nat) := hk1
  clear hk1
  have HE := Lib.hid (EnvP.mk hT hWo)
  have HH := Lib.hid (prHead_any w HE.out)
  clear hT hWo
  go_enter Tryz.func8, Tryz.ntmps8
  go_wp2_with fail
  refine HH.out.mono ?_
  rintro e w1 ⟨rfl, hb⟩
  have HB1 := Lib.hid hb
  clear hb HH
  go_wp2_with fail
  go_loopw [5, 6] (fun a i wr => PErrAt K w1 a i wr) (fun _ i _ => K - (intOf i).toNat)
  case atStart => exact ⟨0, by omega, rfl, rfl, rfl⟩
  case round =>
    obtain ⟨k, hk, rfl, rfl, rfl⟩ := hrel
    by_cases hlt : k < K
    · have HA : Hid ((⟨(PR.errA k).toArray⟩ : ByteArray) ++ ⟨#[108, 101, 116, 32, 120, 32, 61, 32, 47, 97, 47, 32, 105, 110, 32]⟩ = ⟨(PR.errA (k + 1)).toArray⟩) := ByteArray.ext (by simp [PR.errA])
      have hln := PR.errA_len k
      have hsz : (⟨(PR.errA k).toArray⟩ : ByteArray).size = (PR.errA k).length := str_size _
      generalize hz : (⟨(PR.errA k).toArray⟩ : ByteArray) = Z at *
      go_wp2_with fail
      go_roundw
      case rel => exact ⟨k + 1, by omega, by go_num, by first | rw [HA.out] | (congr 1; exact HA.out), rfl⟩
      case measure => simp [intOf]; omega
    · obtain rfl : k = K := by omega
      have hln := PR.errA_len k
      have hsz : (⟨(PR.errA k).toArray⟩ : ByteArray).size = (PR.errA k).length := str_size _
      rw [hln] at hsz
      have HALL := Lib.hid (PR.errs_kernel i hul k (by omega))
      have HLN := Lib.hid hln
      generalize hz : (⟨(PR.errA k).toArray⟩ : ByteArray) = Z at *
      have HZ := Lib.hid hz
      clear hz hln hlt
      have hcase : i = 0 ∨ i = 1 ∨ i = 2 ∨ i = 3 ∨ i = 4 ∨ i = 5 ∨ i = 6 ∨ i = 7 ∨ i = 8 ∨ i = 9 ∨ i = 10 ∨ i = 11 ∨ i = 12 ∨ i = 13 ∨ i = 14 ∨ i = 15 ∨ i = 16 ∨ i = 17 ∨ i = 18 ∨ i = 19 ∨ i = 20 ∨ i = 21 ∨ i = 22 ∨ i = 23 ∨ i = 24 ∨ i = 25 ∨ i = 26 ∨ i = 27 ∨ i = 28 ∨ i = 29 := by omega
      have htl : ∀ j, j < 30 → (PR.errT.getD j ([], 0)).1.length ≤ 31 := by decide
      have hat : ∀ j, j < 30 → (PR.errT.getD j ([], 0)).2 ≤ 31 := by decide
      have hti := htl i hul
      have hati := hat i hul
      clear htl hat
      go_upto_region 9 with fail
      generalize hW1 : World.alloc wr _ = W1 at *
      have hc0 : W1.cell? ⟨wr.heap.size, i * 2, none⟩ = some (.string ⟨(PR.errT.getD i ([], 0)).1.toArray⟩) := by
        rw [← hW1, cell_of_row _ _ _ _ _ _ (heap_alloc_last wr _)]
        rcases hcase with rfl | rfl | rfl | rfl | rfl | rfl | rfl | rfl | rfl | rfl | rfl | rfl | rfl | rfl | rfl | rfl | rfl | rfl | rfl | rfl | rfl | rfl | rfl | rfl | rfl | rfl | rfl | rfl | rfl | rfl
        all_goals rfl
      have hc1 : W1.cell? ⟨wr.heap.size, i * 2 + 1, none⟩ = some (.int .i64 ((PR.errT.getD i ([], 0)).2 : Nat)) := by
        rw [← hW1, cell_of_row _ _ _ _ _ _ (heap_alloc_last wr _)]
        rcases hcase with rfl | rfl | rfl | rfl | rfl | rfl | rfl | rfl | rfl | rfl | rfl | rfl | rfl | rfl | rfl | rfl | rfl | rfl | rfl | rfl | rfl | rfl | rfl | rfl | rfl | rfl | rfl | rfl | rfl | rfl
        all_goals rfl
      have hbx : Below wr.heap.size wr W1 := by rw [← hW1]; exact re_alloc wr _
      have HBX := Lib.hid hbx
      have HE1 := Lib.hid (HE.out.later (HB1.out.trans (hbx.mono HB1.out.size)))
      clear hW1 hbx hcase
      obtain ⟨T, hT⟩ : ∃ T, (PR.errT.getD i ([], 0)).1 = T := ⟨_, rfl⟩
      obtain ⟨A, hA⟩ : ∃ A, (PR.errT.getD i ([], 0)).2 = A := ⟨_, rfl⟩
      rw [hT] at hc0 hti HALL
      rw [hA] at hc1 hati HALL
      clear hT hA
      have hTs : (⟨T.toArray⟩ : ByteArray).size = T.length := str_size T
      have HLA : Hid (∀ W, EnvP W → Calls Tryz.prog 37 #[.string (Z ++ ⟨T.toArray⟩)] W fun e w' => e = .returned (.tuple #[.pointer none, .int .i64 2, .int .i64 ((15 * k + A : Nat) : Int)]) ∧ Below W.heap.size W w') := fun W hEW => by
        rw [← HZ.out, p_bytes]
        obtain ⟨g1, g2⟩ := HALL.out
        refine (prRead_any _ W hEW (by rw [List.length_append, HLN.out]; omega)).mono ?_
        rintro e w' ⟨v, rfl, hb, hv⟩
        have hn := PR.nonB_eq g1
        rw [hn] at hv
        have hv : v = .pointer none := hv
        subst hv
        rw [g2]
        exact ⟨rfl, hb⟩
      clear HALL
      generalize hz2 : (⟨T.toArray⟩ : ByteArray) = Z2 at *
      clear hz2
      go_wp2_with fail
      refine (HLA.out _ (HE1.out.later (re_alloc _ _))).mono ?_
      rintro e w5 ⟨rfl, hb⟩
      have cb := pcell_box1 _ _ _ 1 _ hb
      have HB5 := Lib.hid ((re_alloc W1 _).trans (hb.mono (by simp)))
      clear hb
      go_wp2_with fail
      go_ret
      exact ⟨rfl, (HB1.out.trans (HBX.out.mono HB1.out.size)).trans (HB5.out.mono (HB1.out.trans (HBX.out.mono HB1.out.size)).size)⟩
end Go.Proofs.YticpjjmacmmpjaaGreatDoor
