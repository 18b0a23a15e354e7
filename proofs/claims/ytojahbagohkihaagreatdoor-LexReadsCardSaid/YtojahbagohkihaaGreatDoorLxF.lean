/-
  LexErrors, walked through the program.
-/
import Derived.Test.YtojahbagohkihaaGreatDoorLxH
import Derived.Test.YtojahbagohkihaaGreatDoorTbG
import Derived.Deep.DeepCutAuto
set_option linter.unusedSimpArgs false
set_option linter.unusedVariables false
set_option maxRecDepth 100000
set_option linter.unnecessarySimpa false
namespace Go.Proofs.YtojahbagohkihaaGreatDoor
open Go.RowKit
def LErrAt (K : Nat) (W : World) (a i : Value) (wr : World) : Prop := ∃ k : Nat, k ≤ K ∧ i = .int .i64 k ∧ a = .string ⟨(LX.errA k).toArray⟩ ∧ wr = W
def ZedAt (W : World) (a i : Value) (wr : World) : Prop := ∃ k : Nat, k ≤ 31 ∧ i = .int .i64 k ∧ a = .string ⟨(List.replicate k (122 : UInt8)).toArray⟩ ∧ wr = W
theorem app_bytes (l m : List UInt8) : (⟨l.toArray⟩ : ByteArray) ++ ⟨m.toArray⟩ = ⟨(l ++ m).toArray⟩ := ByteArray.ext (by simp)
theorem lerrA_len : ∀ k, (LX.errA k).length = 6 * k := by
  intro k
  induction k with
  | zero => rfl
  | succ k ih => rw [LX.errA, List.length_append, ih]; simp; omega
theorem toksNone {base : Nat} {v : Value} {W : World} (h : ToksAt base v [] W) : ∃ kp cap, v = .slice kp 0 cap := by
  obtain ⟨tvs, _, hown, _⟩ := h
  rcases hown.2 with ⟨rfl, _⟩ | ⟨g, cap, cur, rfl, _⟩
  · exact ⟨none, 0, rfl⟩
  · exact ⟨_, cap, rfl⟩
theorem lcell_box1 (w : World) (cs : Array Value) (t : TypeId) (j : Nat) (w5 : World) (hb : Below (w.alloc (.cells cs t)).heap.size (w.alloc (.cells cs t)) w5) : w5.cell? ⟨w.heap.size, j, none⟩ = cs[j]? := by
  rw [hb.cell (p := ⟨w.heap.size, j, none⟩) (by simp), World.cell?_alloc_new]
theorem lbox_below1 (w : World) (o' : Obj) (w5 : World) (hb : Below (w.alloc o').heap.size (w.alloc o') w5) : Below w.heap.size w w5 := (ext_alloc (Below.refl _ _) o').trans (hb.mono (by simp))
set_option maxRecDepth 100000 in
set_option maxHeartbeats 1600000 in
theorem LexErrors_any (n m : Int) (w : World) (hT : Tab w) : Calls Tryz.prog 4 #[.int .i64 n, .int .i64 m] w fun e w' => e = .returned (.bool true) ∧ Below w.heap.size w w' := by
  obtain ⟨hk1, hk2⟩ := lowN_eq m 7 (by omega)
  have hu : (IntKind.u64.wrap n).tmod 11 = (uRem n 11 : Nat) := uRem_eq n 11
  have hul := uRem_lt n 11 (by omega)
  generalize lowN m 7 = K at *
  generalize uRem n 11 = i at *
  have hk1' : bits .and .i64 m 7 = (K : Nat) := hk1
  clear hk1
  have HH := Lib.hid (lxHead_any w hT)
  have HT := Lib.hid hT
  clear hT
  go_enter Tryz.func4, Tryz.ntmps4
  go_wp2_with fail
  refine HH.out.mono ?_
  rintro e w1 ⟨rfl, hb⟩
  have HB1 := Lib.hid hb
  clear hb HH
  go_wp2_with fail
  go_loopw [5, 6] (fun a i wr => LErrAt K w1 a i wr) (fun _ i _ => K - (intOf i).toNat)
  case atStart => exact ⟨0, by omega, rfl, rfl, rfl⟩
  case round =>
    obtain ⟨k, hk, rfl, rfl, rfl⟩ := hrel
    by_cases hlt : k < K
    · have HA : Hid ((⟨(LX.errA k).toArray⟩ : ByteArray) ++ ⟨#[120, 32, 47, 97, 47, 32]⟩ = ⟨(LX.errA (k + 1)).toArray⟩) := ByteArray.ext (by simp [LX.errA])
      have hln := lerrA_len k
      have hsz : (⟨(LX.errA k).toArray⟩ : ByteArray).size = (LX.errA k).length := str_size _
      generalize hz : (⟨(LX.errA k).toArray⟩ : ByteArray) = Z at *
      go_wp2_with fail
      go_roundw
      case rel => exact ⟨k + 1, by omega, by go_num, by first | rw [HA.out] | (congr 1; exact HA.out), rfl⟩
      case measure => simp [intOf]; omega
    · obtain rfl : k = K := by omega
      have hln := lerrA_len k
      have hsz : (⟨(LX.errA k).toArray⟩ : ByteArray).size = (LX.errA k).length := str_size _
      rw [hln] at hsz
      have HALL := Lib.hid (LX.errs_all i hul k (by omega))
      have HLN := Lib.hid hln
      generalize hz : (⟨(LX.errA k).toArray⟩ : ByteArray) = Z at *
      have HZ := Lib.hid hz
      clear hz hln hlt
      go_wp2_with fail
      go_loopw [8, 9] (fun a i W => ZedAt wr a i W) (fun _ i _ => 31 - (intOf i).toNat)
      case atStart => exact ⟨0, by omega, rfl, rfl, rfl⟩
      case round =>
        obtain ⟨z, hz, rfl, rfl, rfl⟩ := hrel
        by_cases hlt : z < 31
        · have HA : Hid ((⟨(List.replicate z (122 : UInt8)).toArray⟩ : ByteArray) ++ ⟨#[122]⟩ = ⟨(List.replicate (z + 1) (122 : UInt8)).toArray⟩) := by show _ = _; rw [List.replicate_succ']; exact app_bytes _ [122]
          have hsz2 : (⟨(List.replicate z (122 : UInt8)).toArray⟩ : ByteArray).size = z := by rw [str_size]; simp
          generalize hz : (⟨(List.replicate z (122 : UInt8)).toArray⟩ : ByteArray) = Z3 at *
          go_wp2_with fail
          go_roundw
          case rel => exact ⟨z + 1, by omega, by go_num, by first | rw [HA.out] | (congr 1; exact HA.out), rfl⟩
          case measure => simp [intOf]; omega
        · obtain rfl : z = 31 := by omega
          have hcase : i = 0 ∨ i = 1 ∨ i = 2 ∨ i = 3 ∨ i = 4 ∨ i = 5 ∨ i = 6 ∨ i = 7 ∨ i = 8 ∨ i = 9 ∨ i = 10 := by omega
          have htl : ∀ j, j < 11 → (LX.errT.getD j ([], 0, 0)).1.length ≤ 31 := by decide
          have hat : ∀ j, j < 11 → (LX.errT.getD j ([], 0, 0)).2.2 ≤ 31 := by decide
          have hti := htl i hul
          have hati := hat i hul
          clear htl hat hlt
          go_upto_region 15 with fail
          generalize hW1 : World.alloc wr _ = W1 at *
          have hc0 : W1.cell? ⟨wr.heap.size, i * 3, none⟩ = some (.string ⟨(LX.errT.getD i ([], 0, 0)).1.toArray⟩) := by
            rw [← hW1, cell_of_row _ _ _ _ _ _ (heap_alloc_last wr _)]
            rcases hcase with rfl | rfl | rfl | rfl | rfl | rfl | rfl | rfl | rfl | rfl | rfl
            all_goals rfl
          have hc1 : W1.cell? ⟨wr.heap.size, i * 3 + 1, none⟩ = some (.int .i64 ((LX.errT.getD i ([], 0, 0)).2.1 : Nat)) := by
            rw [← hW1, cell_of_row _ _ _ _ _ _ (heap_alloc_last wr _)]
            rcases hcase with rfl | rfl | rfl | rfl | rfl | rfl | rfl | rfl | rfl | rfl | rfl
            all_goals rfl
          have hc2 : W1.cell? ⟨wr.heap.size, i * 3 + 2, none⟩ = some (.int .i64 ((LX.errT.getD i ([], 0, 0)).2.2 : Nat)) := by
            rw [← hW1, cell_of_row _ _ _ _ _ _ (heap_alloc_last wr _)]
            rcases hcase with rfl | rfl | rfl | rfl | rfl | rfl | rfl | rfl | rfl | rfl | rfl
            all_goals rfl
          have hbx : Below wr.heap.size wr W1 := by rw [← hW1]; exact re_alloc wr _
          have HBX := Lib.hid hbx
          have HT1 := Lib.hid (HT.out.later (HB1.out.trans (hbx.mono HB1.out.size)))
          clear hW1 hbx hcase
          obtain ⟨T, hT⟩ : ∃ T, (LX.errT.getD i ([], 0, 0)).1 = T := ⟨_, rfl⟩
          obtain ⟨E, hE⟩ : ∃ E, (LX.errT.getD i ([], 0, 0)).2.1 = E := ⟨_, rfl⟩
          obtain ⟨A, hA⟩ : ∃ A, (LX.errT.getD i ([], 0, 0)).2.2 = A := ⟨_, rfl⟩
          rw [hT] at hc0 hti HALL
          rw [hE] at hc1 HALL
          rw [hA] at hc2 hati HALL
          clear hT hE hA
          have hTs : (⟨T.toArray⟩ : ByteArray).size = T.length := str_size T
          have HLA : Hid (∀ W, Tab W → Calls Tryz.prog 16 #[.string (Z ++ ⟨T.toArray⟩)] W fun e w' => ∃ kp cap, e = .returned (.tuple #[.slice kp 0 cap, .int .i64 (E : Nat), .int .i64 ((6 * k + A : Nat) : Int)]) ∧ Below W.heap.size W w') := fun W hTW => by
            rw [← HZ.out, app_bytes]
            obtain ⟨g1, g2, g3⟩ := HALL.out
            refine (lxAll_any W _ hTW (by rw [List.length_append, HLN.out]; omega)).mono ?_
            rintro e w' ⟨v, rfl, htk, hb⟩
            rw [List.isEmpty_iff.1 g1] at htk
            obtain ⟨kp, cap, rfl⟩ := toksNone htk
            refine ⟨kp, cap, ?_, hb⟩
            rw [g2, g3, HLN.out]
          clear HALL
          generalize hz2 : (⟨T.toArray⟩ : ByteArray) = Z2 at *
          clear hz2
          go_wp2_with fail
          refine (HLA.out _ (HT1.out.later (re_alloc _ _))).mono ?_
          rintro e w5 ⟨kp, cap, rfl, hb⟩
          have cb := lcell_box1 _ _ _ 1 _ hb
          have cb2 := lcell_box1 _ _ _ 2 _ hb
          have HB5 := Lib.hid (lbox_below1 _ _ _ hb)
          clear hb
          go_wp2_with fail
          go_ret
          exact ⟨rfl, (HB1.out.trans (HBX.out.mono HB1.out.size)).trans (HB5.out.mono (HB1.out.trans (HBX.out.mono HB1.out.size)).size)⟩
end Go.Proofs.YtojahbagohkihaaGreatDoor
