/-
  TextErrors, walked through the program.
-/
import Derived.Test.YtpajpjocakhcdaaGreatDoorTyH
import Derived.Deep.DeepCutAuto
set_option linter.unusedSimpArgs false
set_option linter.unusedVariables false
set_option maxRecDepth 100000
set_option linter.unnecessarySimpa false
namespace Go.Proofs.YtpajpjocakhcdaaGreatDoor
open Go.RowKit
/-- what is left of a number, of sixteen -/
def lowN (n : Int) (k : Nat) : Nat := (bits .and .i64 n (k : Int)).toNat
theorem lowN_eq (n : Int) (k : Nat) (hk : k < 1000) : bits .and .i64 n (k : Int) = (lowN n k : Nat) ∧ lowN n k ≤ k := by
  have h : (BitVec.ofInt 64 n &&& BitVec.ofInt 64 (k : Int)).toNat ≤ k := by
    rw [BitVec.toNat_and]
    refine Nat.le_trans Nat.and_le_right ?_
    simp; omega
  have h2 : ∃ m : Nat, bits .and .i64 n (k : Int) = (m : Int) ∧ m ≤ k := by
    refine ⟨_, ?_, h⟩
    show IntKind.i64.wrap ((BitVec.ofInt 64 n &&& BitVec.ofInt 64 (k : Int)).toNat : Int) = _
    generalize (BitVec.ofInt 64 n &&& BitVec.ofInt 64 (k : Int)).toNat = m at h
    rw [IntKind.wrap_i64]; omega
  obtain ⟨m, h3, h4⟩ := h2
  unfold lowN
  rw [h3]
  omega
/-- what is left of a number as one without a sign -/
def uRem (n : Int) (m : Nat) : Nat := ((IntKind.u64.wrap n).tmod (m : Int)).toNat
theorem wrapU_nonneg (n : Int) : 0 ≤ IntKind.u64.wrap n := by
  simp only [IntKind.wrap, IntKind.signed, IntKind.bits]
  exact Int.emod_nonneg _ (by decide)
theorem uRem_eq (n : Int) (m : Nat) : (IntKind.u64.wrap n).tmod (m : Int) = (uRem n m : Nat) := by
  unfold uRem
  rw [Int.toNat_of_nonneg (Int.tmod_nonneg _ (wrapU_nonneg n))]
theorem uRem_lt (n : Int) (m : Nat) (h : 0 < m) : uRem n m < m := by
  have := Int.tmod_lt_of_pos (IntKind.u64.wrap n) (b := (m : Int)) (by omega)
  have h2 := Int.tmod_nonneg (m : Int) (wrapU_nonneg n)
  unfold uRem; omega
theorem errA_len (k : Nat) : (errA k).length = 3 * k := by
  induction k with
  | zero => rfl
  | succ k ih => rw [errA, List.length_append, ih]; simp; omega
def ErrAt (K : Nat) (W : World) (a i : Value) (wr : World) : Prop := ∃ k : Nat, k ≤ K ∧ i = .int .i64 k ∧ a = .string ⟨(errA k).toArray⟩ ∧ wr = W
theorem readW_err {s : List UInt8} {a : Nat} (hl : s.length ≤ 65536) (h : (readE s).e = 2 ∧ (readE s).wh = a) : readW s = (none, 2, a) := by
  unfold readW
  rw [if_neg (by omega), if_neg (by omega), h.1, h.2]
theorem cell_box1 (w : World) (cs : Array Value) (t : TypeId) (j : Nat) (w5 : World) (hb : Below (w.alloc (.cells cs t)).heap.size (w.alloc (.cells cs t)) w5) : w5.cell? ⟨w.heap.size, j, none⟩ = cs[j]? := by
  rw [hb.cell (p := ⟨w.heap.size, j, none⟩) (by simp), World.cell?_alloc_new]
theorem box_below1 (w : World) (o' : Obj) (w5 : World) (hb : Below (w.alloc o').heap.size (w.alloc o') w5) : Below w.heap.size w w5 := (ext_alloc (Below.refl _ _) o').trans (hb.mono (by simp))
set_option maxRecDepth 100000 in
set_option maxHeartbeats 8000000 in
theorem TextErrors_any (n m : Int) (w : World) (hT : Tab w) : Calls Tryz.prog 10 #[.int .i64 n, .int .i64 m] w fun e w' => e = .returned (.bool true) ∧ Below w.heap.size w w' := by
  obtain ⟨hk1, hk2⟩ := lowN_eq m 15 (by omega)
  have hu : (IntKind.u64.wrap n).tmod 16 = (uRem n 16 : Nat) := uRem_eq n 16
  have hul := uRem_lt n 16 (by omega)
  generalize lowN m 15 = K at *
  generalize uRem n 16 = i at *
  have hk1' : bits .and .i64 m 15 = (K : Nat) := hk1
  clear hk1
  have HH := Lib.hid (txHead_any w hT)
  clear hT
  go_enter Tryz.func10, Tryz.ntmps10
  go_wp2_with fail
  refine HH.out.mono ?_
  rintro e w1 ⟨rfl, hb⟩
  have HB1 := Lib.hid hb
  clear hb HH
  go_wp2_with fail
  go_loopw [5, 6] (fun a i wr => ErrAt K w1 a i wr) (fun _ i _ => K - (intOf i).toNat)
  case atStart => exact ⟨0, by omega, rfl, rfl, rfl⟩
  case round =>
    obtain ⟨k, hk, rfl, rfl, rfl⟩ := hrel
    by_cases hlt : k < K
    · have HA : Hid ((⟨(errA k).toArray⟩ : ByteArray) ++ ⟨#[97, 98, 42]⟩ = ⟨(errA (k + 1)).toArray⟩) := ByteArray.ext (by simp [errA])
      have hln := errA_len k
      have hsz : (⟨(errA k).toArray⟩ : ByteArray).size = (errA k).length := str_size _
      generalize hz : (⟨(errA k).toArray⟩ : ByteArray) = Z at *
      go_wp2_with fail
      go_roundw
      case rel => exact ⟨k + 1, by omega, by go_num, by first | rw [HA.out] | (congr 1; exact HA.out), rfl⟩
      case measure => simp [intOf]; omega
    · obtain rfl : k = K := by omega
      have hln := errA_len k
      have hsz : (⟨(errA k).toArray⟩ : ByteArray).size = (errA k).length := str_size _
      have hall := errs_all i hul k (by omega)
      have HALL := Lib.hid hall
      have hpl : (errP k).length = if k = 0 then 0 else 3 * k + 1 := by unfold errP; split <;> simp [hln]
      have HPL := Lib.hid hpl
      clear hall hpl
      have hcase : i = 0 ∨ i = 1 ∨ i = 2 ∨ i = 3 ∨ i = 4 ∨ i = 5 ∨ i = 6 ∨ i = 7 ∨ i = 8 ∨ i = 9 ∨ i = 10 ∨ i = 11 ∨ i = 12 ∨ i = 13 ∨ i = 14 ∨ i = 15 := by omega
      have htl : ∀ j, j < 16 → (errT.getD j ([], 0)).1.length ≤ 10 := by decide
      have hti := htl i hul
      go_upto_region 10 with fail
      generalize hW1 : World.alloc wr _ = W1 at *
      have hc0 : W1.cell? ⟨wr.heap.size, i * 2, none⟩ = some (.string ⟨(errT.getD i ([], 0)).1.toArray⟩) := by
        rw [← hW1, cell_of_row _ _ _ _ _ _ (heap_alloc_last wr _)]
        rcases hcase with rfl | rfl | rfl | rfl | rfl | rfl | rfl | rfl | rfl | rfl | rfl | rfl | rfl | rfl | rfl | rfl
        all_goals rfl
      have hc1 : W1.cell? ⟨wr.heap.size, i * 2 + 1, none⟩ = some (.int .i64 ((errT.getD i ([], 0)).2 : Nat)) := by
        rw [← hW1, cell_of_row _ _ _ _ _ _ (heap_alloc_last wr _)]
        rcases hcase with rfl | rfl | rfl | rfl | rfl | rfl | rfl | rfl | rfl | rfl | rfl | rfl | rfl | rfl | rfl | rfl
        all_goals rfl
      have hbx : Below wr.heap.size wr W1 := by rw [← hW1]; exact re_alloc wr _
      have HBX := Lib.hid hbx
      have hat : ∀ j, j < 16 → (errT.getD j ([], 0)).2 ≤ 10 := by decide
      have hati := hat i hul
      clear hW1 hbx hat hcase
      obtain ⟨T, hT⟩ : ∃ T, (errT.getD i ([], 0)).1 = T := ⟨_, rfl⟩
      obtain ⟨A, hA⟩ : ∃ A, (errT.getD i ([], 0)).2 = A := ⟨_, rfl⟩
      rw [hT] at hc0 hti HALL
      rw [hA] at hc1 hati HALL
      clear hT hA htl
      have hTs : (⟨T.toArray⟩ : ByteArray).size = T.length := str_size T
      by_cases hk0 : k = 0
      · subst hk0
        have HRD : Hid (∀ W, Calls Tryz.prog 28 #[.string ((⟨(errA 0).toArray⟩ : ByteArray) ++ ⟨T.toArray⟩)] W (ReadPost W (none, 2, 0 + A))) := fun W => by
          have e : (⟨(errA 0).toArray⟩ : ByteArray) ++ ⟨T.toArray⟩ = ⟨(errP 0 ++ T).toArray⟩ := ByteArray.ext (by simp [errA, errP])
          have h2 := HALL.out
          rw [HPL.out, if_pos rfl] at h2
          have h3 : (errP 0 ++ T).length ≤ 65536 := by rw [List.length_append, HPL.out, if_pos rfl]; omega
          rw [e, ← readW_err h3 h2]
          exact Read_any _ (by omega) W
        clear HALL HPL hk2 hlt
        generalize hz : (⟨(errA 0).toArray⟩ : ByteArray) = Z at *
        generalize hz2 : (⟨T.toArray⟩ : ByteArray) = Z2 at *
        rw [hln] at hsz
        rw [Nat.zero_add] at HRD
        clear hz hln hz2
        go_wp2_with fail
        refine (HRD.out _).mono ?_
        rintro e w5 ⟨v, rfl, hre, hb⟩
        obtain rfl : v = .pointer none := hre
        have cb := cell_box1 _ _ _ 1 _ hb
        have HB5 := Lib.hid (box_below1 _ _ _ hb)
        clear hb
        go_wp2_with fail
        go_ret
        exact ⟨rfl, (HB1.out.trans (HBX.out.mono HB1.out.size)).trans (HB5.out.mono (HB1.out.trans (HBX.out.mono HB1.out.size)).size)⟩
      · have HRD : Hid (∀ W, Calls Tryz.prog 28 #[.string (((⟨(errA k).toArray⟩ : ByteArray) ++ ⟨#[124]⟩) ++ ⟨T.toArray⟩)] W (ReadPost W (none, 2, (3 * k + 1) + A))) := fun W => by
          have e : ((⟨(errA k).toArray⟩ : ByteArray) ++ ⟨#[124]⟩) ++ ⟨T.toArray⟩ = ⟨(errP k ++ T).toArray⟩ := ByteArray.ext (by simp [errP, hk0])
          have h2 := HALL.out
          rw [HPL.out, if_neg hk0] at h2
          have h3 : (errP k ++ T).length ≤ 65536 := by rw [List.length_append, HPL.out, if_neg hk0]; omega
          rw [e, ← readW_err h3 h2]
          exact Read_any _ (by omega) W
        clear HALL HPL
        generalize hz : (⟨(errA k).toArray⟩ : ByteArray) = Z at *
        generalize hz2 : (⟨T.toArray⟩ : ByteArray) = Z2 at *
        rw [hln] at hsz
        clear hz hln hz2
        have hk3 : (0 : Int) < 3 * (k : Int) := by omega
        have hk4 : 0 < 3 * k := by omega
        go_wp2_with fail
        refine (HRD.out _).mono ?_
        rintro e w5 ⟨v, rfl, hre, hb⟩
        obtain rfl : v = .pointer none := hre
        have cb := cell_box1 _ _ _ 1 _ hb
        have HB5 := Lib.hid (box_below1 _ _ _ hb)
        clear hb
        go_wp2_with fail
        go_ret
        exact ⟨rfl, (HB1.out.trans (HBX.out.mono HB1.out.size)).trans (HB5.out.mono (HB1.out.trans (HBX.out.mono HB1.out.size)).size)⟩
end Go.Proofs.YtpajpjocakhcdaaGreatDoor
