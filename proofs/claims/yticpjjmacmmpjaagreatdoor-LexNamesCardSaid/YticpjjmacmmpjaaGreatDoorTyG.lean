/-
  The document's example of text, walked through the program; TextErrors, plain.
-/
import Derived.Test.YticpjjmacmmpjaaGreatDoorPsD
import Derived.Test.YticpjjmacmmpjaaGreatDoorPsR
import Derived.Test.YticpjjmacmmpjaaGreatDoorTxW
import Derived.Deep.DeepCutAuto
set_option linter.unusedSimpArgs false
set_option linter.unusedVariables false
set_option maxRecDepth 100000
set_option linter.unnecessarySimpa false
namespace Go.Proofs.YticpjjmacmmpjaaGreatDoor
/-- the texts, and where they can't go on -/
def errT : List (List UInt8 × Nat) := [([40], 1), ([40, 97], 2), ([97, 41], 1), ([91, 97], 2), ([91, 98, 45, 97, 93], 4), ([92, 113], 0), ([92, 120, 49, 103], 0), ([124], 0), ([97, 124], 2), ([97, 38, 42], 2), ([40, 45, 97, 41], 1), ([1], 0), ([97, 93], 1), ([92], 0), ([91, 97, 45, 93], 3), ([91, 40, 93], 1)]
/-- what stands ahead -/
def errA : Nat → List UInt8
  | 0 => []
  | k + 1 => errA k ++ [97, 98, 42]
def errP (k : Nat) : List UInt8 := if k = 0 then [] else errA k ++ [124]
theorem errs_all : ∀ i, i < 16 → ∀ k, k < 16 → (readE (errP k ++ (errT.getD i ([], 0)).1)).e = 2 ∧ (readE (errP k ++ (errT.getD i ([], 0)).1)).wh = (errP k).length + (errT.getD i ([], 0)).2 := by decide +kernel
def headT : List UInt8 := [40, 97, 124, 98, 41, 42, 99, 45, 97, 98, 99]
def oneC (b : Nat) : RE := RE.node 2 (BS.none.add b) []
def headR : RE := RE.node 7 BS.none [RE.node 3 BS.none [RE.node 5 BS.none [RE.node 2 (RE.orS (BS.none.add 97) (BS.none.add 98)) []], oneC 99], RE.node 3 BS.none [oneC 97, oneC 98, oneC 99]]
theorem head_read : readW headT = (some headR, 0, 0) := by kernel_rfl
end Go.Proofs.YticpjjmacmmpjaaGreatDoor
namespace Go.Proofs.YticpjjmacmmpjaaGreatDoor
open Go.RowKit
theorem BS.runsFrom_past (s : BS) (k : Nat) : ∀ n, k + n ≤ 256 → (∀ j, j < n → s.has (k + j) = false) → s.runsFrom k = s.runsFrom (k + n)
  | 0, _, _ => rfl
  | n + 1, h, hf => by
    rw [s.runsFrom_past k n (by omega) (fun j hj => hf j (by omega)), s.runsFrom_no (k + n) (by omega) (hf n (by omega))]; rfl
def sAB : BS := RE.orS (BS.none.add 97) (BS.none.add 98)
theorem sAB_runs : sAB.runs = [⟨97, 98, by omega, by omega⟩] := by
  have e1 : sAB.runEnd 97 = 98 := by
    rw [sAB.runEnd_go 97 (by omega) (by decide +kernel), sAB.runEnd_stop 98 (by decide +kernel)]
  unfold BS.runs
  rw [sAB.runsFrom_past 0 97 (by omega) (by decide +kernel), sAB.runsFrom_yes 97 (by omega) (by decide +kernel)]
  simp only [e1]
  rw [sAB.runsFrom_past 99 157 (by omega) (by decide +kernel), sAB.runsFrom_end 256 (by omega)]
theorem sAB_of : classW sAB = [91, 97, 45, 98, 93] := by
  unfold classW setW
  rw [if_neg (by decide +kernel), if_neg (by decide +kernel), if_neg (by decide +kernel), sAB_runs]
  decide +kernel
theorem oneC_of (b : Nat) (h : (BS.none.add b).len = 1) : RE.ofW (oneC b) = byteW (BS.none.add b).least := by
  unfold oneC
  rw [RE.ofW]
  simp only [Nat.reduceEqDiff, if_false, if_true]
  unfold classW; rw [if_pos h]
theorem headR_of : RE.ofW headR = [91, 97, 45, 98, 93, 42, 99, 45, 97, 98, 99] := by
  have e97 : RE.ofW (oneC 97) = [97] := by rw [oneC_of 97 (by decide +kernel)]; decide +kernel
  have e98 : RE.ofW (oneC 98) = [98] := by rw [oneC_of 98 (by decide +kernel)]; decide +kernel
  have e99 : RE.ofW (oneC 99) = [99] := by rw [oneC_of 99 (by decide +kernel)]; decide +kernel
  have eab : RE.ofW (RE.node 2 (RE.orS (BS.none.add 97) (BS.none.add 98)) []) = [91, 97, 45, 98, 93] := by
    rw [RE.ofW]; simp only [Nat.reduceEqDiff, if_false, if_true]; exact sAB_of
  unfold headR
  simp only [RE.ofW, RE.butW, RE.insW, RE.starW, RE.lvl, RE.op, oneC, Nat.reduceEqDiff, if_false, if_true, Nat.reduceLT] at e97 e98 e99 eab ⊢
  simp [e97, e98, e99, eab, Lib.join_cons, Lib.joinTail]
theorem readW_nf {s : List UInt8} {x : RE} {e a : Nat} (h : readW s = (some x, e, a)) : RE.nf x ∧ x.size ≤ 1000 ∧ e = 0 ∧ a = 0 := by
  unfold readW at h
  split at h
  · cases h
  split at h
  · rename_i hb he
    injection h with h1 h2
    injection h2 with h2 h3
    injection h1 with h1
    subst h1
    refine ⟨(readS_res s).nf _ rfl, ?_, h2.symm, h3.symm⟩
    apply Classical.byContradiction
    intro hs
    unfold readE at he
    simp only at he
    generalize (if (readS s).1.e = 0 then (if (readS s).1.skip.rest = [] then (readS s).1.skip else (readS s).1.skip.fail 2) else (readS s).1) = st1 at he
    by_cases hc : st1.e = 0
    · rw [if_pos ⟨hc, by omega⟩] at he
      simp [PS.fail, hc] at he
    · rw [if_neg (fun h => hc h.1)] at he
      exact hc he
  · cases h
set_option maxRecDepth 100000 in
set_option maxHeartbeats 2000000 in
theorem txHead_any (w : World) (hT : Tab w) : Calls Tryz.prog 22 #[] w fun e w' => e = .returned (.bool true) ∧ Below w.heap.size w w' := by
  have HRD := Lib.hid (Read_any headT (by decide) w)
  rw [head_read] at HRD
  have HNF := Lib.hid (readW_nf head_read)
  have HOF := Lib.hid headR_of
  have HO := Lib.hid (fun W v (hT : Tab W) (h : IsReO W v (some headR)) => Of_text v (some headR) W hT h (fun r hr => by cases hr; exact HNF.out.1) (by have := HNF.out.2.1; simp only [RE.sizeO]; omega))
  have HT := Lib.hid hT
  clear hT
  have ht : headT = [40, 97, 124, 98, 41, 42, 99, 45, 97, 98, 99] := rfl
  rw [ht] at HRD
  generalize headR = R at *
  clear ht
  go_enter Tryz.func22, Tryz.ntmps22
  go_wp2_with fail
  refine HRD.out.mono ?_
  rintro e w1 ⟨v, rfl, hre, hb⟩
  obtain ⟨b, rfl, hr⟩ := hre
  have HRE : Hid (IsReO w1 (ptr b) (some R)) := ⟨b, rfl, hr⟩
  have HB := Lib.hid hb
  have HT1 := Lib.hid (HT.out.later hb)
  clear hr hb
  go_wp2_with fail
  refine (HO.out _ _ HT1.out HRE.out).mono ?_
  rintro e w2 ⟨rfl, hb2⟩
  have HB2 := Lib.hid (ext_step HB.out hb2)
  have hof : RE.ofO (some R) = [91, 97, 45, 98, 93, 42, 99, 45, 97, 98, 99] := HOF.out
  rw [hof]
  clear hb2 hof
  go_wp2_with fail
  go_ret
  exact ⟨rfl, HB2.out⟩
end Go.Proofs.YticpjjmacmmpjaaGreatDoor
namespace Go.Proofs.YticpjjmacmmpjaaGreatDoor
open Go.RowKit
/-- what is left of a number, of sixteen -/
def lowN (n : Int) (k : Nat) : Nat := (bits .and .i64 n (k : Int)).toNat
theorem lowN_eq (n : Int) (k : Nat) (hk : k < 1000) : bits .and .i64 n (k : Int) = (lowN n k : Nat) ∧ lowN n k ≤ k := by
  have h : (BitVec.ofInt 64 n &&& BitVec.ofInt 64 (k : Int)).toNat ≤ k := by
    rw [BitVec.toNat_and]
    refine Nat.le_trans Nat.and_le_right ?_
    simp; omega
  have h2 : ∃ m : Nat, bits .and .i64 n (k : Int) = (m : Int) ∧ m ≤ k := by
    refine ⟨_, ?_, h⟩
    show IntKind.i64.wrap ((BitVec.ofInt 64 n &&& BitVec.ofInt 64 (k : Int)).toNat : Int) = _
    generalize (BitVec.ofInt 64 n &&& BitVec.ofInt 64 (k : Int)).toNat = m at h
    rw [IntKind.wrap_i64]; omega
  obtain ⟨m, h3, h4⟩ := h2
  unfold lowN
  rw [h3]
  omega
/-- what is left of a number as one without a sign -/
def uRem (n : Int) (m : Nat) : Nat := ((IntKind.u64.wrap n).tmod (m : Int)).toNat
theorem wrapU_nonneg (n : Int) : 0 ≤ IntKind.u64.wrap n := by
  simp only [IntKind.wrap, IntKind.signed, IntKind.bits]
  exact Int.emod_nonneg _ (by decide)
theorem uRem_eq (n : Int) (m : Nat) : (IntKind.u64.wrap n).tmod (m : Int) = (uRem n m : Nat) := by
  unfold uRem
  rw [Int.toNat_of_nonneg (Int.tmod_nonneg _ (wrapU_nonneg n))]
theorem uRem_lt (n : Int) (m : Nat) (h : 0 < m) : uRem n m < m := by
  have := Int.tmod_lt_of_pos (IntKind.u64.wrap n) (b := (m : Int)) (by omega)
  have h2 := Int.tmod_nonneg (m : Int) (wrapU_nonneg n)
  unfold uRem; omega
theorem errA_len (k : Nat) : (errA k).length = 3 * k := by
  induction k with
  | zero => rfl
  | succ k ih => rw [errA, List.length_append, ih]; simp; omega
end Go.Proofs.YticpjjmacmmpjaaGreatDoor
