/-
  Shapes of expressions: how they lie in memory, how many parts one has, walked through the program.
-/
import Derived.Test.YtpajpjocakhcdaaGreatDoorRose
import Derived.Test.YtpajpjocakhcdaaGreatDoorTaS
import Derived.Test.YtpajpjocakhcdaaGreatDoorReMade
import Derived.Test.YtpajpjocakhcdaaGreatDoorTyF
import Derived.BigQuiet
set_option linter.unusedSimpArgs false
set_option linter.unusedVariables false
set_option maxRecDepth 100000
set_option linter.unnecessarySimpa false
namespace Go.Proofs.YtpajpjocakhcdaaGreatDoor
open Go.RowKit
namespace SH
mutual
def rose : SH → Rose | node o l h t ks => Rose.node [.int .i64 o, .int .u8 l, .int .u8 h, .string t] (roses ks)
def roses : List SH → List Rose | [] => [] | k :: ks => rose k :: roses ks
end
theorem roses_map (l : List SH) : roses l = l.map rose := by induction l with | nil => rfl | cons a l ih => simp [roses, ih]
/-- a whole number, two bytes, a text -/
def flds (f : List Value) : Prop := ∃ (o l h : Int) (t : ByteArray), f = [.int .i64 o, .int .u8 l, .int .u8 h, .string t]
mutual
theorem of_rose : (r : Rose) → Rose.okR flds r → ∃ p : SH, rose p = r
  | Rose.node f ks, h => by
    obtain ⟨⟨o, l, hh, t, rfl⟩, h2⟩ := h
    obtain ⟨m, rfl⟩ := of_roses ks h2
    exact ⟨node o l hh t m, rfl⟩
theorem of_roses : (l : List Rose) → Rose.okRs flds l → ∃ p : List SH, roses p = l
  | [], _ => ⟨[], rfl⟩
  | r :: l, h => by
    obtain ⟨p, rfl⟩ := of_rose r h.1
    obtain ⟨ps, rfl⟩ := of_roses l h.2
    exact ⟨p :: ps, rfl⟩
end
end SH
/-- a slice of shapes -/
def IsSh (w : World) (v : Value) (ks : List SH) : Prop := IsRose w 4 v (SH.roses ks)
theorem IsSh.later {w w' : World} {v : Value} {ks : List SH} (h : IsSh w v ks) (hb : Below w.heap.size w w') : IsSh w' v ks := IsRose.later h hb
theorem IsSh.open {w : World} {v : Value} {ks : List SH} (h : IsSh w v ks) : ∃ (a : Option Addr) (cap B off : Nat) (sv : Nat → Value), v = .slice a ks.length cap ∧ (ks ≠ [] → a = some ⟨B, off, none⟩) ∧ ks.length ≤ maxLen ∧
    ∀ i, i < ks.length → w.cell? ⟨B, off + i * 5, none⟩ = some (.int .i64 (ks.getD i SH.none).op) ∧ w.cell? ⟨B, off + i * 5 + 1, none⟩ = some (.int .u8 (ks.getD i SH.none).lo) ∧ w.cell? ⟨B, off + i * 5 + 2, none⟩ = some (.int .u8 (ks.getD i SH.none).hi) ∧
      w.cell? ⟨B, off + i * 5 + 3, none⟩ = some (.string (ks.getD i SH.none).tx) ∧ w.cell? ⟨B, off + i * 5 + 4, none⟩ = some (sv i) ∧ IsSh w (sv i) (ks.getD i SH.none).kids := by
  unfold IsSh at h
  generalize hq : SH.roses ks = q at h
  cases h with
  | mk a cap ks' B off sv ha hlen hl hf hs hk =>
    subst hq
    have hln : (SH.roses ks).length = ks.length := by simp [SH.roses_map]
    have hgd : ∀ i, i < ks.length → (SH.roses ks).getD i Rose.none = SH.rose (ks.getD i SH.none) := fun i hi => by simp [SH.roses_map, List.getD, hi]
    refine ⟨a, cap, B, off, sv, by rw [hln], fun hne => ha (fun e => hne (List.length_eq_zero_iff.1 (by rw [← hln, e]; rfl))), by omega, fun i hi => ?_⟩
    have h0 := hf i (by omega) 0 (by omega); have h1 := hf i (by omega) 1 (by omega); have h2 := hf i (by omega) 2 (by omega); have h5 := hf i (by omega) 3 (by omega)
    have h3 := hs i (by omega); have h4 := hk i (by omega)
    rw [hgd i hi] at h0 h1 h2 h4 h5
    generalize ks.getD i SH.none = p at *
    cases p with
    | node o x n t l => exact ⟨h0, h1, h2, h5, h3, h4⟩
abbrev shV (p : SH) (sv : Value) : Value := .agg #[.int .i64 p.op, .int .u8 p.lo, .int .u8 p.hi, .string p.tx, sv]
def ShCntAt (w : World) (deep : Nat) (ks : List SH) (N : Nat) (v i : Value) (wr : World) : Prop := ∃ k s : Nat, k ≤ ks.length ∧ i = .int .i64 k ∧ v = .int .i64 s ∧ s ≤ 1000 ∧ SH.cntL deep (ks.drop k) s = N ∧ Below w.heap.size w wr
set_option maxRecDepth 100000 in
set_option maxHeartbeats 4000000 in
theorem ShCount_any : ∀ (d deep : Nat), deep + d = 13 → ∀ (p : SH) (sv : Value) (w : World), IsSh w sv p.kids →
    Calls Tryz.prog 88 #[shV p sv, .int .i64 deep] w fun e w' => e = .returned (.int .i64 (SH.cnt deep p : Nat)) ∧ Below w.heap.size w w'
  | 0, deep, hd, p, sv, w, hp => by
    have HC := Lib.hid (SH.cnt_deep (deep := deep) (by omega) p)
    have hd' : (12 : Int) < (deep : Int) := by omega
    have hB := ext_alloc (Below.refl w.heap.size w) (.cells #[.int .i64 p.op, .int .u8 p.lo, .int .u8 p.hi, .string p.tx, sv] 74)
    clear hp
    go_enter Tryz.func88, Tryz.ntmps88
    go_wp2_with fail
    go_ret
    exact ⟨by rw [HC.out]; rfl, hB⟩
  | d + 1, deep, hd, p, sv, w, hp => by
    have hd' : ¬ (12 : Int) < (deep : Int) := by omega
    obtain ⟨a, cap, B, off, kv, rfl, ha, hml, hks⟩ := hp.open
    have hB := ext_alloc (Below.refl w.heap.size w) (.cells #[.int .i64 p.op, .int .u8 p.lo, .int .u8 p.hi, .string p.tx, .slice a p.kids.length cap] 74)
    by_cases htx : 20 < p.tx.size
    · have HC := Lib.hid (SH.cnt_long (deep := deep) htx)
      have htx' : (20 : Int) < (p.tx.size : Int) := by omega
      clear ha hks hp hml
      generalize p.kids.length = len at *
      go_enter Tryz.func88, Tryz.ntmps88
      go_wp2_with fail
      go_ret
      exact ⟨by rw [HC.out]; rfl, hB⟩
    have htx' : ¬ (20 : Int) < (p.tx.size : Int) := by omega
    have HC : Hid (SH.cnt deep p = SH.cntL deep p.kids 1) := by
      show _ = _
      cases p with
      | node o l h t ks =>
        have htx : ¬ 20 < t.size := htx
        rw [SH.cnt, if_neg (by omega)]; rfl
    have HIH := Lib.hid (ShCount_any d (deep + 1) (by omega))
    have HLE := Lib.hid (SH.cnt_le d (deep + 1) (by omega))
    unfold maxLen at hml
    have HA := Lib.hid ha
    have HKS := Lib.hid hks
    generalize SH.cnt deep p = N at *
    clear ha hks hp
    generalize p.kids = ks at *
    go_enter Tryz.func88, Tryz.ntmps88
    go_wp2_with fail
    go_loopw [5, 19] (fun v i wr => ShCntAt w deep ks N v i wr) (fun _ i _ => ks.length - (intOf i).toNat)
    case atStart => exact ⟨0, 1, by omega, rfl, rfl, by omega, HC.out.symm, hB⟩
    case round =>
      obtain ⟨k, s, hk, rfl, rfl, hs1, hgo, hW⟩ := hrel
      by_cases hlt : k < ks.length
      · have hne : ks ≠ [] := fun e => by rw [e] at hlt; simp at hlt
        have ha := HA.out hne
        subst ha
        obtain ⟨c0, c1, c2, c3, c4, hkp⟩ := HKS.out k hlt
        have hbk := World.block_lt_of_cell? w _ c0
        rw [← hW.cell (p := ⟨B, off + k * 5, none⟩) hbk] at c0
        rw [← hW.cell (p := ⟨B, off + k * 5 + 1, none⟩) hbk] at c1
        rw [← hW.cell (p := ⟨B, off + k * 5 + 2, none⟩) hbk] at c2
        rw [← hW.cell (p := ⟨B, off + k * 5 + 3, none⟩) hbk] at c3
        rw [← hW.cell (p := ⟨B, off + k * 5 + 4, none⟩) hbk] at c4
        have hkp1 := hkp.later hW
        have hdrop : ks.drop k = ks.getD k SH.none :: ks.drop (k + 1) := by rw [List.drop_eq_getElem_cons hlt]; simp [List.getD, hlt]
        rw [hdrop, SH.cntL] at hgo
        have hle := HLE.out (ks.getD k SH.none)
        have HCALL := Lib.hid (fun W (h : IsSh W (kv k) (ks.getD k SH.none).kids) => HIH.out (ks.getD k SH.none) (kv k) W h)
        generalize SH.cnt (deep + 1) (ks.getD k SH.none) = c at *
        generalize ks.getD k SH.none = q at *
        generalize kv k = qv at *
        obtain ⟨a2, cap2, _, _, _, rfl, _⟩ := hkp1.open
        have HGO := Lib.hid hgo
        have HKP := Lib.hid hkp1
        have HW := Lib.hid hW
        clear hgo hkp hkp1 hdrop hne hW
        go_wp2_with fail
        refine (HCALL.out _ (HKP.out.later (by repeat (first | exact Below.refl _ _ | assumption | refine Below.drew ?_ | refine ext_drewN ?_ _ | refine ext_alloc ?_ _ | refine Below.setCell ?_ (by (try simp only [World.size_alloc, World.size_setCell, World.size_drew]); omega) _ | refine ext_step ?_ (by assumption))))).mono ?_
        rintro e w1 ⟨rfl, hb1⟩
        have hB1 : Below wr.heap.size wr w1 := by repeat (first | exact Below.refl _ _ | assumption | refine Below.drew ?_ | refine ext_drewN ?_ _ | refine ext_alloc ?_ _ | refine Below.setCell ?_ (by (try simp only [World.size_alloc, World.size_setCell, World.size_drew]); omega) _ | refine ext_step ?_ (by assumption))
        have hB2 := ext_step HW.out hB1
        clear hb1 hB1
        by_cases hbig : 1000 < s + c
        · have HR : Hid (N = s + c) := by show _ = _; rw [← HGO.out, if_pos hbig]
          have hbig' : (1000 : Int) < (s : Int) + (c : Int) := by omega
          go_wp2_with fail
          go_ret
          exact ⟨by rw [HR.out]; go_num, hB2⟩
        · have HR : Hid (SH.cntL deep (ks.drop (k + 1)) (s + c) = N) := by show _ = _; rw [← HGO.out, if_neg hbig]
          have hbig' : ¬ (1000 : Int) < (s : Int) + (c : Int) := by omega
          go_wp2_with fail
          go_roundw
          case rel => exact ⟨k + 1, s + c, by omega, by go_num, by go_num, by omega, HR.out, hB2⟩
          case measure => simp [intOf]; omega
      · obtain rfl : k = ks.length := by omega
        rw [List.drop_length, SH.cntL] at hgo
        subst hgo
        go_wp2_with fail
        go_ret
        exact ⟨rfl, hW⟩
theorem ShFew_any (p : SH) (sv : Value) (w : World) (h : IsSh w sv p.kids) :
    Calls Tryz.prog 44 #[shV p sv] w fun e w' => e = .returned (.bool (decide (SH.cnt 0 p ≤ 30))) ∧ Below w.heap.size w w' := by
  have HC := Lib.hid (fun W (h : IsSh W sv p.kids) => ShCount_any 13 0 (by omega) p sv W h)
  have HI := Lib.hid h
  obtain ⟨a2, cap2, _, _, _, rfl, _⟩ := h.open
  clear h
  generalize SH.cnt 0 p = c at *
  go_enter Tryz.func44, Tryz.ntmps44
  go_wp2_with fail
  refine (HC.out _ (HI.out.later (by repeat (first | exact Below.refl _ _ | assumption | refine Below.drew ?_ | refine ext_drewN ?_ _ | refine ext_alloc ?_ _ | refine Below.setCell ?_ (by (try simp only [World.size_alloc, World.size_setCell, World.size_drew]); omega) _ | refine ext_step ?_ (by assumption))))).mono ?_
  rintro e w1 ⟨rfl, hb⟩
  have hB : Below w.heap.size w w1 := by repeat (first | exact Below.refl _ _ | assumption | refine Below.drew ?_ | refine ext_drewN ?_ _ | refine ext_alloc ?_ _ | refine Below.setCell ?_ (by (try simp only [World.size_alloc, World.size_setCell, World.size_drew]); omega) _ | refine ext_step ?_ (by assumption))
  go_wp2_with fail
  go_ret
  exact ⟨congrArg (fun b => Ending.returned (.bool b)) (by simp; omega), hB⟩
theorem sMod_eq (n : Int) (m : Nat) : (IntKind.u64.wrap n).tmod (m : Int) = (sMod n m : Nat) := by
  unfold sMod
  rw [Int.toNat_of_nonneg (Int.tmod_nonneg _ (wrapU_nonneg n))]
theorem sMod_lt (n : Int) (m : Nat) (h : 0 < m) : sMod n m < m := by
  have := Int.tmod_lt_of_pos (IntKind.u64.wrap n) (b := (m : Int)) (by omega)
  have h2 := Int.tmod_nonneg (m : Int) (wrapU_nonneg n)
  unfold sMod; omega
theorem sLow_eq (n : Int) : bits .and .u8 n 3 = ((sLow n - 97 : Nat) : Int) ∧ 97 ≤ sLow n ∧ sLow n ≤ 100 := by
  have h : (BitVec.ofInt 8 n &&& BitVec.ofInt 8 3).toNat ≤ 3 := by
    rw [BitVec.toNat_and]
    refine Nat.le_trans Nat.and_le_right ?_
    decide
  have h2 : ∃ m : Nat, bits .and .u8 n 3 = (m : Int) ∧ m ≤ 3 := by
    refine ⟨_, ?_, h⟩
    show IntKind.u8.wrap ((BitVec.ofInt 8 n &&& BitVec.ofInt 8 (3 : Int)).toNat : Int) = _
    generalize (BitVec.ofInt 8 n &&& BitVec.ofInt 8 (3 : Int)).toNat = m at h
    have : m = 0 ∨ m = 1 ∨ m = 2 ∨ m = 3 := by omega
    rcases this with rfl | rfl | rfl | rfl <;> decide
  obtain ⟨m, h3, h4⟩ := h2
  unfold sLow
  rw [h3]
  omega
theorem shop_any (p : SH) (a : Option Addr) (n cap : Nat) (w : World) :
    Calls Tryz.prog 89 #[shV p (.slice a n cap)] w fun e w' => e = .returned (.int .i64 (sMod p.op 9 : Nat)) ∧ Below w.heap.size w w' := by
  have hu : (IntKind.u64.wrap p.op).tmod 9 = (sMod p.op 9 : Nat) := sMod_eq p.op 9
  have hl := sMod_lt p.op 9 (by omega)
  generalize sMod p.op 9 = m at *
  have hB := ext_alloc (Below.refl w.heap.size w) (.cells #[.int .i64 p.op, .int .u8 p.lo, .int .u8 p.hi, .string p.tx, .slice a n cap] 74)
  go_enter Tryz.func89, Tryz.ntmps89
  go_wp2_with fail
  go_ret
  exact ⟨rfl, hB⟩
theorem shlow_any (p : SH) (a : Option Addr) (n cap : Nat) (w : World) :
    Calls Tryz.prog 90 #[shV p (.slice a n cap)] w fun e w' => e = .returned (.tuple #[.int .u8 (sLow p.lo : Nat), .int .u8 (sLow p.hi : Nat)]) ∧ Below w.heap.size w w' := by
  obtain ⟨h1, h2, h3⟩ := sLow_eq p.lo
  obtain ⟨g1, g2, g3⟩ := sLow_eq p.hi
  have e1 : (97 : Int) + ((sLow p.lo - 97 : Nat) : Int) = (sLow p.lo : Nat) := by omega
  have e2 : (97 : Int) + ((sLow p.hi - 97 : Nat) : Int) = (sLow p.hi : Nat) := by omega
  generalize sLow p.lo = l at *
  generalize sLow p.hi = h at *
  have hB := ext_alloc (Below.refl w.heap.size w) (.cells #[.int .i64 p.op, .int .u8 p.lo, .int .u8 p.hi, .string p.tx, .slice a n cap] 74)
  have w1 : IntKind.u8.wrap (97 + ((l - 97 : Nat) : Int)) = (l : Nat) := by
    have : l = 97 ∨ l = 98 ∨ l = 99 ∨ l = 100 := by omega
    rcases this with rfl | rfl | rfl | rfl <;> decide
  have w2 : IntKind.u8.wrap (97 + ((h - 97 : Nat) : Int)) = (h : Nat) := by
    have : h = 97 ∨ h = 98 ∨ h = 99 ∨ h = 100 := by omega
    rcases this with rfl | rfl | rfl | rfl <;> decide
  clear e1 e2
  go_enter Tryz.func90, Tryz.ntmps90
  go_wp2_with fail
  go_quiet (fail)
  go_wp2_with fail
  go_ret2
  exact ⟨rfl, by repeat (first | exact Below.refl _ _ | assumption | refine Below.drew ?_ | refine ext_drewN ?_ _ | refine ext_alloc ?_ _ | refine Below.setCell ?_ (by (try simp only [World.size_alloc, World.size_setCell, World.size_drew]); omega) _ | refine ext_step ?_ (by assumption))⟩
end Go.Proofs.YtpajpjocakhcdaaGreatDoor
