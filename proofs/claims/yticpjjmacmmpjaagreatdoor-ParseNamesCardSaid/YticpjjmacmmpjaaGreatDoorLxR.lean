/-
  What the lexer reads, plain: tokens that lie one behind the other within the text, or an error within it.
-/
import Derived.Test.YticpjjmacmmpjaaGreatDoorPsD
import Derived.Test.YticpjjmacmmpjaaGreatDoorPsR
import Derived.Test.YticpjjmacmmpjaaGreatDoorTxW
import Derived.Deep.DeepCutAuto
import Derived.Test.YticpjjmacmmpjaaGreatDoorLxM
set_option linter.unusedSimpArgs false
set_option linter.unusedVariables false
set_option maxRecDepth 100000
set_option linter.unnecessarySimpa false
namespace Go.Proofs.YticpjjmacmmpjaaGreatDoor
/-- the texts, and where they can't go on -/
def errT : List (List UInt8 × Nat) := [([40], 1), ([40, 97], 2), ([97, 41], 1), ([91, 97], 2), ([91, 98, 45, 97, 93], 4), ([92, 113], 0), ([92, 120, 49, 103], 0), ([124], 0), ([97, 124], 2), ([97, 38, 42], 2), ([40, 45, 97, 41], 1), ([1], 0), ([97, 93], 1), ([92], 0), ([91, 97, 45, 93], 3), ([91, 40, 93], 1)]
/-- what stands ahead -/
def errA : Nat → List UInt8
  | 0 => []
  | k + 1 => errA k ++ [97, 98, 42]
def errP (k : Nat) : List UInt8 := if k = 0 then [] else errA k ++ [124]
theorem errs_all : ∀ i, i < 16 → ∀ k, k < 16 → (readE (errP k ++ (errT.getD i ([], 0)).1)).e = 2 ∧ (readE (errP k ++ (errT.getD i ([], 0)).1)).wh = (errP k).length + (errT.getD i ([], 0)).2 := by decide +kernel
def headT : List UInt8 := [40, 97, 124, 98, 41, 42, 99, 45, 97, 98, 99]
def oneC (b : Nat) : RE := RE.node 2 (BS.none.add b) []
def headR : RE := RE.node 7 BS.none [RE.node 3 BS.none [RE.node 5 BS.none [RE.node 2 (RE.orS (BS.none.add 97) (BS.none.add 98)) []], oneC 99], RE.node 3 BS.none [oneC 97, oneC 98, oneC 99]]
theorem head_read : readW headT = (some headR, 0, 0) := by kernel_rfl
end Go.Proofs.YticpjjmacmmpjaaGreatDoor
namespace Go.Proofs.YticpjjmacmmpjaaGreatDoor
open Go.RowKit
theorem BS.runsFrom_past (s : BS) (k : Nat) : ∀ n, k + n ≤ 256 → (∀ j, j < n → s.has (k + j) = false) → s.runsFrom k = s.runsFrom (k + n)
  | 0, _, _ => rfl
  | n + 1, h, hf => by
    rw [s.runsFrom_past k n (by omega) (fun j hj => hf j (by omega)), s.runsFrom_no (k + n) (by omega) (hf n (by omega))]; rfl
def sAB : BS := RE.orS (BS.none.add 97) (BS.none.add 98)
theorem sAB_runs : sAB.runs = [⟨97, 98, by omega, by omega⟩] := by
  have e1 : sAB.runEnd 97 = 98 := by
    rw [sAB.runEnd_go 97 (by omega) (by decide +kernel), sAB.runEnd_stop 98 (by decide +kernel)]
  unfold BS.runs
  rw [sAB.runsFrom_past 0 97 (by omega) (by decide +kernel), sAB.runsFrom_yes 97 (by omega) (by decide +kernel)]
  simp only [e1]
  rw [sAB.runsFrom_past 99 157 (by omega) (by decide +kernel), sAB.runsFrom_end 256 (by omega)]
theorem sAB_of : classW sAB = [91, 97, 45, 98, 93] := by
  unfold classW setW
  rw [if_neg (by decide +kernel), if_neg (by decide +kernel), if_neg (by decide +kernel), sAB_runs]
  decide +kernel
theorem oneC_of (b : Nat) (h : (BS.none.add b).len = 1) : RE.ofW (oneC b) = byteW (BS.none.add b).least := by
  unfold oneC
  rw [RE.ofW]
  simp only [Nat.reduceEqDiff, if_false, if_true]
  unfold classW; rw [if_pos h]
theorem headR_of : RE.ofW headR = [91, 97, 45, 98, 93, 42, 99, 45, 97, 98, 99] := by
  have e97 : RE.ofW (oneC 97) = [97] := by rw [oneC_of 97 (by decide +kernel)]; decide +kernel
  have e98 : RE.ofW (oneC 98) = [98] := by rw [oneC_of 98 (by decide +kernel)]; decide +kernel
  have e99 : RE.ofW (oneC 99) = [99] := by rw [oneC_of 99 (by decide +kernel)]; decide +kernel
  have eab : RE.ofW (RE.node 2 (RE.orS (BS.none.add 97) (BS.none.add 98)) []) = [91, 97, 45, 98, 93] := by
    rw [RE.ofW]; simp only [Nat.reduceEqDiff, if_false, if_true]; exact sAB_of
  unfold headR
  simp only [RE.ofW, RE.butW, RE.insW, RE.starW, RE.lvl, RE.op, oneC, Nat.reduceEqDiff, if_false, if_true, Nat.reduceLT] at e97 e98 e99 eab ⊢
  simp [e97, e98, e99, eab, Lib.join_cons, Lib.joinTail]
theorem readW_nf {s : List UInt8} {x : RE} {e a : Nat} (h : readW s = (some x, e, a)) : RE.nf x ∧ x.size ≤ 1000 ∧ e = 0 ∧ a = 0 := by
  unfold readW at h
  split at h
  · cases h
  split at h
  · rename_i hb he
    injection h with h1 h2
    injection h2 with h2 h3
    injection h1 with h1
    subst h1
    refine ⟨(readS_res s).nf _ rfl, ?_, h2.symm, h3.symm⟩
    apply Classical.byContradiction
    intro hs
    unfold readE at he
    simp only at he
    generalize (if (readS s).1.e = 0 then (if (readS s).1.skip.rest = [] then (readS s).1.skip else (readS s).1.skip.fail 2) else (readS s).1) = st1 at he
    by_cases hc : st1.e = 0
    · rw [if_pos ⟨hc, by omega⟩] at he
      simp [PS.fail, hc] at he
    · rw [if_neg (fun h => hc h.1)] at he
      exact hc he
  · cases h
set_option maxRecDepth 100000 in
set_option maxHeartbeats 2000000 in
theorem txHead_any (w : World) (hT : Tab w) : Calls Tryz.prog 22 #[] w fun e w' => e = .returned (.bool true) ∧ Below w.heap.size w w' := by
  have HRD := Lib.hid (Read_any headT (by decide) w)
  rw [head_read] at HRD
  have HNF := Lib.hid (readW_nf head_read)
  have HOF := Lib.hid headR_of
  have HO := Lib.hid (fun W v (hT : Tab W) (h : IsReO W v (some headR)) => Of_text v (some headR) W hT h (fun r hr => by cases hr; exact HNF.out.1) (by have := HNF.out.2.1; simp only [RE.sizeO]; omega))
  have HT := Lib.hid hT
  clear hT
  have ht : headT = [40, 97, 124, 98, 41, 42, 99, 45, 97, 98, 99] := rfl
  rw [ht] at HRD
  generalize headR = R at *
  clear ht
  go_enter Tryz.func22, Tryz.ntmps22
  go_wp2_with fail
  refine HRD.out.mono ?_
  rintro e w1 ⟨v, rfl, hre, hb⟩
  obtain ⟨b, rfl, hr⟩ := hre
  have HRE : Hid (IsReO w1 (ptr b) (some R)) := ⟨b, rfl, hr⟩
  have HB := Lib.hid hb
  have HT1 := Lib.hid (HT.out.later hb)
  clear hr hb
  go_wp2_with fail
  refine (HO.out _ _ HT1.out HRE.out).mono ?_
  rintro e w2 ⟨rfl, hb2⟩
  have HB2 := Lib.hid (ext_step HB.out hb2)
  have hof : RE.ofO (some R) = [91, 97, 45, 98, 93, 42, 99, 45, 97, 98, 99] := HOF.out
  rw [hof]
  clear hb2 hof
  go_wp2_with fail
  go_ret
  exact ⟨rfl, HB2.out⟩
end Go.Proofs.YticpjjmacmmpjaaGreatDoor
namespace Go.Proofs.YticpjjmacmmpjaaGreatDoor
open Go.RowKit
/-- what is left of a number, of sixteen -/
def lowN (n : Int) (k : Nat) : Nat := (bits .and .i64 n (k : Int)).toNat
theorem lowN_eq (n : Int) (k : Nat) (hk : k < 1000) : bits .and .i64 n (k : Int) = (lowN n k : Nat) ∧ lowN n k ≤ k := by
  have h : (BitVec.ofInt 64 n &&& BitVec.ofInt 64 (k : Int)).toNat ≤ k := by
    rw [BitVec.toNat_and]
    refine Nat.le_trans Nat.and_le_right ?_
    simp; omega
  have h2 : ∃ m : Nat, bits .and .i64 n (k : Int) = (m : Int) ∧ m ≤ k := by
    refine ⟨_, ?_, h⟩
    show IntKind.i64.wrap ((BitVec.ofInt 64 n &&& BitVec.ofInt 64 (k : Int)).toNat : Int) = _
    generalize (BitVec.ofInt 64 n &&& BitVec.ofInt 64 (k : Int)).toNat = m at h
    rw [IntKind.wrap_i64]; omega
  obtain ⟨m, h3, h4⟩ := h2
  unfold lowN
  rw [h3]
  omega
/-- what is left of a number as one without a sign -/
def uRem (n : Int) (m : Nat) : Nat := ((IntKind.u64.wrap n).tmod (m : Int)).toNat
theorem wrapU_nonneg (n : Int) : 0 ≤ IntKind.u64.wrap n := by
  simp only [IntKind.wrap, IntKind.signed, IntKind.bits]
  exact Int.emod_nonneg _ (by decide)
theorem uRem_eq (n : Int) (m : Nat) : (IntKind.u64.wrap n).tmod (m : Int) = (uRem n m : Nat) := by
  unfold uRem
  rw [Int.toNat_of_nonneg (Int.tmod_nonneg _ (wrapU_nonneg n))]
theorem uRem_lt (n : Int) (m : Nat) (h : 0 < m) : uRem n m < m := by
  have := Int.tmod_lt_of_pos (IntKind.u64.wrap n) (b := (m : Int)) (by omega)
  have h2 := Int.tmod_nonneg (m : Int) (wrapU_nonneg n)
  unfold uRem; omega
theorem errA_len (k : Nat) : (errA k).length = 3 * k := by
  induction k with
  | zero => rfl
  | succ k ih => rw [errA, List.length_append, ih]; simp; omega
end Go.Proofs.YticpjjmacmmpjaaGreatDoor
namespace Go.Proofs.YticpjjmacmmpjaaGreatDoor
theorem readE_out (s : List UInt8) : (readE s).e = 0 ∨ (((readE s).e = 2 ∨ (readE s).e = 3 ∨ (readE s).e = 4) ∧ (readE s).wh ≤ s.length) := by
  have hres := (readS_res s).run
  unfold readE
  generalize readS s = R at *
  have htot := hres.tot
  have herr := hres.err
  simp only at htot herr ⊢
  by_cases h0 : R.1.e = 0
  · have hsk := PS.skip_run h0
    have hst := hsk.tot
    have hske : R.1.skip.e = 0 := h0
    rw [if_pos h0]
    generalize R.1.skip = S at *
    by_cases hr : S.rest = []
    · rw [if_pos hr]
      by_cases hz : S.e = 0 ∧ 1000 < R.2.size
      · rw [if_pos hz]
        simp [PS.fail, hske]
      · rw [if_neg hz]
        exact .inl hske
    · have h2 : (S.fail 2).e = 2 := by simp [PS.fail, hske]
      have h3 : (S.fail 2).wh = S.at_ := by simp [PS.fail, hske]
      rw [if_neg hr]
      generalize S.fail 2 = T at *
      rw [if_neg (fun hh => by have := hh.1; omega)]
      right
      omega
  · rcases herr with h | ⟨h1, h2, h3, h4⟩
    · exact absurd h h0
    · rw [if_neg h0]
      rw [if_neg (fun hh => h0 hh.1)]
      right
      omega
/-- what readW hands back -/
theorem readW_out (s : List UInt8) : (∃ r, readW s = (some r, 0, 0)) ∨ ∃ e a, readW s = (none, e, a) ∧ (e = 2 ∨ e = 3 ∨ e = 4) ∧ a ≤ s.length := by
  have h := readE_out s
  unfold readW
  generalize readE s = E at *
  generalize (readS s).2 = x at *
  by_cases hl : 65536 < s.length
  · rw [if_pos hl]; exact .inr ⟨3, 0, rfl, by omega, by omega⟩
  rw [if_neg hl]
  by_cases he : E.e = 0
  · rw [if_pos he]; exact .inl ⟨_, rfl⟩
  · rw [if_neg he]
    rcases h with h | h
    · exact absurd h he
    · exact .inr ⟨_, _, rfl, h.1, h.2⟩
namespace LX
/-- a token of a text -/
structure TokOk (s : List UInt8) (t : LT) : Prop where
  le : t.at_ ≤ s.length
  kind : t.kind ≤ 4
  word : t.kind = 1 ∨ t.kind = 2 → (s.drop t.at_).take t.text.length = t.text
  text : t.kind = 3 → t.at_ < s.length ∧ s.getD t.at_ 0 = 34
  re : t.kind = 4 → t.at_ < s.length ∧ s.getD t.at_ 0 = 47 ∧ ∃ r, t.re = some r
theorem qGo_at (n : Nat) : ∀ (f : Nat) (l : List UInt8) (i : Nat) (out : List UInt8) (o : List UInt8) (j : Nat), qGo f l i out = (o, some j) → j ≤ i + l.length
  | 0, l, i, out, o, j, h => by rw [qGo] at h; cases h
  | f + 1, [], i, out, o, j, h => by rw [qGo] at h; cases h
  | f + 1, c :: r, i, out, o, j, h => by
    rw [qGo] at h
    split at h
    · have := qGo_at n f _ _ _ _ _ h; simp; omega
    · split at h
      · cases h; omega
      · have := qGo_at n f _ _ _ _ _ h
        rw [List.length_drop] at this
        by_cases hq : qStep c r ≤ (c :: r).length
        · omega
        · rw [show (c :: r).drop (qStep c r) = [] from List.drop_eq_nil_of_le (by omega)] at h
          cases f with
          | zero => rw [qGo] at h; cases h
          | succ f => rw [qGo] at h; cases h
/-- what a token's reading leaves -/
def TokRes (s : List UInt8) (a : Nat) (r : LT × Nat × Nat) : Prop :=
  (r.2.1 = 0 ∧ r.1.at_ = a ∧ TokOk s r.1 ∧ r.2.2 ≤ s.length ∧ (r.1.kind ≠ 0 → a < r.2.2) ∧ (r.1.kind = 0 → a = s.length)) ∨ ((r.2.1 = 2 ∨ r.2.1 = 3 ∨ r.2.1 = 4) ∧ r.2.2 ≤ s.length)
theorem token_res (s : List UInt8) (a : Nat) (ha : a ≤ s.length) : TokRes s a (token s a) := by
  unfold token
  match hd : s.drop a with
  | [] =>
    have hl : s.length - a = 0 := by rw [← List.length_drop, hd]; rfl
    exact .inl ⟨rfl, rfl, ⟨ha, by simp, fun h => by simp at h, fun h => by simp at h, fun h => by simp at h⟩, ha, fun h => absurd rfl h, fun _ => by omega⟩
  | b :: r =>
    have hlen : r.length + 1 = s.length - a := by rw [← List.length_drop, hd]; rfl
    have hb : s.getD a 0 = b := by
      have h := congrArg (fun l => l.headD 0) hd
      simp only [List.headD_cons] at h
      rw [← h, List.headD_eq_head?_getD, List.head?_drop]; simp [List.getD]
    have hr : r = s.drop (a + 1) := by
      have h := congrArg List.tail hd
      rw [List.tail_drop] at h
      exact h.symm
    simp only
    split
    · rename_i hlt
      have hn' := nameN_le (b :: r)
      have hn : nameN (b :: r) ≤ r.length + 1 := hn'
      have hn1 : 1 ≤ nameN (b :: r) := by
        rw [nameN]
        have : letter b false = true := by
          unfold letter at hlt ⊢
          rw [Bool.or_eq_true] at hlt ⊢
          rcases hlt with h | h
          · exact .inl h
          · simp at h
        rw [if_pos this]; omega
      split
      · exact .inr ⟨by simp, ha⟩
      · refine .inl ⟨rfl, rfl, ⟨ha, by simp, fun _ => ?_, fun h => by simp at h, fun h => by simp at h⟩, by show a + nameN (b :: r) ≤ s.length; omega, fun _ => by show a < a + nameN (b :: r); omega, fun h => by simp at h⟩
        simp only
        rw [hd, List.length_take, Nat.min_eq_left hn']
    split
    · refine .inl ⟨rfl, rfl, ⟨ha, by simp, fun _ => ?_, fun h => by simp at h, fun h => by simp at h⟩, by simp only; omega, fun _ => by simp only; omega, fun h => by simp at h⟩
      simp only
      rw [hd]; rfl
    split
    · rename_i h34
      unfold quoted
      split
      · exact .inr ⟨by simp, Nat.le_refl _⟩
      · rename_i k hk
        obtain ⟨hk1, _⟩ := untilN_lt r.length r k (Nat.le_refl _) hk
        split
        · refine .inl ⟨rfl, rfl, ⟨ha, by simp, fun h => by simp at h, fun _ => ⟨by simp only; omega, by simp only; rw [hb, h34]⟩, fun h => by simp at h⟩, by simp only; omega, fun _ => by simp only; omega, fun h => by simp at h⟩
        · rename_i o i hq
          have := qGo_at 0 _ _ _ _ _ _ hq
          rw [List.length_take] at this
          exact .inr ⟨by simp, by simp only; omega⟩
    split
    · rename_i h47
      unfold expr
      split
      · exact .inr ⟨by simp, Nat.le_refl _⟩
      · rename_i k hk
        obtain ⟨hk1, _⟩ := untilN_lt r.length r k (Nat.le_refl _) hk
        rcases readW_out (r.take k) with ⟨x, hx⟩ | ⟨e, p, hx, he, hp⟩
        · rw [hx]
          simp only [if_true]
          refine .inl ⟨rfl, rfl, ⟨ha, by simp, fun h => by simp at h, fun h => by simp at h, fun _ => ⟨by simp only; omega, by simp only; rw [hb, h47], x, rfl⟩⟩, by simp only; omega, fun _ => by simp only; omega, fun h => by simp at h⟩
        · rw [hx]
          simp only
          rw [if_neg (by omega)]
          rw [List.length_take] at hp
          exact .inr ⟨he, by simp only; omega⟩
    · exact .inr ⟨by simp, ha⟩
theorem next_res (s : List UInt8) (p : Nat) (hp : p ≤ s.length) : p + skipS false (s.drop p) ≤ s.length ∧ TokRes s (p + skipS false (s.drop p)) (next s p) := by
  have h := skipS_le (s.drop p) false
  rw [List.length_drop] at h
  exact ⟨by omega, token_res s _ (by omega)⟩
/-- tokens, one behind the other -/
structure Toks (s : List UInt8) (l : List LT) : Prop where
  ok : ∀ t ∈ l, TokOk s t
  ord : l.Pairwise fun a b => a.at_ < b.at_
structure Fine (s : List UInt8) (l : List LT) : Prop where
  toks : Toks s l
  last : ∃ m t, l = m ++ [t] ∧ t.kind = 0 ∧ ∀ x ∈ m, x.kind ≠ 0
theorem allGo_res (s : List UInt8) : ∀ (f p : Nat) (out : List LT), p ≤ s.length → s.length - p < f → Toks s out → (∀ x ∈ out, x.kind ≠ 0 ∧ x.at_ < p) →
    ((allGo s f p out).2.1 = 0 ∧ (allGo s f p out).2.2 = 0 ∧ Fine s (allGo s f p out).1) ∨ ((allGo s f p out).1 = [] ∧ ((allGo s f p out).2.1 = 2 ∨ (allGo s f p out).2.1 = 3 ∨ (allGo s f p out).2.1 = 4) ∧ (allGo s f p out).2.2 ≤ s.length) := by
  intro f
  induction f with
  | zero => intro p out _ h; omega
  | succ f ih =>
    intro p out hp hf hout hk
    obtain ⟨h1, h2⟩ := next_res s p hp
    rw [allGo]
    rcases h2 with ⟨e0, ea, hok, hle, hgo, hend⟩ | ⟨he, hle⟩
    · rw [if_neg (by omega)]
      have hs : Toks s (out ++ [(next s p).1]) := ⟨fun t ht => by
        rcases List.mem_append.1 ht with h | h
        · exact hout.ok t h
        · rw [List.mem_singleton.1 h]; exact hok, List.pairwise_append.2 ⟨hout.ord, by simp, fun x hx y hy => by
        rw [List.mem_singleton.1 hy, ea]
        have := (hk x hx).2
        omega⟩⟩
      split
      · rename_i h0
        exact .inl ⟨rfl, rfl, hs, out, (next s p).1, rfl, h0, fun x hx => (hk x hx).1⟩
      · rename_i h0
        have := hgo h0
        refine ih _ _ hle (by omega) hs fun x hx => ?_
        rcases List.mem_append.1 hx with h | h
        · have := hk x h; exact ⟨this.1, by omega⟩
        · rw [List.mem_singleton.1 h, ea]; exact ⟨h0, this⟩
    · rw [if_pos (by omega)]
      exact .inr ⟨rfl, he, hle⟩
end LX
/-- what All hands back, at whatever text -/
theorem lexW_res (s : List UInt8) : ((lexW s).2.1 = 0 ∧ (lexW s).2.2 = 0 ∧ LX.Fine s (lexW s).1) ∨ ((lexW s).1 = [] ∧ ((lexW s).2.1 = 2 ∨ (lexW s).2.1 = 3 ∨ (lexW s).2.1 = 4) ∧ (lexW s).2.2 ≤ s.length) := by
  unfold lexW
  split
  · exact .inr ⟨rfl, by simp, by simp⟩
  · exact LX.allGo_res s _ 0 [] (Nat.zero_le _) (by omega) ⟨by simp, by simp⟩ (by simp)
end Go.Proofs.YticpjjmacmmpjaaGreatDoor
