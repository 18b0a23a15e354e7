/-
  LexReads, walked through the program: the loop over the tokens.
-/
import Derived.Test.YtojahbagohkihaaGreatDoorLxG
import Derived.Test.YtojahbagohkihaaGreatDoorLxF
set_option linter.unusedSimpArgs false
set_option linter.unusedVariables false
set_option maxRecDepth 100000
set_option linter.unnecessarySimpa false
namespace Go.Proofs.YtojahbagohkihaaGreatDoor
open Go.RowKit
/-- what the law asks of the tokens -/
structure TkFine (s : List UInt8) (out : List LT) : Prop where
  ok : ∀ k, k < out.length → LX.TokOk s (out.getD k lt0)
  fin : ∀ k, k < out.length → ((out.getD k lt0).kind = 0 ↔ k + 1 = out.length)
  ord : ∀ k j, k < j → j < out.length → (out.getD k lt0).at_ < (out.getD j lt0).at_
  pos : 0 < out.length
theorem TkFine.of {s : List UInt8} {out : List LT} (h : LX.Fine s out) : TkFine s out := by
  obtain ⟨⟨h1, h2⟩, m, t, rfl, ht, hm⟩ := h
  have hg : ∀ k, k < (m ++ [t]).length → (m ++ [t]).getD k lt0 ∈ m ++ [t] := fun k hk => by
    simp only [List.getD, List.getElem?_eq_getElem hk, Option.getD_some]; exact List.getElem_mem hk
  refine ⟨fun k hk => h1 _ (hg k hk), fun k hk => ?_, fun k j hkj hj => ?_, by simp⟩
  · rw [List.length_append, List.length_singleton] at hk ⊢
    by_cases e : k < m.length
    · have : (m ++ [t]).getD k lt0 ∈ m := by
        simp only [List.getD, List.getElem?_append_left e, List.getElem?_eq_getElem e, Option.getD_some]; exact List.getElem_mem e
      exact ⟨fun h => absurd h (hm _ this), fun h => by omega⟩
    · obtain rfl : k = m.length := by omega
      have : (m ++ [t]).getD m.length lt0 = t := by simp [List.getD]
      rw [this]
      exact ⟨fun _ => rfl, fun _ => ht⟩
  · have := List.pairwise_iff_getElem.1 h2 k j (by omega) hj hkj
    simpa only [List.getD, List.getElem?_eq_getElem hj, List.getElem?_eq_getElem (show k < (m ++ [t]).length by omega), Option.getD_some] using this
theorem TkFine.len {s : List UInt8} {out : List LT} (h : TkFine s out) : out.length ≤ s.length + 1 := by
  have hk : ∀ k, k < out.length → k ≤ (out.getD k lt0).at_ := by
    intro k
    induction k with
    | zero => intro _; exact Nat.zero_le _
    | succ k ih => intro hk; have := ih (by omega); have := h.ord k (k + 1) (by omega) hk; omega
  have h1 := h.pos
  have := hk (out.length - 1) (by omega)
  have := (h.ok (out.length - 1) (by omega)).le
  omega
def RdAt (n : Nat) (out : List LT) (w2 : World) (la i : Value) (wr : World) : Prop :=
  ∃ (k : Nat) (l : Int), k ≤ n ∧ i = .int .i64 k ∧ la = .int .i64 l ∧ -1 ≤ l ∧ Hid (∀ j, k ≤ j → j < n → l < ((out.getD j lt0).at_ : Nat)) ∧ Hid (Below w2.heap.size w2 wr)
set_option maxRecDepth 100000 in
set_option maxHeartbeats 1600000 in
theorem LexReads_any (s : List UInt8) (w : World) (hT : Tab w) (hs0 : s.length ≤ 9223372036854775807) : Calls Tryz.prog 3 #[.string ⟨s.toArray⟩] w fun e w' => e = .returned (.bool true) ∧ Below w.heap.size w w' := by
  have hsz : (⟨s.toArray⟩ : ByteArray).size = s.length := str_size s
  have HH := Lib.hid (lxHead_any w hT)
  have HT := Lib.hid hT
  have HLA : Hid (s.length ≤ 300 → ∀ W, Tab W → Calls Tryz.prog 16 #[.string ⟨s.toArray⟩] W (LexPost W (lexW s))) := fun h W hW => lxAll_any W s hW (by omega)
  have HRES := Lib.hid (lexW_res s)
  have HSL := Lib.hid (fun (i j : Nat) (h1 : i ≤ j) (h2 : j ≤ s.length) (x y : Int) (hx : x = (i : Nat)) (hy : y = (j : Nat)) W => strBetween s i j h1 h2 x y hx hy W)
  have HIDX := Lib.hid (fun i (h : i < s.length) W => str_at s i h W)
  generalize lexW s = L at *
  generalize hS : (⟨s.toArray⟩ : ByteArray) = S at *
  clear hT hS
  by_cases h300 : 300 < s.length
  · have h300' : (300 : Int) < (s.length : Nat) := by omega
    go_enter Tryz.func3, Tryz.ntmps3
    go_wp2_with fail
    refine HH.out.mono ?_
    rintro e w1 ⟨rfl, hb⟩
    go_wp2_with fail
    go_ret
    exact ⟨rfl, hb⟩
  · have h300' : ¬ (300 : Int) < (s.length : Nat) := by omega
    go_enter Tryz.func3, Tryz.ntmps3
    go_wp2_with fail
    refine HH.out.mono ?_
    rintro e w1 ⟨rfl, hb⟩
    have HB1 := Lib.hid hb
    have HT1 := Lib.hid (HT.out.later hb)
    clear hb HH
    go_wp2_with fail
    refine (HLA.out (by omega) _ HT1.out).mono ?_
    rintro e w2 ⟨v, rfl, htk, hb⟩
    obtain ⟨out, en, q⟩ := L
    have HB2 := Lib.hid (ext_step HB1.out hb)
    simp only at htk
    clear hb HLA
    rcases HRES.out with ⟨h1, h2, h3⟩ | ⟨h1, h2, h3⟩
    · simp only at h1 h2 h3
      subst h1 h2
      have hfn := TkFine.of h3
      have hpos := hfn.pos
      obtain ⟨g, cap, rfl⟩ : ∃ g cap, v = .slice (some ⟨g, 0, none⟩) out.length cap := by
        obtain ⟨tvs, htv, hown, _⟩ := htk
        obtain ⟨g, cap, rfl, _⟩ := hown.form hpos
        exact ⟨g, cap, rfl⟩
      have HROW := Lib.hid (TkRow.of htk).1
      have HFN := Lib.hid hfn
      have hout : out.length ≤ 301 := by have := hfn.len; omega
      clear htk h3 hfn HRES
      generalize hn : out.length = n at *
      have HN := Lib.hid hn
      clear hn
      go_wp2_with fail
      go_loopw [6, 49] (fun la i wr => RdAt n out w2 la i wr) (fun _ i _ => n - (intOf i).toNat)
      case atStart => exact ⟨0, -1, Nat.zero_le _, rfl, rfl, by omega, fun j _ _ => by omega, Below.refl _ _⟩
      case round =>
        obtain ⟨k, l, hk, rfl, rfl, hl, hlt, hbl⟩ := hrel
        by_cases hkn : k < n
        · have hrow := HROW.out.later hbl.out
          have hk' : k < out.length := by rw [HN.out]; exact hkn
          have c0 := hrow.c0 k hk'
          have c1 := hrow.c1 k hk'
          obtain ⟨v2, c2, hv2⟩ := hrow.c2 k hk'
          have c3 := hrow.c3 k hk'
          have hok := HFN.out.ok k hk'
          have hfin := HFN.out.fin k hk'
          have HORD : Hid (∀ j, k + 1 ≤ j → j < n → ((out.getD k lt0).at_ : Int) < ((out.getD j lt0).at_ : Nat)) := fun j h1 h2 => by
            have := HFN.out.ord k j (by omega) (by rw [HN.out]; exact h2); omega
          have hlk := hlt.out k (Nat.le_refl _) hkn
          rw [HN.out] at hfin
          clear hrow hlt hk'
          generalize out.getD k lt0 = t at *
          obtain ⟨kd, tx, ro, pa⟩ := t
          obtain ⟨hle, hkd, hword, htext, hre⟩ := hok
          simp only at c0 c1 c2 c3 hv2 hfin hlk hle hkd hword htext hre HORD
          obtain ⟨po, rfl⟩ := reO_ptr hv2
          have g1 : ¬ (pa : Int) ≤ l := by omega
          have g1' : decide ((pa : Int) ≤ l) = false := decide_eq_false g1
          have g2 : ¬ (s.length : Int) < (pa : Nat) := by omega
          have g2' : decide (s.length < pa) = false := decide_eq_false (by omega)
          have hTs : (⟨tx.toArray⟩ : ByteArray).size = tx.length := str_size tx
          by_cases hlast : k + 1 = n
          · have hk0 : kd = 0 := hfin.2 hlast
            subst hk0
            have g3 : ((k : Int) + 1 == (n : Nat)) = true := by rw [← hlast]; simp
            clear hfin hword htext hre hlast
            generalize (⟨tx.toArray⟩ : ByteArray) = TX at *
            go_wp2_with fail
            go_roundw
            case rel => exact ⟨k + 1, pa, by omega, by go_num, rfl, by omega, HORD.out, ext_alloc hbl.out _⟩
            case measure => simp [intOf]; omega
          · have g3 : ((k : Int) + 1 == (n : Nat)) = false := by rw [beq_eq_false_iff_ne]; omega
            have hk0 : kd ≠ 0 := fun h => hlast (hfin.1 h)
            clear hfin hlast
            obtain hk1 | hk1 | hk1 : (kd = 1 ∨ kd = 2) ∨ kd = 3 ∨ kd = 4 := by omega
            · have hw := hword hk1
              have hwl : pa + tx.length ≤ s.length := by
                have := congrArg List.length hw
                rw [List.length_take, List.length_drop] at this
                omega
              have hsl := HSL.out pa (pa + tx.length) (by omega) hwl (pa : Int) ((pa : Int) + (tx.length : Int)) rfl (by omega)
              rw [show pa + tx.length - pa = tx.length by omega, hw] at hsl
              have g4 : ¬ (s.length : Int) < (pa : Int) + (tx.length : Nat) := by omega
              have g4' : decide ((s.length : Int) < (pa : Int) + (tx.length : Nat)) = false := decide_eq_false g4
              have g5 : (pa : Int) + (tx.length : Nat) ≤ 300 := by omega
              clear hw hword htext hre hk0 hkd
              generalize (⟨tx.toArray⟩ : ByteArray) = TX at *
              rcases hk1 with rfl | rfl
              all_goals (
                go_wp2_with fail
                go_quiet (fail)
                go_wp2_with fail
                go_roundw
                case rel => exact ⟨k + 1, pa, by omega, by go_num, rfl, by omega, HORD.out, ext_drewN (ext_alloc hbl.out _) _⟩
                case measure => simp [intOf]; omega)
            · subst hk1
              obtain ⟨h1, h2⟩ := htext rfl
              have hidx := HIDX.out pa h1
              rw [h2] at hidx
              clear h2 hword htext hre hk0 hkd
              generalize (⟨tx.toArray⟩ : ByteArray) = TX at *
              go_wp2_with fail
              go_roundw
              case rel => exact ⟨k + 1, pa, by omega, by go_num, rfl, by omega, HORD.out, ext_alloc hbl.out _⟩
              case measure => simp [intOf]; omega
            · subst hk1
              obtain ⟨h1, h2, r, rfl⟩ := hre rfl
              have hidx := HIDX.out pa h1
              rw [h2] at hidx
              obtain ⟨b3, hb3, _⟩ := hv2
              have hb4 : po = some ⟨b3, 0, none⟩ := by injection hb3
              subst hb4
              clear h2 hb3 hword htext hk0 hkd
              generalize (⟨tx.toArray⟩ : ByteArray) = TX at *
              go_wp2_with fail
              go_roundw
              case rel => exact ⟨k + 1, pa, by omega, by go_num, rfl, by omega, HORD.out, ext_alloc hbl.out _⟩
              case measure => simp [intOf]; omega
        · obtain rfl : k = n := by omega
          have hBL := Lib.hid (HB2.out.trans (hbl.out.mono HB2.out.size))
          clear hbl
          go_wp2_with fail
          go_ret
          exact ⟨rfl, hBL.out⟩
    · simp only at h1 h2 h3
      subst h1
      obtain ⟨kp, cap, rfl⟩ := toksNone htk
      have hq : (0 : Int) ≤ (q : Nat) := by omega
      have hq2 : (q : Int) ≤ (s.length : Nat) := by omega
      clear htk HRES HSL HIDX
      rcases h2 with rfl | rfl | rfl
      all_goals (
        go_wp2_with fail
        go_ret
        exact ⟨rfl, HB2.out⟩)
end Go.Proofs.YtojahbagohkihaaGreatDoor
