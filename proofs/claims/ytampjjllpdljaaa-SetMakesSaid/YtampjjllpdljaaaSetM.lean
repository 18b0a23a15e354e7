/-
  'SetMakes', walked through the program: for whatever bytes and whatever two of them the statement's function returns true, and nothing that lay has turned.
-/
import Derived.Test.YtampjjllpdljaaaSetH
import Derived.Test.YtampjjllpdljaaaSetB
set_option linter.unusedSimpArgs false
set_option linter.unusedVariables false
namespace Go.Proofs.Ytampjjllpdljaaa
open Go.RowKit

/-- what the walk is told of a slice of integers that came in -/
def IsRow (k : IntKind) (w : World) (a : Option Addr) (len cap : Nat) (zs : List Int) : Prop :=
  (a = none ∧ len = 0 ∧ cap = 0 ∧ zs = []) ∨
  ∃ x, a = some x ∧ len ≤ cap ∧ cap ≤ maxLen ∧ zs.length = cap ∧ (∀ i, i < zs.length → w.cell? (x.add i) = some (.int k (zs.getD i 0))) ∧ ∀ n ∈ zs, (Lit.int k n).wf = true
/-- the same, of its elements alone -/
def RowI (k : IntKind) (w : World) (a : Option Addr) (xs : List Int) : Prop :=
  xs = [] ∨ ∃ b off, a = some ⟨b, off, none⟩ ∧ ∀ i, i < xs.length → w.cell? ⟨b, off + i, none⟩ = some (.int k (xs.getD i 0))
theorem RowI.later {k : IntKind} {w w1 : World} {a : Option Addr} {xs : List Int} (h : RowI k w a xs) (hb : Below w.heap.size w w1) : RowI k w1 a xs := by
  rcases h with h | ⟨b, off, ha, hc⟩
  · exact .inl h
  · refine .inr ⟨b, off, ha, fun i hi => ?_⟩
    have := World.block_lt_of_cell? w _ (hc i hi)
    rw [hb.cell (p := ⟨b, off + i, none⟩) this]; exact hc i hi
theorem IsRow.elems {k : IntKind} {w : World} {a : Option Addr} {len cap : Nat} {zs : List Int} (h : IsRow k w a len cap zs) :
    RowI k w a (zs.take len) ∧ (zs.take len).length = len ∧ ∀ x ∈ zs.take len, (Lit.int k x).wf = true := by
  rcases h with ⟨rfl, rfl, rfl, rfl⟩ | ⟨x, rfl, hl, hm, hz, hcell, hwz⟩
  · exact ⟨.inl rfl, rfl, fun x hx => by simp at hx⟩
  · refine ⟨?_, by rw [List.length_take]; omega, fun y hy => hwz y (List.mem_of_mem_take hy)⟩
    by_cases h0 : len = 0
    · left; rw [h0]; rfl
    · obtain ⟨b, off, spot⟩ := x
      have hspot : spot = none := by simpa [Addr.add] using World.cell?_spot (hcell 0 (by omega))
      subst hspot
      refine .inr ⟨b, off, rfl, fun i hi => ?_⟩
      rw [List.length_take] at hi
      have hc := hcell i (by omega)
      have ha : (⟨b, off, none⟩ : Addr).add i = ⟨b, off + i, none⟩ := by unfold Addr.add; split <;> simp_all
      rw [ha] at hc
      rw [hc, List.getD_eq_getElem?_getD, List.getD_eq_getElem?_getD, List.getElem?_take_of_lt (by omega)]

set_option maxHeartbeats 400000 in
theorem Of_nil (a : Option Addr) (cap : Nat) (w : World) :
    Calls Try.prog 17 #[.slice a 0 cap] w fun e w' => e = .returned (.agg #[.int .u64 (wN (BS.ofL []).a), .int .u64 (wN (BS.ofL []).b), .int .u64 (wN (BS.ofL []).c), .int .u64 (wN (BS.ofL []).d)]) ∧ Below w.heap.size w w' := by
  go_enter Try.func17, Try.ntmps17
  go_wp2
  refine wp_loop_rounds 1 ?_
  rw [rounds_succ]
  go_wp2
  refine bodyPost_ret (v := .agg #[.int .u64 0, .int .u64 0, .int .u64 0, .int .u64 0]) (by simp [results, Try.results17, go_sem]) rfl ⟨rfl, ?_⟩
  repeat (first | exact Below.refl _ _ | assumption | refine Below.drew ?_ | refine ext_drewN ?_ _ | refine ext_alloc ?_ _ | refine Below.setCell ?_ (by (try simp only [World.size_alloc, World.size_setCell, World.size_drew]); omega) _ | refine ext_step ?_ (by assumption))
theorem Of_row (a : Option Addr) (cap : Nat) (xs : List Int) (hx : ∀ x ∈ xs, 0 ≤ x ∧ x ≤ 255) (hm : xs.length ≤ 140737488351232) (w : World) (hr : RowI .u8 w a xs) :
    Calls Try.prog 17 #[.slice a xs.length cap] w fun e w' => e = .returned (.agg #[.int .u64 (wN (BS.ofL xs).a), .int .u64 (wN (BS.ofL xs).b), .int .u64 (wN (BS.ofL xs).c), .int .u64 (wN (BS.ofL xs).d)]) ∧ Below w.heap.size w w' := by
  rcases hr with rfl | ⟨b, off, rfl, hc⟩
  · exact Of_nil a cap w
  · refine Of_any b off cap xs (fun i hi => ?_) hm w hc
    rw [List.getD_eq_getElem?_getD, List.getElem?_eq_getElem hi]
    exact hx _ (List.getElem_mem hi)

def rowF (f : Nat → Bool) : Array Value := (Array.range 256).map fun i => .bool (f i)
theorem rowF_size (f : Nat → Bool) : (rowF f).size = 256 := by simp [rowF]
theorem rowF_get (f : Nat → Bool) (i : Nat) (h : i < 256) : (rowF f)[i]? = some (.bool (f i)) := by simp [rowF, h]
theorem rowF_set (f : Nat → Bool) (k : Nat) (h : k < 256) : (rowF f).setIfInBounds k (.bool true) = rowF (fun j => f j || decide (k = j)) := by
  apply Array.ext_getElem?
  intro i
  by_cases hi : i < 256
  · rw [Array.getElem?_setIfInBounds, rowF_get _ _ hi, rowF_get _ _ hi, rowF_size]
    by_cases hik : k = i
    · subst hik; simp [h]
    · simp [hik]
  · rw [Array.getElem?_eq_none (by simp [rowF_size]; omega), Array.getElem?_eq_none (by simp [rowF_size]; omega)]
theorem rowB_full (f : Nat → Bool) : rowB f 256 = rowF f := by
  apply Array.ext_getElem?
  intro i
  by_cases hi : i < 256
  · rw [rowB_get _ _ _ hi, rowF_get _ _ hi, if_pos hi]
  · rw [Array.getElem?_eq_none (by simp [rowB_size]; omega), Array.getElem?_eq_none (by simp [rowF_size]; omega)]
theorem rowB_zero (f : Nat → Bool) : rowB (fun _ => false) 0 = rowB f 0 := by apply Array.ext_getElem?; intro i; by_cases h : i < 256 <;> simp [rowB, h]
theorem rowF_zero : rowB (fun _ => false) 0 = rowF (fun _ => false) := by apply Array.ext_getElem?; intro i; by_cases h : i < 256 <;> simp [rowB, rowF, h]
def anyI (xs : List Int) (j : Nat) : Bool := xs.any fun x => decide (x.toNat = j)
theorem anyI_snoc (xs : List Int) (x : Int) : anyI (xs ++ [x]) = fun j => anyI xs j || decide (x.toNat = j) := by
  funext j; simp [anyI]

def WantAt (xs : List Int) (W : World) (i : Value) (wr : World) : Prop :=
  ∃ k : Nat, k ≤ xs.length ∧ i = .int .i64 k ∧ wr = W.alloc (.cells (rowF (anyI (xs.take k))) 4)
def RunAt2 (f : Nat → Bool) (W : World) (i : Value) (wr : World) : Prop :=
  ∃ k : Nat, k ≤ 256 ∧ i = .int .i64 k ∧ wr = (W.alloc (.cells (rowB f k) 4)).alloc (.cells (rowB (fun _ => true) k) 4)
set_option maxRecDepth 100000 in
set_option maxHeartbeats 2000000 in
theorem SetMakes_core (a : Option Addr) (cap : Nat) (xs : List Int) (hx : ∀ x ∈ xs, 0 ≤ x ∧ x ≤ 255) (hm : xs.length ≤ 300) (low high : Nat) (hlo : low < 256) (hhi : high < 256) (w : World) (hr : RowI .u8 w a xs) :
    Calls Try.prog 4 #[.slice a xs.length cap, .int .u8 (low : Int), .int .u8 (high : Int)] w fun e w' => e = .returned (.bool true) ∧ Below w.heap.size w w' := by
  go_enter Try.func4, Try.ntmps4
  go_wp2_with fail
  refine (head_any _).mono ?_
  rintro e W ⟨rfl, hb⟩
  have HR := Lib.hid (hr.later hb)
  clear hr
  have hm' : (xs.length : Int) ≤ 300 := by omega
  have hmk := makeRow
  rw [rowF_zero] at hmk
  go_wp2
  go_loopw [21] (fun i wr => WantAt xs W i wr) (fun i _ => xs.length - (intOf i).toNat)
  case atStart => exact ⟨0, by omega, rfl, rfl⟩
  case round =>
    clear hmk
    obtain ⟨k, hk, rfl, rfl⟩ := hrel
    by_cases hlt : k < xs.length
    · rcases HR.out with h0 | ⟨b, off, ha, hc⟩
      · rw [h0] at hlt; simp at hlt
      subst ha
      have hcell := hc k hlt
      have hbl := World.block_lt_of_cell? W _ hcell
      have hxk : 0 ≤ xs.getD k 0 ∧ xs.getD k 0 ≤ 255 := by
        rw [List.getD_eq_getElem?_getD, List.getElem?_eq_getElem hlt]; exact hx _ (List.getElem_mem hlt)
      obtain ⟨h0, h1⟩ := hxk
      have HT : Hid (rowF (anyI (xs.take (k + 1))) = (rowF (anyI (xs.take k))).setIfInBounds (xs.getD k 0).toNat (.bool true)) := by
        show _ = _
        rw [take_snoc_getD xs k hlt, anyI_snoc, rowF_set _ _ (by omega)]
      generalize xs.getD k 0 = x at *
      clear hc
      have hcell2 : (W.alloc (.cells (rowF (anyI (xs.take k))) 4)).cell? ⟨b, off + k, none⟩ = some (.int .u8 x) := by
        rw [World.cell?_alloc_old _ _ _ (by simp at hbl ⊢; omega)]; exact hcell
      have hold : (W.alloc (.cells (rowF (anyI (xs.take k))) 4)).cell? ⟨W.heap.size, x.toNat, none⟩ = some (.bool (anyI (xs.take k) x.toNat)) := by
        rw [World.cell?_alloc_new, rowF_get _ _ (by omega)]
      go_wp2
      go_roundw
      case rel => exact ⟨k + 1, by omega, by go_num, by rw [HT.out]⟩
      case measure => simp [intOf]; omega
    · obtain rfl : k = xs.length := by omega
      rw [List.take_length]
      have hH : HoldsB (W.alloc (.cells (rowF (anyI xs)) 4)) (.slice (some ⟨W.heap.size, 0, none⟩) 256 256) (anyI xs) :=
        ⟨W.heap.size, rfl, fun i hi => by rw [World.cell?_alloc_new, rowF_get _ _ hi]⟩
      have hb1 : Below w.heap.size w (W.alloc (.cells (rowF (anyI xs)) 4)) := ext_alloc hb _
      have hR1 := Lib.hid (HR.out.later (ext_alloc (Below.refl _ W) (.cells (rowF (anyI xs)) 4)))
      have hlt1 : W.heap.size < (W.alloc (.cells (rowF (anyI xs)) 4)).heap.size := by simp
      clear HR hb hlt hk
      generalize W.alloc (.cells (rowF (anyI xs)) 4) = W1 at *
      have hmk := makeRow
      go_wp2_with fail
      clear hmk
      rw [rowB_zero (fun _ => true)]
      have h0 := rowB_zero (fun j => decide (low ≤ j) && decide (j ≤ high))
      go_loopw [12] (fun i wr => RunAt2 (fun j => decide (low ≤ j) && decide (j ≤ high)) W1 i wr) (fun i _ => 256 - (intOf i).toNat)
      case atStart => exact ⟨0, by omega, rfl, by rw [← h0, rowB_zero (fun _ => true)]⟩
      case round =>
        clear h0
        obtain ⟨k, hk, rfl, rfl⟩ := hrel
        by_cases hlt2 : k < 256
        · have HS1 := Lib.hid (rowB_set (fun j => decide (low ≤ j) && decide (j ≤ high)) k hlt2)
          have HS2 := Lib.hid (rowB_set (fun _ => true) k hlt2)
          have o1 : ((W1.alloc (.cells (rowB (fun j => decide (low ≤ j) && decide (j ≤ high)) k) 4)).alloc (.cells (rowB (fun _ => true) k) 4)).cell? ⟨W1.heap.size, k, none⟩ = some (.bool false) := by
            rw [World.cell?_alloc_old _ _ _ (by simp), World.cell?_alloc_new, rowB_get _ _ _ hlt2, if_neg (by omega)]
          have o2 : ((W1.alloc (.cells ((rowB (fun j => decide (low ≤ j) && decide (j ≤ high)) k).setIfInBounds k (.bool (decide (low ≤ k) && decide (k ≤ high)))) 4)).alloc (.cells (rowB (fun _ => true) k) 4)).cell? ⟨W1.heap.size + 1, k, none⟩ = some (.bool false) := by
            have := World.cell?_alloc_new (W1.alloc (.cells ((rowB (fun j => decide (low ≤ j) && decide (j ≤ high)) k).setIfInBounds k (.bool (decide (low ≤ k) && decide (k ≤ high)))) 4)) (rowB (fun _ => true) k) 4 k
            rw [World.size_alloc] at this
            rw [this, rowB_get _ _ _ hlt2, if_neg (by omega)]
          by_cases hl : low ≤ k
          · by_cases hh : k ≤ high
            · simp only [hl, hh, decide_true, Bool.and_self] at o2 HS1
              go_wp2
              go_roundw
              case rel => exact ⟨k + 1, by omega, by go_num, by rw [HS1.out, HS2.out]⟩
              case measure => simp [intOf]; omega
            · simp only [hl, hh, decide_true, decide_false, Bool.and_false] at o2 HS1
              have hh' : high < k := by omega
              go_wp2
              go_roundw
              case rel => exact ⟨k + 1, by omega, by go_num, by rw [HS1.out, HS2.out]⟩
              case measure => simp [intOf]; omega
          · simp only [hl, decide_false, Bool.false_and] at o2 HS1
            have hl' : k < low := by omega
            go_wp2
            go_roundw
            case rel => exact ⟨k + 1, by omega, by go_num, by rw [HS1.out, HS2.out]⟩
            case measure => simp [intOf]; omega
        · obtain rfl : k = 256 := by omega
          rw [rowB_full, rowB_full]
          have e1 : Below w.heap.size w ((W1.alloc (.cells (rowF (fun j => decide (low ≤ j) && decide (j ≤ high))) 4)).alloc (.cells (rowF (fun _ => true)) 4)) := ext_alloc (ext_alloc hb1 _) _
          have e0 : Below W1.heap.size W1 ((W1.alloc (.cells (rowF (fun j => decide (low ≤ j) && decide (j ≤ high))) 4)).alloc (.cells (rowF (fun _ => true)) 4)) := ext_alloc (ext_alloc (Below.refl _ W1) _) _
          have hH5 := hH.later e0
          have hR5 := Lib.hid (hR1.out.later e0)
          have hG5 : HoldsB ((W1.alloc (.cells (rowF (fun j => decide (low ≤ j) && decide (j ≤ high))) 4)).alloc (.cells (rowF (fun _ => true)) 4)) (.slice (some ⟨W1.heap.size, 0, none⟩) 256 256) (fun j => decide (low ≤ j) && decide (j ≤ high)) :=
            ⟨_, rfl, fun i hi => by rw [World.cell?_alloc_old _ _ _ (by simp), World.cell?_alloc_new, rowF_get _ _ hi]⟩
          have hA5 : HoldsB ((W1.alloc (.cells (rowF (fun j => decide (low ≤ j) && decide (j ≤ high))) 4)).alloc (.cells (rowF (fun _ => true)) 4)) (.slice (some ⟨W1.heap.size + 1, 0, none⟩) 256 256) (fun _ => true) :=
            ⟨_, rfl, fun i hi => by
              have := World.cell?_alloc_new (W1.alloc (.cells (rowF (fun j => decide (low ≤ j) && decide (j ≤ high))) 4)) (rowF (fun _ => true)) 4 i
              rw [World.size_alloc] at this
              rw [this, rowF_get _ _ hi]⟩
          have q1 : (BS.ofL xs).eqv (anyI xs) = true := (BS.eqv_iff _ _).2 fun j hj => BS.has_ofL xs hx j hj
          have q2 : (BS.run low (high + 1 - low)).eqv (fun j => decide (low ≤ j) && decide (j ≤ high)) = true := (BS.eqv_iff _ _).2 fun j hj => by
            by_cases hle : low ≤ high + 1
            · rw [BS.has_run low j hj _ (by omega), ← Bool.decide_and]
              apply decide_eq_decide.2; omega
            · rw [show high + 1 - low = 0 by omega, BS.run, BS.has_none, ← Bool.decide_and]
              symm; apply decide_eq_false; omega
          have q3 : (⟨fullW, fullW, fullW, fullW⟩ : BS).eqv (fun _ => true) = true := (BS.eqv_iff _ _).2 fun j hj => BS.has_all j
          have q4 : (⟨(BS.ofL []).a, (BS.ofL []).b, (BS.ofL []).c, (BS.ofL []).d⟩ : BS) = BS.none := rfl
          clear e0 hH hR1 hlt1 hb1 hlt2 hk
          generalize ((W1.alloc (.cells (rowF (fun j => decide (low ≤ j) && decide (j ≤ high))) 4)).alloc (.cells (rowF (fun _ => true)) 4)) = W5 at *
          have Q1 := Lib.hid q1
          have Q2 := Lib.hid q2
          have Q3 := Lib.hid q3
          have Q4 := Lib.hid q4
          clear q1 q2 q3 q4
          go_wp2_with fail
          refine (Of_row a cap xs hx (by omega) _ hR5.out).mono ?_
          rintro e W6 ⟨rfl, hb6⟩
          have e6 := ext_step e1 hb6
          have hH6 := hH5.later hb6
          have hG6 := hG5.later hb6
          have hA6 := hA5.later hb6
          clear e1 hb6 hH5 hG5 hA5 hR5
          go_wp2_with fail
          refine (same_any _ _ _ _ _ _ _ hH6).mono ?_
          rintro e W7 ⟨rfl, hb7⟩
          have e7 := ext_step e6 hb7
          have hG7 := hG6.later hb7
          have hA7 := hA6.later hb7
          clear e6 hb7 hH6 hG6 hA6
          rw [Q1.out]
          go_wp2_with fail
          refine (From_any low high hlo hhi _).mono ?_
          rintro e W8 ⟨rfl, hb8⟩
          have e8 := ext_step e7 hb8
          have hG8 := hG7.later hb8
          have hA8 := hA7.later hb8
          clear e7 hb8 hG7 hA7
          go_wp2_with fail
          refine (same_any _ _ _ _ _ _ _ hG8).mono ?_
          rintro e W9 ⟨rfl, hb9⟩
          have e9 := ext_step e8 hb9
          have hA9 := hA8.later hb9
          clear e8 hb9 hG8 hA8
          rw [Q2.out]
          go_wp2_with fail
          refine (All_any _).mono ?_
          rintro e W10 ⟨rfl, hb10⟩
          have e10 := ext_step e9 hb10
          have hA10 := hA9.later hb10
          clear e9 hb10 hA9
          go_wp2_with fail
          refine (same_any _ _ _ _ _ _ _ hA10).mono ?_
          rintro e W11 ⟨rfl, hb11⟩
          have e11 := ext_step e10 hb11
          clear e10 hb11 hA10
          rw [Q3.out]
          go_wp2_with fail
          refine (Of_nil _ _ _).mono ?_
          rintro e W12 ⟨rfl, hb12⟩
          have e12 := ext_step e11 hb12
          clear e11 hb12
          go_wp2_with fail
          refine (Empty_any _ _ _ _ _).mono ?_
          rintro e W13 ⟨rfl, hW13⟩
          have e13 : Below w.heap.size w W13 := by rw [hW13]; exact ext_alloc e12 _
          clear hW13 e12
          rw [Q4.out]
          go_wp2
          go_ret
          exact ⟨rfl, e13⟩

theorem u8_range {n : Int} (h : (Lit.int .u8 n).wf = true) : 0 ≤ n ∧ n ≤ 255 := by
  simp [Lit.wf, IntKind.min, IntKind.max, IntKind.signed, IntKind.bits] at h
  omega
set_option maxHeartbeats 400000 in
theorem SetMakes_any' (w : World) (a : Option Addr) (len cap : Nat) (zs : List Int) (hr : IsRow .u8 w a len cap zs) (n1 : Int) (wf1 : (Lit.int .u8 n1).wf = true) (n2 : Int) (wf2 : (Lit.int .u8 n2).wf = true) :
    Calls Try.prog 4 #[.slice a len cap, .int .u8 n1, .int .u8 n2] w fun e w' => e = .returned (.bool true) ∧ Below w.heap.size w w' := by
  obtain ⟨h1, h2, h3⟩ := hr.elems
  obtain ⟨l1, l2⟩ := u8_range wf1
  obtain ⟨g1, g2⟩ := u8_range wf2
  obtain ⟨low, rfl⟩ := Int.eq_ofNat_of_zero_le l1
  obtain ⟨high, rfl⟩ := Int.eq_ofNat_of_zero_le g1
  by_cases hlen : len ≤ 300
  · have := SetMakes_core a cap (zs.take len) (fun x hx => u8_range (h3 x hx)) (by omega) low high (by omega) (by omega) w h1
    rw [h2] at this
    exact this
  · have hlen' : (300 : Int) < (len : Int) := by omega
    clear h1 h2 h3 hr hlen
    go_enter Try.func4, Try.ntmps4
    go_wp2_with fail
    refine (head_any _).mono ?_
    rintro e W ⟨rfl, hb⟩
    go_wp2
    go_ret
    exact ⟨rfl, hb⟩
end Go.Proofs.Ytampjjllpdljaaa
