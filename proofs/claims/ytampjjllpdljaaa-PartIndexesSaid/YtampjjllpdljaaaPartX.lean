/-
  'PartIndexes', walked through the program: for whatever sets the statement's function returns true, and nothing that lay has turned.
-/
import Derived.Test.YtampjjllpdljaaaPartH
set_option linter.unusedSimpArgs false
set_option linter.unusedVariables false
namespace Go.Proofs.Ytampjjllpdljaaa
open Go.RowKit

def OutAt (w : World) (A : Nat) (f : Nat → Nat) (b : Value) (wr : World) : Prop :=
  ∃ k : Nat, k ≤ 256 ∧ b = .int .i64 k ∧ wr.heap[A]? = some (.cells (rowU f) 47 (0, 0)) ∧ Below w.heap.size w wr
def WantAt (w : World) (A : Nat) (f : Nat → Nat) (l : List BS) (k : Nat) (wt i : Value) (wr : World) : Prop :=
  ∃ j : Nat, j ≤ l.length ∧ i = .int .i64 j ∧ wt = .int .i64 (idxTo l j k : Nat) ∧ wr.heap[A]? = some (.cells (rowU f) 47 (0, 0)) ∧ Below w.heap.size w wr

set_option maxRecDepth 100000 in
set_option maxHeartbeats 8000000 in
theorem PartIndexes_any (w : World) (p : Option Addr) (B off cap : Nat) (l : List BS) (hp : 0 < l.length → p = some ⟨B, off, none⟩) (hm : l.length ≤ 9223372036854775807) (hc : SetsAt w B off l) :
    Calls Try.prog 7 #[.slice p l.length cap] w fun e w' => e = .returned (.bool true) ∧ Below w.heap.size w w' := by
  by_cases hbig : 200 < l.length
  · have hb' : (200 : Int) < l.length := by omega
    clear hp hc hbig
    go_enter Try.func7, Try.ntmps7
    go_wp2_with (go_at_call 22; refine (head2_any _).mono ?_; rintro e W0 ⟨rfl, hb0⟩)
    go_ret
    exact ⟨rfl, hb0⟩
  · have hl : l.length ≤ 200 := by omega
    have hl' : (l.length : Int) ≤ 200 := by omega
    clear hbig hm
    have hlt : 0 < l.length → B < w.heap.size := fun h => (hc 0 h).lt
    have hix : ∀ W : World, Below w.heap.size w W → Calls Try.prog 24 #[.slice p l.length cap] W fun e w' => e = .returned (.agg (rowU (idxTo l l.length))) ∧ Below W.heap.size W w' :=
      fun W hb => Index_any p B off cap l hp (by omega) W (hc.later hb hlt)
    have HIX := Lib.hid hix
    have HP := Lib.hid hp
    have HC := Lib.hid hc
    have HLT := Lib.hid hlt
    clear hix hp hc hlt
    obtain ⟨hzr, hsz⟩ := zero_of_info infoRow
    have HSZ := Lib.hid hsz
    clear hsz
    have HF : Hid (∀ k, idxTo l l.length k = idxTo l l.length k) := fun _ => rfl
    generalize hf : idxTo l l.length = f at *
    have HFF := Lib.hid hf
    clear hf HF
    have h256 : (rowU f).size = 256 := rowU_size _
    have hstc : ∀ W : World, (storeCells ⟨W.heap.size, 0, none⟩ (rowU f).toList 0).run Try.prog (W.alloc (.cells (rowU fun _ => 0) 47)) = .ok () (W.alloc (.cells (rowU f) 47)) := fun W =>
      run_storeCells_new W 47 (rowU fun _ => 0) (rowU f) (by rw [rowU_size]; exact HSZ.out) (by rw [rowU_size, rowU_size]) (rowU_one _)
    have hd2 : decide ((200 : Int) < l.length) = false := by simp; omega
    go_enter Try.func7, Try.ntmps7
    go_wp2_with (first | (go_at_call 22; refine (head2_any _).mono ?_; rintro e W0 ⟨rfl, hb0⟩) | (go_at_call 24; refine (HIX.out _ (by assumption)).mono ?_; rintro e W1 ⟨rfl, hb1⟩))
    have hB1 := ext_step hb0 hb1
    clear hstc h256 hzr hb0 hb1
    go_loopw [4] (fun b wr => OutAt w W1.heap.size f b wr) (fun b _ => 256 - (intOf b).toNat)
    case atStart => exact ⟨0, by omega, rfl, heap_alloc_last _ _, ext_alloc hB1 _⟩
    case round =>
      clear hB1
      obtain ⟨k, hk, rfl, hrow, hbel⟩ := hrel
      by_cases hlt : k < 256
      · have hk0 : (0 : Int) ≤ k := by omega
        have hk255 : (k : Int) ≤ 255 := by omega
        have hdk : decide ((k : Int) < 256) = true := by simp; omega
        go_wp2_with fail
        clear hdk
        go_loopw [5, 21] (fun wt i wr2 => WantAt w W1.heap.size f l k wt i wr2) (fun _ i _ => l.length - (intOf i).toNat)
        case atStart => exact ⟨0, by omega, rfl, rfl, hrow, hbel⟩
        case round =>
          clear hrow hbel
          obtain ⟨j, hj, rfl, rfl, hrow, hbel⟩ := hrel
          by_cases hjl : j < l.length
          · have e := HP.out (by omega)
            subst e
            have hset := (HC.out j hjl).same (hbel.block B (HLT.out (by omega)))
            have HY := Lib.hid (idxTo_yes l j k)
            have HN := Lib.hid (idxTo_no l j k)
            generalize l.getD j BS.none = q at *
            obtain ⟨q0, q1, q2, q3⟩ := q
            obtain ⟨d0, d1, d2, d3⟩ := hset
            dsimp only at d0 d1 d2 d3
            have hj0 : (0 : Int) ≤ j := by omega
            have hA : W1.heap.size < wr.heap.size := (Array.getElem?_eq_some_iff.1 hrow).1
            have hb2 : Below wr.heap.size wr ((wr.alloc (.cells #[.int .u64 (wN q0), .int .u64 (wN q1), .int .u64 (wN q2), .int .u64 (wN q3)] 24)).alloc (.cells #[.int .u64 (wN q0), .int .u64 (wN q1), .int .u64 (wN q2), .int .u64 (wN q3)] 24)) := by repeat (first | exact Below.refl _ _ | assumption | refine Below.drew ?_ | refine ext_drewN ?_ _ | refine ext_alloc ?_ _ | refine Below.setCell ?_ (by (try simp only [World.size_alloc, World.size_setCell, World.size_drew]); omega) _ | refine ext_step ?_ (by assumption))
            cases hh : (⟨q0, q1, q2, q3⟩ : BS).has k with
            | true =>
              have HI := Lib.hid (HY.out hh)
              have HH := Lib.hid hh
              have HR2 := Lib.hid ((hb2.block _ hA).trans hrow)
              have HB2 := Lib.hid (ext_step hbel hb2)
              clear hh hb2 hrow
              go_wp2_with (go_at_call 25; refine (Has_any q0 q1 q2 q3 k hk0 hk255 _).mono ?_; rintro e w' ⟨rfl, rfl⟩; rw [Int.toNat_natCast, HH.out])
              go_roundw
              case rel => exact ⟨j + 1, by omega, by go_num, by rw [HI.out], HR2.out, HB2.out⟩
              case measure => simp [intOf]; omega
            | false =>
              have HI := Lib.hid (HN.out hh)
              have HH := Lib.hid hh
              have HR2 := Lib.hid ((hb2.block _ hA).trans hrow)
              have HB2 := Lib.hid (ext_step hbel hb2)
              clear hh hb2 hrow
              go_wp2_with (go_at_call 25; refine (Has_any q0 q1 q2 q3 k hk0 hk255 _).mono ?_; rintro e w' ⟨rfl, rfl⟩; rw [Int.toNat_natCast, HH.out])
              go_roundw
              case rel => exact ⟨j + 1, by omega, by go_num, by rw [HI.out], HR2.out, HB2.out⟩
              case measure => simp [intOf]; omega
          · have hje : j = l.length := by omega
            have HE : Hid (idxTo l j k = f k) := by show _ = _; rw [hje, HFF.out]
            have hcell : wr.cell? ⟨W1.heap.size, k, none⟩ = some (.int .u8 (f k : Int)) := by rw [cell_of_row _ _ _ _ _ _ hrow, rowU_get _ _ hlt]
            have hji : ¬ (j : Int) < l.length := by omega
            have hfk : (f k : Int) ≤ 200 := by have := idxTo_le l k l.length; rw [HFF.out] at this; omega
            have hfk0 : (0 : Int) ≤ f k := by omega
            rw [HE.out]
            have hne : ((f k : Int) != (f k : Int)) = false := by simp
            have HR := Lib.hid hrow
            clear hje hrow
            go_wp2
            go_roundw
            case rel => exact ⟨k + 1, by omega, by go_num, HR.out, hbel⟩
            case measure => simp [intOf]; omega
      · have hk2 : ¬ (k : Int) < 256 := by omega
        go_wp2
        go_ret
        exact ⟨rfl, hbel⟩
end Go.Proofs.Ytampjjllpdljaaa
