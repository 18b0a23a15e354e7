/-
  The statement's function 'LensWords', walked through the program: whatever number, whatever text.
-/
import Derived.Test.YtpajpjocakhcdaaDoorLnH
set_option linter.unusedSimpArgs false
set_option linter.unusedVariables false
set_option maxRecDepth 100000
namespace Go.Proofs.YtpajpjocakhcdaaDoor
open Go.RowKit
def lawRow : Array Value := #[.string ⟨#[]⟩, .string ⟨#[]⟩, .string ⟨#[99, 111, 112, 121]⟩, .string ⟨#[107, 101, 121]⟩, .string ⟨#[99, 111, 110, 115, 116]⟩, .string ⟨#[100, 101, 108]⟩, .string ⟨#[105, 110, 115]⟩, .string ⟨#[]⟩, .string ⟨#[]⟩, .string ⟨#[]⟩, .string ⟨#[115, 119, 97, 112]⟩, .string ⟨#[]⟩, .string ⟨#[105, 110, 118]⟩, .string ⟨#[100, 105, 99, 116]⟩, .string ⟨#[108, 101, 102, 116]⟩, .string ⟨#[114, 105, 103, 104, 116]⟩, .string ⟨#[107, 101, 101, 112]⟩, .string ⟨#[110, 111, 114, 109]⟩]
theorem lawRow_at : ∀ j : Nat, j < 18 → lawRow[j]? = some (.string ⟨(wordT (j : Int)).toArray⟩)
  | 0, _ => rfl
  | 1, _ => rfl
  | 2, _ => rfl
  | 3, _ => rfl
  | 4, _ => rfl
  | 5, _ => rfl
  | 6, _ => rfl
  | 7, _ => rfl
  | 8, _ => rfl
  | 9, _ => rfl
  | 10, _ => rfl
  | 11, _ => rfl
  | 12, _ => rfl
  | 13, _ => rfl
  | 14, _ => rfl
  | 15, _ => rfl
  | 16, _ => rfl
  | 17, _ => rfl
  | k + 18, h => absurd h (by omega)
set_option maxRecDepth 100000 in
set_option maxHeartbeats 4000000 in
theorem LensWords_any (op : Int) (l : List UInt8) (w : World) (hT : Tab w) (hWo : WordsAt w) (hll : l.length ≤ 9223372036854775807) :
    Calls Tryd.prog 3 #[.int .i64 op, .string ⟨l.toArray⟩] w fun e w' => e = .returned (.bool true) ∧ Below w.heap.size w w' := by
  have hss := str_size l
  have HH := Lib.hid (head_any w hT hWo)
  have HWo := Lib.hid hWo
  clear hT hWo
  by_cases hlen : 100 < l.length
  · go_enter Tryd.func3, Tryd.ntmps3
    go_wp2_with fail
    refine HH.out.mono ?_
    rintro e w1 ⟨rfl, hb1⟩
    go_wp2_with fail
    go_ret
    exact ⟨rfl, hb1⟩
  · have HQ := Lib.hid (Quote_any l (by omega))
    have Hq := Lib.hid (quote_any l (by omega))
    have hql : (quoteW l).length ≤ 1000 := by have := bytesW_len l; simp [quoteW]; omega
    generalize quoteW l = q at *
    by_cases h0 : 0 ≤ op
    · by_cases h18 : op < 18
      · have hrow := lawRow_at op.toNat (by omega)
        rw [Int.toNat_of_nonneg h0] at hrow
        have HROW := Lib.hid hrow
        clear hrow
        go_enter Tryd.func3, Tryd.ntmps3
        go_wp2_with fail
        refine HH.out.mono ?_
        rintro e w1 ⟨rfl, hb1⟩
        have hcell : (w1.alloc (.cells lawRow 9)).cell? ⟨w1.heap.size, op.toNat, none⟩ = some (.string ⟨(wordT op).toArray⟩) := by
          rw [cell_of_row _ _ _ _ _ _ (heap_alloc_last _ _)]; exact HROW.out
        unfold lawRow at hcell
        have HWd := Lib.hid (fun W hW => Word_op op W hW)
        have HB := Lib.hid hb1
        generalize wordT op = x at *
        clear hb1
        go_wp2_with fail
        have hBa : Below w.heap.size w (w1.alloc (.cells lawRow 9)) := ext_alloc HB.out _
        unfold lawRow at hBa
        refine (HWd.out _ (HWo.out.later hBa)).mono ?_
        rintro e w' ⟨rfl, rfl⟩
        have HBa := Lib.hid hBa
        clear hBa
        go_wp2_with fail
        refine (HQ.out _).mono ?_
        rintro e w2 ⟨rfl, hb2⟩
        have hB2 := ext_step HBa.out hb2
        clear hb2
        go_wp2_with fail
        refine (Hq.out _).mono ?_
        rintro e w3 ⟨rfl, hb3⟩
        have hB3 := ext_step hB2 hb3
        clear hb3
        go_wp2_with fail
        go_ret
        exact ⟨rfl, hB3⟩
      · have HX : Hid (wordT op = []) := by show _ = _; unfold wordT; rw [if_neg (by omega)]
        have hd18 : decide (op < 18) = false := decide_eq_false h18
        have hwd := fun W hW => Word_op op W hW
        rw [HX.out] at hwd
        have HWd := Lib.hid hwd
        clear hwd
        go_enter Tryd.func3, Tryd.ntmps3
        go_wp2_with fail
        refine HH.out.mono ?_
        rintro e w1 ⟨rfl, hb1⟩
        have HB := Lib.hid hb1
        clear hb1
        go_wp2_with fail
        have hBa : Below w.heap.size w (w1.alloc (.cells lawRow 9)) := ext_alloc HB.out _
        unfold lawRow at hBa
        refine (HWd.out _ (HWo.out.later hBa)).mono ?_
        rintro e w' ⟨rfl, rfl⟩
        have HBa := Lib.hid hBa
        clear hBa
        go_wp2_with fail
        refine (HQ.out _).mono ?_
        rintro e w2 ⟨rfl, hb2⟩
        have hB2 := ext_step HBa.out hb2
        clear hb2
        go_wp2_with fail
        refine (Hq.out _).mono ?_
        rintro e w3 ⟨rfl, hb3⟩
        have hB3 := ext_step hB2 hb3
        clear hb3
        go_wp2_with fail
        go_ret
        exact ⟨rfl, hB3⟩
    · have HX : Hid (wordT op = []) := by show _ = _; unfold wordT; rw [if_neg (by omega)]
      have hd0 : decide (0 ≤ op) = false := decide_eq_false h0
      have hwd := fun W hW => Word_op op W hW
      rw [HX.out] at hwd
      have HWd := Lib.hid hwd
      clear hwd
      go_enter Tryd.func3, Tryd.ntmps3
      go_wp2_with fail
      refine HH.out.mono ?_
      rintro e w1 ⟨rfl, hb1⟩
      have HB := Lib.hid hb1
      clear hb1
      go_wp2_with fail
      have hBa : Below w.heap.size w (w1.alloc (.cells lawRow 9)) := ext_alloc HB.out _
      unfold lawRow at hBa
      refine (HWd.out _ (HWo.out.later hBa)).mono ?_
      rintro e w' ⟨rfl, rfl⟩
      have HBa := Lib.hid hBa
      clear hBa
      go_wp2_with fail
      refine (HQ.out _).mono ?_
      rintro e w2 ⟨rfl, hb2⟩
      have hB2 := ext_step HBa.out hb2
      clear hb2
      go_wp2_with fail
      refine (Hq.out _).mono ?_
      rintro e w3 ⟨rfl, hb3⟩
      have hB3 := ext_step hB2 hb3
      clear hb3
      go_wp2_with fail
      go_ret
      exact ⟨rfl, hB3⟩
end Go.Proofs.YtpajpjocakhcdaaDoor
