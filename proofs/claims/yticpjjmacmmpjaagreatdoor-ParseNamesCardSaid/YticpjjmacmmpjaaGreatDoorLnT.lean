/-
  Terms made, walked through the program: 'Of'; how closely a term's parts hold together; an op's word.
-/
import Derived.Test.YticpjjmacmmpjaaGreatDoorLnQ
import Derived.Test.YticpjjmacmmpjaaGreatDoorReFlat
set_option linter.unusedSimpArgs false
set_option linter.unusedVariables false
set_option maxRecDepth 100000
set_option linter.unnecessarySimpa false
namespace Go.Proofs.YticpjjmacmmpjaaGreatDoor
open Go.RowKit
/-- the cells of a term -/
def termCells (op : Nat) (re : Value) (text : List UInt8) (kids : Value) : Array Value :=
  #[.int .i64 op, .int .i64 0, .string ⟨#[]⟩, re, .string ⟨text.toArray⟩, .string ⟨#[]⟩, kids]
def TermAt (w : World) (b op : Nat) (re : Value) (text : List UInt8) (kids : Value) : Prop := w.heap[b]? = some (.cells (termCells op re text kids) 62 (0, 0))
set_option maxHeartbeats 2000000 in
theorem Of_nil (op : Nat) (hop : op < 20) (w : World) : Calls Tryz.prog 61 #[.int .i64 op, .slice none 0 0] w fun e w' => ∃ b, e = .returned (.pointer (some ⟨b, 0, none⟩)) ∧ w.heap.size ≤ b ∧ TermAt w' b op (.pointer none) [] (.slice none 0 0) ∧ Below w.heap.size w w' := by
  go_enter Tryz.func61, Tryz.ntmps61
  go_wp2_with fail
  go_ret
  refine ⟨w.heap.size, rfl, Nat.le_refl _, ?_, ?_⟩
  · exact heap_alloc_last _ _
  · repeat (first | exact Below.refl _ _ | assumption | refine Below.drew ?_ | refine ext_drewN ?_ _ | refine ext_alloc ?_ _ | refine Below.setCell ?_ (by (try simp only [World.size_alloc, World.size_setCell, World.size_drew]); omega) _ | refine ext_step ?_ (by assumption))
theorem infoTm : (Tryz.prog.info? 56).map (fun i => (i.zero, i.size, i.bytes)) = some (some (.pointer none), 1, 8) := by kernel_rfl
set_option maxHeartbeats 2000000 in
theorem Of_two (op : Nat) (hop : op < 20) (g b0 b1 : Nat) (w : World) (h0 : w.heap[g]? = some (.cells #[.pointer (some ⟨b0, 0, none⟩), .pointer (some ⟨b1, 0, none⟩)] 56 (0, 0))) :
    Calls Tryz.prog 61 #[.int .i64 op, .slice (some ⟨g, 0, none⟩) 2 2] w fun e w' => ∃ b k cap, e = .returned (.pointer (some ⟨b, 0, none⟩)) ∧ TermAt w' b op (.pointer none) [] (.slice (some ⟨k, 0, none⟩) 2 cap) ∧ w'.cell? ⟨k, 0, none⟩ = some (.pointer (some ⟨b0, 0, none⟩)) ∧ w'.cell? ⟨k, 1, none⟩ = some (.pointer (some ⟨b1, 0, none⟩)) ∧ Below w.heap.size w w' := by
  obtain ⟨i0, hi, hz0, hz1, hz2⟩ := info_parts infoTm
  have HI := Lib.hid hi; have HZ0 := Lib.hid hz0; have HZ1 := Lib.hid hz1; have HZ2 := Lib.hid hz2
  have H0 := Lib.hid h0
  clear hi hz0 hz1 hz2 h0
  go_enter Tryz.func61, Tryz.ntmps61
  go_wp2_with (at_builtin; refine wpList_append_lies _ rfl _ _ _ rfl w.heap.size 56 i0 _ 1 8 Tryz.underlying60 HI.out HZ0.out HZ1.out HZ2.out rfl (by omega) (.slice none 0 0) 0 [] rfl (World.ownsRow_nil _ _ _ _) ⟨g, 0, none⟩ 2 2 [.pointer (some ⟨b0, 0, none⟩), .pointer (some ⟨b1, 0, none⟩)] rfl rfl (World.news_of_block H0.out) (by intro u hu; simp at hu; rcases hu with rfl | rfl <;> rfl) (by omega) (by unfold maxLen; omega) (by omega) (Nat.le_refl _) w.heap.size rfl ?_; intro g5 cp5 W9 hown9 hg9 hat9 hlt9)
  go_ret
  have hc := fun j u hj => hown9.cells (show (Value.slice (some ⟨g5, 0, none⟩) (0 + 2) cp5).ownBlock = some g5 from rfl) j u hj
  have hb9 : Below w.heap.size w W9 := (Below.refl _ _).grown hg9 (Nat.le_refl _) (fun k e => by cases e)
  refine ⟨W9.heap.size, g5, cp5, rfl, heap_alloc_last _ _, ?_, ?_, ?_⟩
  · rw [World.cell?_alloc_old _ _ _ (by simp; omega)]
    have := hc 0 _ rfl
    simpa [Addr.add] using this
  · rw [World.cell?_alloc_old _ _ _ (by simp; omega)]
    have := hc 1 _ rfl
    simpa [Addr.add] using this
  · exact ext_alloc hb9 _
def levelT (op : Nat) : Nat := if op = 7 then 0 else if op = 8 then 1 else if op = 11 then 2 else if op = 9 then 3 else 4
def opWords : List (List UInt8) := [[99, 111, 112, 121], [107, 101, 121], [99, 111, 110, 115, 116], [100, 101, 108], [105, 110, 115], [], [], [], [115, 119, 97, 112], [], [105, 110, 118], [100, 105, 99, 116], [108, 101, 102, 116], [114, 105, 103, 104, 116], [107, 101, 101, 112], [110, 111, 114, 109]]
def wordT (op : Int) : List UInt8 := if 2 ≤ op ∧ op ≤ 17 then opWords.getD (op - 2).toNat [] else []
/-- the words lie where they were laid -/
def WordsAt (w : World) : Prop := ∀ i, i < 16 → w.cell? ⟨0, i, none⟩ = some (.string ⟨(opWords.getD i []).toArray⟩)
theorem WordsAt.later {w w1 : World} (h : WordsAt w) (hb : Below w.heap.size w w1) : WordsAt w1 := fun i hi => by
  have hc := h i hi
  have := World.block_lt_of_cell? w _ hc
  rw [hb.cell (p := ⟨_, i, none⟩) this]; exact hc
set_option maxHeartbeats 2000000 in
theorem Word_op (op : Int) (w : World) (hW : WordsAt w) : Calls Tryz.prog 105 #[.int .i64 op] w fun e w' => e = .returned (.string ⟨(wordT op).toArray⟩) ∧ w' = w := by
  by_cases h2 : op < 2
  · have HQ : Hid (wordT op = []) := by show _ = _; unfold wordT; rw [if_neg (by omega)]
    rw [HQ.out]
    go_enter Tryz.func105, Tryz.ntmps105
    go_wp2_with fail
    go_ret
    exact ⟨rfl, rfl⟩
  · by_cases h17 : 17 < op
    · have HQ : Hid (wordT op = []) := by show _ = _; unfold wordT; rw [if_neg (by omega)]
      rw [HQ.out]
      go_enter Tryz.func105, Tryz.ntmps105
      go_wp2_with fail
      go_ret
      exact ⟨rfl, rfl⟩
    · have HQ : Hid (wordT op = opWords.getD (op - 2).toNat []) := by show _ = _; unfold wordT; rw [if_pos (by omega)]
      rw [HQ.out]
      have hc := hW (op - 2).toNat (by omega)
      generalize opWords.getD (op - 2).toNat [] = x at *
      have h2' : decide (op < 2) = false := decide_eq_false h2
      have h17' : decide (17 < op) = false := decide_eq_false h17
      have h2i : 2 ≤ op := by omega
      have h17i : op ≤ 17 := by omega
      clear hW
      go_enter Tryz.func105, Tryz.ntmps105
      go_wp2_with fail
      go_ret
      exact ⟨rfl, rfl⟩
set_option maxHeartbeats 2000000 in
theorem level_any (b op : Nat) (re : Value) (text : List UInt8) (kids : Value) (w : World) (h : TermAt w b op re text kids) (hop : op = 2 ∨ op = 6) : Calls Tryz.prog 143 #[.pointer (some ⟨b, 0, none⟩)] w fun e w' => e = .returned (.int .i64 4) ∧ w' = w := by
  have hc : w.cell? ⟨b, 0, none⟩ = some (.int .i64 op) := by rw [cell_of_row _ _ _ _ _ _ h]; rfl
  clear h
  rcases hop with rfl | rfl
  all_goals
    go_enter Tryz.func143, Tryz.ntmps143
    go_wp2_with fail
    go_ret
    exact ⟨rfl, rfl⟩
end Go.Proofs.YticpjjmacmmpjaaGreatDoor
