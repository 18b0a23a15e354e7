/-
  The document's example, walked through the program.
-/
import Derived.Test.YtpajpjocakhcdaaGreatDoorLnC
import Derived.Test.YtpajpjocakhcdaaGreatDoorReWord
set_option linter.unusedSimpArgs false
set_option linter.unusedVariables false
set_option maxRecDepth 100000
set_option linter.unnecessarySimpa false
namespace Go.Proofs.YtpajpjocakhcdaaGreatDoor
open Go.RowKit
def sA : BS := BS.ofL [97]
theorem sA_len : sA.len = 1 := by decide +kernel
theorem sA_least : sA.least = 97 := by decide +kernel
theorem oneA : RE.one sA = RE.node 2 sA [] := by
  unfold RE.one
  rw [if_neg (by decide +kernel)]
theorem wordA : RE.wordL [97] = RE.node 2 sA [] := by
  show RE.thenL [some (RE.one sA)] = _
  rw [oneA]; rfl
theorem TermAt.other {w : World} {b op : Nat} {re : Value} {text : List UInt8} {kids : Value} (h : TermAt w b op re text kids) (a : Addr) (v : Value) (hne : b ≠ a.block) : TermAt (w.setCell a v) b op re text kids := by
  show (w.setCell a v).heap[b]? = _
  rw [Below.heap_setCell _ _ _ _ hne]; exact h
theorem leaf_other {w : World} {b o : Nat} {s : BS} (h : IsRe w b (RE.node o s [])) (a : Addr) (v : Value) (hne : b ≠ a.block) : IsRe (w.setCell a v) b (RE.node o s []) := by
  cases h with
  | mk _ _ kp cap bs hb hl hr hy hk =>
    have : bs = [] := List.length_eq_zero_iff.1 hl
    subst this
    exact .mk b _ kp cap [] ((Below.heap_setCell _ _ _ _ hne).trans hb) rfl (.inl rfl) (fun h => absurd rfl h) (fun i hi => absurd hi (by simp [RE.kids]))
theorem leaf_ne {w : World} {b o b1 op : Nat} {s : BS} {re : Value} {text : List UInt8} {kids : Value} (h : IsRe w b (RE.node o s [])) (h1 : TermAt w b1 op re text kids) : b ≠ b1 := by
  rintro rfl
  obtain ⟨kp, cap, bs, hb, _⟩ := h.open
  rw [show w.heap[b]? = _ from h1] at hb
  have := Option.some.inj hb
  injection this with _ h2 _
  exact absurd h2 (by decide)
set_option maxRecDepth 100000 in
set_option maxHeartbeats 4000000 in
theorem head_any (w : World) (hT : Tab w) (hWo : WordsAt w) :
    Calls Tryz.prog 13 #[] w fun e w' => e = .returned (.bool true) ∧ Below w.heap.size w w' := by
  have HT := Lib.hid hT
  have HW := Lib.hid hWo
  clear hT hWo
  go_enter Tryz.func13, Tryz.ntmps13
  go_wp2_with fail
  refine (Of_nil 2 (by omega) _).mono ?_
  rintro e w1 ⟨b1, rfl, hlo1, h1, hb1⟩
  have HB1 := Lib.hid hb1
  have HT1 := Lib.hid h1
  clear hb1 h1
  go_wp2_with fail
  refine (Word_any [97] (by simp) w1).mono ?_
  rintro e w2 ⟨rb, rfl, hre, hb2⟩
  rw [wordA] at hre
  have h1 := HT1.out.later hb2
  have hB2 := ext_step HB1.out hb2
  have hfr : w2.frozen? ⟨b1, 3, none⟩ = false := frozen_of_row _ _ _ _ _ h1
  have hcc : w2.cell? ⟨b1, 3, none⟩ = some (.pointer none) := by rw [cell_of_row _ _ _ _ _ _ h1]; rfl
  have hne := leaf_ne hre h1
  have H1 : Hid (TermAt (w2.setCell ⟨b1, 3, none⟩ (.pointer (some ⟨rb, 0, none⟩))) b1 2 (.pointer (some ⟨rb, 0, none⟩)) [] (.slice none 0 0)) := by
    show (w2.setCell _ _).heap[b1]? = _
    rw [heap_setCell_same _ _ _ _ _ _ h1]; rfl
  have HRE := Lib.hid (leaf_other hre ⟨b1, 3, none⟩ (.pointer (some ⟨rb, 0, none⟩)) hne)
  have HB3 : Hid (Below w.heap.size w (w2.setCell ⟨b1, 3, none⟩ (.pointer (some ⟨rb, 0, none⟩)))) := hB2.setCell hlo1 _
  clear hre h1 hB2 hb2
  go_wp2_with fail
  generalize w2.setCell ⟨b1, 3, none⟩ (.pointer (some ⟨rb, 0, none⟩)) = w3 at *
  clear hfr hcc
  refine (Of_nil 6 (by omega) _).mono ?_
  rintro e w4 ⟨b2, rfl, hlo2, h2, hb4⟩
  have hlt1 : b1 < w3.heap.size := (Array.getElem?_eq_some_iff.1 H1.out).1
  have hltr : rb < w3.heap.size := HRE.out.lt
  have hfr : w4.frozen? ⟨b2, 4, none⟩ = false := frozen_of_row _ _ _ _ _ h2
  have hcc : w4.cell? ⟨b2, 4, none⟩ = some (.string ⟨#[]⟩) := by rw [cell_of_row _ _ _ _ _ _ h2]; rfl
  have H2 : Hid (TermAt (w4.setCell ⟨b2, 4, none⟩ (.string ⟨#[98]⟩)) b2 6 (.pointer none) [98] (.slice none 0 0)) := by
    show (w4.setCell _ _).heap[b2]? = _
    rw [heap_setCell_same _ _ _ _ _ _ h2]; rfl
  have H1' := Lib.hid ((H1.out.later hb4).other ⟨b2, 4, none⟩ (.string ⟨#[98]⟩) (by show b1 ≠ b2; omega))
  have HRE' := Lib.hid (leaf_other (HRE.out.later (Nat.le_refl _) hb4) ⟨b2, 4, none⟩ (.string ⟨#[98]⟩) (by show rb ≠ b2; omega))
  have HB5 : Hid (Below w.heap.size w (w4.setCell ⟨b2, 4, none⟩ (.string ⟨#[98]⟩))) := (ext_step HB3.out hb4).setCell (by show w.heap.size ≤ b2; have := HB3.out.size; omega) _
  have HSZ : Hid ((w4.setCell ⟨b2, 4, none⟩ (.string ⟨#[98]⟩)).heap.size = w4.heap.size) := by show _ = _; simp
  clear h2 hb4 hlt1 hltr H1 HRE HB3 HB1 HT1
  go_wp2_with fail
  generalize w4.setCell ⟨b2, 4, none⟩ (.string ⟨#[98]⟩) = w5 at *
  clear hfr hcc
  rw [← HSZ.out]
  have hA := re_alloc0 w5 (.cells #[.pointer (some ⟨b1, 0, none⟩), .pointer (some ⟨b2, 0, none⟩)] 26)
  refine (Of_two 8 (by omega) w5.heap.size b1 b2 _ (heap_alloc_last _ _)).mono ?_
  rintro e w7 ⟨b3, k, cap, rfl, h3, hk0, hk1, hb7⟩
  have hB57 := ext_step hA hb7
  have hB7 := ext_step HB5.out hB57
  have h1 := H1'.out.later hB57
  have h2 := H2.out.later hB57
  have hre := HRE'.out.later (Nat.le_refl _) hB57
  have hin0 : ∀ W, Below w7.heap.size w7 W → Calls Tryz.prog 57 #[.pointer (some ⟨b1, 0, none⟩), .int .i64 1] W fun e w' => e = .returned (.string ⟨([99, 111, 112, 121, 32] ++ ([47] ++ byteW 97 ++ [47])).toArray⟩) ∧ Below W.heap.size W w' := fun W hb =>
    in_of b1 1 (by omega) _ W (level_any b1 2 _ _ _ W (h1.later hb) (.inl rfl)) (String_copy b1 rb sA.a sA.b sA.c sA.d 97 (by omega) sA_len sA_least W (HT.out.later (ext_step hB7 hb)) (HW.out.later (ext_step hB7 hb)) (hre.later (Nat.le_refl _) hb) (h1.later hb))
  have hin1 : ∀ W, Below w7.heap.size w7 W → Calls Tryz.prog 57 #[.pointer (some ⟨b2, 0, none⟩), .int .i64 2] W fun e w' => e = .returned (.string ⟨([105, 110, 115, 32] ++ quoteW [98]).toArray⟩) ∧ Below W.heap.size W w' := fun W hb =>
    in_of b2 2 (by omega) _ W (level_any b2 6 _ _ _ W (h2.later hb) (.inr rfl)) (String_ins b2 _ [98] (by simp) _ W (h2.later hb))
  have HST := Lib.hid (String_cat b3 _ _ _ w7 h3 (pair_of b3 k cap b1 b2 _ _ _ (by decide) (by decide) w7 h3 hk0 hk1 hin0 hin1))
  clear hin0 hin1 h1 h2 hre h3 hk0 hk1
  go_wp2_with fail
  refine HST.out.mono ?_
  rintro e w8 ⟨rfl, hb8⟩
  have hB8 := ext_step hB7 hb8
  rw [show ([99, 111, 112, 121, 32] ++ ([47] ++ byteW 97 ++ [47]) ++ [32, 46, 32] ++ ([105, 110, 115, 32] ++ quoteW [98])) = [99, 111, 112, 121, 32, 47, 97, 47, 32, 46, 32, 105, 110, 115, 32, 34, 98, 34] from by decide]
  go_wp2_with fail
  go_ret
  exact ⟨rfl, hB8⟩
end Go.Proofs.YtpajpjocakhcdaaGreatDoor
