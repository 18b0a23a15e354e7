/-
  Terms made of plans, walked through the program: whatever plan.
-/
import Derived.Test.YticpjjmacmmpjaaGreatDoorLnP
import Derived.Test.YticpjjmacmmpjaaGreatDoorReA
import Derived.Test.YticpjjmacmmpjaaGreatDoorLnT
import Derived.Test.YticpjjmacmmpjaaGreatDoorTxW
import Derived.Test.YticpjjmacmmpjaaGreatDoorLnA
set_option linter.unusedSimpArgs false
set_option linter.unusedVariables false
set_option maxRecDepth 100000
set_option linter.unnecessarySimpa false
namespace Go.Proofs.YticpjjmacmmpjaaGreatDoor
open Go.RowKit
theorem Few_any (p : PL) (sv : Value) (w : World) (h : IsPl w sv p.kids) :
    Calls Tryz.prog 28 #[plV p sv] w fun e w' => e = .returned (.bool (decide (PL.cnt 0 p ≤ 30))) ∧ Below w.heap.size w w' := by
  have HC := Lib.hid (fun W (h : IsPl W sv p.kids) => Count_any 11 0 (by omega) p sv W h)
  have HI := Lib.hid h
  obtain ⟨a2, cap2, _, _, _, rfl, _⟩ := h.open
  clear h
  generalize PL.cnt 0 p = c at *
  go_enter Tryz.func28, Tryz.ntmps28
  go_wp2_with fail
  refine (HC.out _ (HI.out.later (by repeat (first | exact Below.refl _ _ | assumption | refine Below.drew ?_ | refine ext_drewN ?_ _ | refine ext_alloc ?_ _ | refine Below.setCell ?_ (by (try simp only [World.size_alloc, World.size_setCell, World.size_drew]); omega) _ | refine ext_step ?_ (by assumption))))).mono ?_
  rintro e w1 ⟨rfl, hb⟩
  have hB : Below w.heap.size w w1 := by repeat (first | exact Below.refl _ _ | assumption | refine Below.drew ?_ | refine ext_drewN ?_ _ | refine ext_alloc ?_ _ | refine Below.setCell ?_ (by (try simp only [World.size_alloc, World.size_setCell, World.size_drew]); omega) _ | refine ext_step ?_ (by assumption))
  go_wp2_with fail
  go_ret
  exact ⟨congrArg (fun b => Ending.returned (.bool b)) (by simp; omega), hB⟩
theorem u64_nonneg (n : Int) : 0 ≤ IntKind.u64.wrap n := by
  simp only [IntKind.wrap, IntKind.bits, IntKind.signed]
  exact Int.emod_nonneg _ (by decide)
/-- what is left of a number as one without a sign -/
def uMod (n : Int) (m : Nat) : Nat := ((IntKind.u64.wrap n).tmod (m : Int)).toNat
theorem uMod_eq (n : Int) (m : Nat) : (IntKind.u64.wrap n).tmod (m : Int) = (uMod n m : Nat) := by
  unfold uMod
  rw [Int.toNat_of_nonneg (Int.tmod_nonneg _ (u64_nonneg n))]
theorem uMod_lt (n : Int) (m : Nat) (h : 0 < m) : uMod n m < m := by
  have := Int.tmod_lt_of_pos (IntKind.u64.wrap n) (b := (m : Int)) (by omega)
  have h2 := Int.tmod_nonneg (m : Int) (u64_nonneg n)
  unfold uMod; omega
def PL.opN (p : PL) : Nat := 2 + uMod p.op 16
theorem op_any (p : PL) (a : Option Addr) (n cap : Nat) (w : World) :
    Calls Tryz.prog 64 #[plV p (.slice a n cap)] w fun e w' => e = .returned (.int .i64 (p.opN : Nat)) ∧ Below w.heap.size w w' := by
  have hu : (IntKind.u64.wrap p.op).tmod 16 = (uMod p.op 16 : Nat) := uMod_eq p.op 16
  have hl := uMod_lt p.op 16 (by omega)
  have HO : Hid (p.opN = 2 + uMod p.op 16) := rfl
  generalize uMod p.op 16 = m at *
  have hB := ext_alloc (Below.refl w.heap.size w) (.cells #[.int .i64 p.op, .int .i64 p.w, .int .i64 p.n, .slice a n cap] 55)
  go_enter Tryz.func64, Tryz.ntmps64
  go_wp2_with fail
  go_ret
  exact ⟨by rw [HO.out]; go_num, hB⟩
def textL : List (List UInt8) := [[], [97], [98], [97, 98], [120, 59, 121], [34, 113, 34], [10]]
def textN (n : Int) : List UInt8 := textL.getD (uMod n 7) []
theorem Text_any (n : Int) (w : World) :
    Calls Tryz.prog 66 #[.int .i64 n] w (StrPost (textN n) w) := by
  have hu : (IntKind.u64.wrap n).tmod 7 = (uMod n 7 : Nat) := uMod_eq n 7
  have hl := uMod_lt n 7 (by omega)
  have HO : Hid (textN n = textL.getD (uMod n 7) []) := rfl
  generalize uMod n 7 = m at *
  have hB := ext_alloc (Below.refl w.heap.size w) (.cells #[.string ⟨#[]⟩, .string ⟨#[97]⟩, .string ⟨#[98]⟩, .string ⟨#[97, 98]⟩, .string ⟨#[120, 59, 121]⟩, .string ⟨#[34, 113, 34]⟩, .string ⟨#[10]⟩] 9)
  have hm : m = 0 ∨ m = 1 ∨ m = 2 ∨ m = 3 ∨ m = 4 ∨ m = 5 ∨ m = 6 := by omega
  generalize textN n = t at *
  clear hl
  rcases hm with rfl | rfl | rfl | rfl | rfl | rfl | rfl
  all_goals
    go_enter Tryz.func66, Tryz.ntmps66
    go_wp2_with fail
    go_ret
    exact ⟨by rw [HO.out]; rfl, hB⟩
namespace RE
def exA : RE := wordL [97]
def exB : RE := wordL [98]
/-- one of few expressions -/
def exprN : Nat → RE
  | 0 => exA
  | 1 => exB
  | 2 => wordL [97, 98]
  | 3 => many (some exA)
  | 4 => anyL [some exA, some exB]
  | 5 => many (some (anyL [some exA, some exB]))
  | 6 => thenL [some exA, some (many (some exB))]
  | 7 => empty
  | _ => wordL [59]
theorem nf_wordL (l : List UInt8) : nf (wordL l) := nf_thenL fun r hr => by
  obtain ⟨b, _, hb⟩ := List.mem_map.1 hr
  have hb : byteRE b = r := by simpa using hb
  rw [← hb]; exact nf_one _
theorem exA_op : exA.op = 2 := by decide +kernel
theorem nf_pair {a b : RE} (ha : nf a) (hb : nf b) : nfO [some a, some b] := fun r hr => by
  simp only [List.mem_cons, Option.some.injEq, List.not_mem_nil, or_false] at hr
  rcases hr with rfl | rfl
  · exact ha
  · exact hb
theorem nf_exprN (m : Nat) : nf (exprN m) := by
  unfold exprN
  split
  · exact nf_wordL _
  · exact nf_wordL _
  · exact nf_wordL _
  · exact nf_many fun r hr => by cases hr; exact nf_wordL _
  · exact nf_anyL (nf_pair (nf_wordL _) (nf_wordL _))
  · exact nf_many fun r hr => by cases hr; exact nf_anyL (nf_pair (nf_wordL _) (nf_wordL _))
  · exact nf_thenL (nf_pair (nf_wordL _) (nf_many fun r hr => by cases hr; exact nf_wordL _))
  · exact nf_empty
  · exact nf_wordL _
theorem size_wordL (l : List UInt8) : (wordL l).size ≤ 1 + 2 * l.length := by
  have h := size_thenL (l.map fun b => some (byteRE b))
  have e : sizeOs (l.map fun b => some (byteRE b)) = 2 * l.length := by
    induction l with
    | nil => rfl
    | cons a l ih =>
      have h1 : (byteRE a).size = 1 := one_size _
      simp only [sizeOs, List.map_cons, List.sum_cons, sizeO, h1, List.length_cons] at ih ⊢
      have := size_thenL (l.map fun b => some (byteRE b))
      rw [ih this]; omega
  unfold wordL; omega
theorem size_exprN (m : Nat) : (exprN m).size ≤ 30 := by
  have hA : exA.size ≤ 3 := size_wordL [97]
  have hB : exB.size ≤ 3 := size_wordL [98]
  have hM := size_many (some exB)
  have h4 := size_anyL [some exA, some exB]
  have h5 := size_many (some (anyL [some exA, some exB]))
  have h6 := size_thenL [some exA, some (many (some exB))]
  simp only [sizeOs, List.map_cons, List.map_nil, List.sum_cons, List.sum_nil, sizeO] at h4 h5 h6 hM
  unfold exprN
  split
  · omega
  · omega
  · have := size_wordL [97, 98]; simp at this; omega
  · have := size_many (some exA); simp only [sizeO] at this; omega
  · omega
  · omega
  · omega
  · simp [empty, size, sizes]
  · have := size_wordL [59]; simp at this; omega
end RE
theorem listO_two {w : World} {b b' : Nat} {r r' : RE} (h : IsRe w b r) (h' : IsRe w b' r') : ListO (w.alloc (.cells #[ptr b, ptr b'] 37)) (some ⟨w.heap.size, 0, none⟩) [some r, some r'] := .inr ⟨w.heap.size, 0, rfl, fun i hi => by
  have : i = 0 ∨ i = 1 := by simp at hi; omega
  rcases this with rfl | rfl
  · exact ⟨ptr b, by rw [cell_of_row _ _ _ _ _ _ (heap_alloc_last w _)]; rfl, b, rfl, h.later (Nat.le_refl _) (re_alloc w _)⟩
  · exact ⟨ptr b', by rw [cell_of_row _ _ _ _ _ _ (heap_alloc_last w _)]; rfl, b', rfl, h'.later (Nat.le_refl _) (re_alloc w _)⟩⟩
set_option maxRecDepth 100000 in
set_option maxHeartbeats 4000000 in
theorem Expr_any (n : Int) (w : World) :
    Calls Tryz.prog 65 #[.int .i64 n] w (RePost w (RE.exprN (uMod n 9))) := by
  have HU : Hid ((IntKind.u64.wrap n).tmod 9 = (uMod n 9 : Nat)) := uMod_eq n 9
  have HL := Lib.hid (uMod_lt n 9 (by omega))
  have hA3 : RE.exA.size ≤ 3 := RE.size_wordL [97]
  have hB3 : RE.exB.size ≤ 3 := RE.size_wordL [98]
  have HM1 : Hid (RE.sizeO (some RE.exA) ≤ 1099511627775) := by show RE.exA.size ≤ _; omega
  have HM2 : Hid (RE.sizeO (some (RE.anyL [some RE.exA, some RE.exB])) ≤ 1099511627775) := by
    show RE.size _ ≤ _
    have := RE.size_anyL [some RE.exA, some RE.exB]
    simp only [RE.sizeOs, List.map_cons, List.map_nil, List.sum_cons, List.sum_nil, RE.sizeO] at this; omega
  have HM3 : Hid (RE.sizeO (some RE.exB) ≤ 1099511627775) := by show RE.exB.size ≤ _; omega
  have HF4 : Hid (RE.sizes (RE.flat 4 [some RE.exA, some RE.exB]) ≤ 1099511627775) := by
    show RE.sizes _ ≤ _
    have := RE.sizes_flat 4 [some RE.exA, some RE.exB]
    simp only [RE.sizeOs, List.map_cons, List.map_nil, List.sum_cons, List.sum_nil, RE.sizeO] at this; omega
  have HF3 : Hid (RE.sizes (RE.flat 3 [some RE.exA, some (RE.many (some RE.exB))]) ≤ 1099511627775) := by
    show RE.sizes _ ≤ _
    have := RE.sizes_flat 3 [some RE.exA, some (RE.many (some RE.exB))]
    have h2 := RE.size_many (some RE.exB)
    simp only [RE.sizeOs, List.map_cons, List.map_nil, List.sum_cons, List.sum_nil, RE.sizeO] at this h2; omega
  have HN4 : Hid (RE.nfO [some RE.exA, some RE.exB]) := RE.nf_pair (RE.nf_wordL _) (RE.nf_wordL _)
  have HN3 : Hid (RE.nfO [some RE.exA, some (RE.many (some RE.exB))]) := RE.nf_pair (RE.nf_wordL _) (RE.nf_many fun r hr => by cases hr; exact RE.nf_wordL _)
  have HE : Hid (∀ m, RE.exprN m = RE.exprN m) := fun _ => rfl
  clear hA3 hB3
  generalize uMod n 9 = m at *
  go_enter Tryz.func65, Tryz.ntmps65
  go_wp2_with fail
  refine (Word_any [97] (by simp) _).mono ?_
  rintro e w1 ⟨bA, rfl, hA, hB1⟩
  have hA : IsRe w1 bA RE.exA := hA
  have HA := Lib.hid hA
  have HB := Lib.hid hB1
  clear hA hB1
  go_wp2_with fail
  refine (Word_any [98] (by simp) _).mono ?_
  rintro e w2 ⟨bB, rfl, hB, hb2⟩
  have hB : IsRe w2 bB RE.exB := hB
  have HA2 := Lib.hid (HA.out.later (Nat.le_refl _) hb2)
  have HBB := Lib.hid hB
  have HB2 := Lib.hid (ext_step HB.out hb2)
  clear hB hb2 HA HB
  go_wp2_with fail
  refine (Word_any [97, 98] (by simp) _).mono ?_
  rintro e w3 ⟨b2, rfl, h2, hb3⟩
  have HA3 := Lib.hid (HA2.out.later (Nat.le_refl _) hb3)
  have HBB3 := Lib.hid (HBB.out.later (Nat.le_refl _) hb3)
  have H2 := Lib.hid h2
  have HB3 := Lib.hid (ext_step HB2.out hb3)
  clear h2 hb3 HA2 HBB HB2
  go_wp2_with fail
  refine (Many_any (ptr bA) (some RE.exA) _ ⟨bA, rfl, HA3.out⟩ HM1.out).mono ?_
  rintro e w4 ⟨b3, rfl, h3, hb4⟩
  have HA4 := Lib.hid (HA3.out.later (Nat.le_refl _) hb4)
  have HBB4 := Lib.hid (HBB3.out.later (Nat.le_refl _) hb4)
  have H24 := Lib.hid (H2.out.later (Nat.le_refl _) hb4)
  have H3 := Lib.hid h3
  have HB4 := Lib.hid (ext_step HB3.out hb4)
  clear h3 hb4 HA3 HBB3 H2 HB3
  go_wp2_with fail
  refine (Any_any (some ⟨w4.heap.size, 0, none⟩) 2 [some RE.exA, some RE.exB] _ (listO_two HA4.out HBB4.out) HN4.out HF4.out (by simp)).mono ?_
  rintro e w5 ⟨b4, rfl, h4, hb5⟩
  have hb5 : Below w4.heap.size w4 w5 := (re_alloc w4 _).trans (hb5.mono (by simp))
  have HA5 := Lib.hid (HA4.out.later (Nat.le_refl _) hb5)
  have HBB5 := Lib.hid (HBB4.out.later (Nat.le_refl _) hb5)
  have H25 := Lib.hid (H24.out.later (Nat.le_refl _) hb5)
  have H35 := Lib.hid (H3.out.later (Nat.le_refl _) hb5)
  have H4 := Lib.hid h4
  have HB5 := Lib.hid (ext_step HB4.out hb5)
  clear h4 hb5 HA4 HBB4 H24 H3 HB4
  go_wp2_with fail
  refine (Any_any (some ⟨w5.heap.size, 0, none⟩) 2 [some RE.exA, some RE.exB] _ (listO_two HA5.out HBB5.out) HN4.out HF4.out (by simp)).mono ?_
  rintro e w6 ⟨b5', rfl, h5', hb6⟩
  have hb6 : Below w5.heap.size w5 w6 := (re_alloc w5 _).trans (hb6.mono (by simp))
  have HA6 := Lib.hid (HA5.out.later (Nat.le_refl _) hb6)
  have HBB6 := Lib.hid (HBB5.out.later (Nat.le_refl _) hb6)
  have H26 := Lib.hid (H25.out.later (Nat.le_refl _) hb6)
  have H36 := Lib.hid (H35.out.later (Nat.le_refl _) hb6)
  have H46 := Lib.hid (H4.out.later (Nat.le_refl _) hb6)
  have H5' := Lib.hid h5'
  have HB6 := Lib.hid (ext_step HB5.out hb6)
  clear h5' hb6 HA5 HBB5 H25 H35 H4 HB5
  go_wp2_with fail
  refine (Many_any (ptr b5') (some (RE.anyL [some RE.exA, some RE.exB])) _ ⟨b5', rfl, H5'.out⟩ HM2.out).mono ?_
  rintro e w7 ⟨b5, rfl, h5, hb7⟩
  have HA7 := Lib.hid (HA6.out.later (Nat.le_refl _) hb7)
  have HBB7 := Lib.hid (HBB6.out.later (Nat.le_refl _) hb7)
  have H27 := Lib.hid (H26.out.later (Nat.le_refl _) hb7)
  have H37 := Lib.hid (H36.out.later (Nat.le_refl _) hb7)
  have H47 := Lib.hid (H46.out.later (Nat.le_refl _) hb7)
  have H5 := Lib.hid h5
  have HB7 := Lib.hid (ext_step HB6.out hb7)
  clear h5 hb7 HA6 HBB6 H26 H36 H46 HB6 H5'
  go_wp2_with fail
  refine (Many_any (ptr bB) (some RE.exB) _ ⟨bB, rfl, HBB7.out⟩ HM3.out).mono ?_
  rintro e w8 ⟨b6', rfl, h6', hb8⟩
  have HA8 := Lib.hid (HA7.out.later (Nat.le_refl _) hb8)
  have HBB8 := Lib.hid (HBB7.out.later (Nat.le_refl _) hb8)
  have H28 := Lib.hid (H27.out.later (Nat.le_refl _) hb8)
  have H38 := Lib.hid (H37.out.later (Nat.le_refl _) hb8)
  have H48 := Lib.hid (H47.out.later (Nat.le_refl _) hb8)
  have H58 := Lib.hid (H5.out.later (Nat.le_refl _) hb8)
  have H6' := Lib.hid h6'
  have HB8 := Lib.hid (ext_step HB7.out hb8)
  clear h6' hb8 HA7 HBB7 H27 H37 H47 HB7 H5
  go_wp2_with fail
  refine (Then_any (some ⟨w8.heap.size, 0, none⟩) 2 [some RE.exA, some (RE.many (some RE.exB))] _ (listO_two HA8.out H6'.out) HN3.out HF3.out (by simp)).mono ?_
  rintro e w9 ⟨b6, rfl, h6, hb9⟩
  have hb9 : Below w8.heap.size w8 w9 := (re_alloc w8 _).trans (hb9.mono (by simp))
  have HA9 := Lib.hid (HA8.out.later (Nat.le_refl _) hb9)
  have HBB9 := Lib.hid (HBB8.out.later (Nat.le_refl _) hb9)
  have H29 := Lib.hid (H28.out.later (Nat.le_refl _) hb9)
  have H39 := Lib.hid (H38.out.later (Nat.le_refl _) hb9)
  have H49 := Lib.hid (H48.out.later (Nat.le_refl _) hb9)
  have H59 := Lib.hid (H58.out.later (Nat.le_refl _) hb9)
  have H6 := Lib.hid h6
  have HB9 := Lib.hid (ext_step HB8.out hb9)
  clear h6 hb9 HA8 HBB8 H28 H38 H48 HB8 H58 H6'
  go_wp2_with fail
  refine (EmptyRe_any _).mono ?_
  rintro e w10 ⟨b7, rfl, h7, hb10⟩
  have HA10 := Lib.hid (HA9.out.later (Nat.le_refl _) hb10)
  have HBB10 := Lib.hid (HBB9.out.later (Nat.le_refl _) hb10)
  have H210 := Lib.hid (H29.out.later (Nat.le_refl _) hb10)
  have H310 := Lib.hid (H39.out.later (Nat.le_refl _) hb10)
  have H410 := Lib.hid (H49.out.later (Nat.le_refl _) hb10)
  have H510 := Lib.hid (H59.out.later (Nat.le_refl _) hb10)
  have H610 := Lib.hid (H6.out.later (Nat.le_refl _) hb10)
  have H7 := Lib.hid h7.is
  have HB10 := Lib.hid (ext_step HB9.out hb10)
  clear h7 hb10 HA9 HBB9 H29 H39 H49 HB9 H59 H6
  go_wp2_with fail
  refine (Word_any [59] (by simp) _).mono ?_
  rintro e w11 ⟨b8, rfl, h8, hb11⟩
  have hwo : ∀ (b : Nat) (r : RE), IsRe w10 b r → IsRe (w11.alloc (.cells #[ptr bA, ptr bB, ptr b2, ptr b3, ptr b4, ptr b5, ptr b6, ptr b7, ptr b8] 37)) b r := fun _ _ h => (h.later (Nat.le_refl _) hb11).later (Nat.le_refl _) (re_alloc w11 _)
  have HWO := Lib.hid hwo
  have H8 := Lib.hid (h8.later (Nat.le_refl _) (re_alloc w11 (.cells #[ptr bA, ptr bB, ptr b2, ptr b3, ptr b4, ptr b5, ptr b6, ptr b7, ptr b8] 37)))
  have HB11 : Hid (Below w.heap.size w (w11.alloc (.cells #[ptr bA, ptr bB, ptr b2, ptr b3, ptr b4, ptr b5, ptr b6, ptr b7, ptr b8] 37))) := ext_alloc (ext_step HB10.out hb11) _
  clear h8 hb11 hwo
  have hu := HU.out
  have hm : m = 0 ∨ m = 1 ∨ m = 2 ∨ m = 3 ∨ m = 4 ∨ m = 5 ∨ m = 6 ∨ m = 7 ∨ m = 8 := by have := HL.out; omega
  rcases hm with rfl | rfl | rfl | rfl | rfl | rfl | rfl | rfl | rfl
  all_goals
    go_wp2_with fail
    go_ret
  · exact ⟨bA, rfl, HWO.out _ _ HA10.out, HB11.out⟩
  · exact ⟨bB, rfl, HWO.out _ _ HBB10.out, HB11.out⟩
  · exact ⟨b2, rfl, HWO.out _ _ H210.out, HB11.out⟩
  · exact ⟨b3, rfl, HWO.out _ _ H310.out, HB11.out⟩
  · exact ⟨b4, rfl, HWO.out _ _ H410.out, HB11.out⟩
  · exact ⟨b5, rfl, HWO.out _ _ H510.out, HB11.out⟩
  · exact ⟨b6, rfl, HWO.out _ _ H610.out, HB11.out⟩
  · exact ⟨b7, rfl, HWO.out _ _ H7.out, HB11.out⟩
  · exact ⟨b8, rfl, H8.out, HB11.out⟩
end Go.Proofs.YticpjjmacmmpjaaGreatDoor
namespace Go.Proofs.YticpjjmacmmpjaaGreatDoor
open Go.RowKit
namespace TA
mutual
def zero : TA → TA | node _ o a n r t k ks => node 0 o a n r t k (zeros ks)
def zeros : List TA → List TA | [] => [] | k :: ks => zero k :: zeros ks
end
mutual
/-- the blocks of a term's nodes, each ahead of its parts' -/
def blocks : TA → List Nat | node b _ _ _ _ _ _ ks => b :: blockss ks
def blockss : List TA → List Nat | [] => [] | k :: ks => blocks k ++ blockss ks
end
theorem blocks_eq (t : TA) : t.blocks = t.b :: blockss t.kids := by cases t; rfl
theorem mem_blockss {l : List TA} {k : TA} (h : k ∈ l) : ∀ c ∈ k.blocks, c ∈ blockss l := by
  induction l with
  | nil => simp at h
  | cons a l ih =>
    intro c hc
    rcases List.mem_cons.1 h with rfl | h
    · simp [blockss, hc]
    · simp [blockss, ih h c hc]
end TA
mutual
/-- what is written into the block of another term leaves a term as it is -/
theorem IsTa.putT {w w' : World} {c : Nat} {cs : Array Value} {fr : Nat × Nat} (hc : w.heap[c]? = some (.cells cs 62 fr)) (hw : ∀ k, k < w.heap.size → k ≠ c → w'.heap[k]? = w.heap[k]?) : (t : TA) → c ∉ t.blocks → IsTa w t → IsTa w' t
  | .node b o a n r t k ks, hn, h => by
    obtain ⟨⟨rv, kp, cap, g1, g2, g3⟩, g4⟩ := h
    simp only [TA.blocks, List.mem_cons, not_or] at hn
    refine ⟨⟨rv, kp, cap, (hw _ (Array.getElem?_eq_some_iff.1 g1).1 fun e => hn.1 e.symm).trans g1, g2.put hc (by decide) (by decide) hw, g3.keep fun kb _ _ _ _ hr => hw kb (Array.getElem?_eq_some_iff.1 hr).1 fun e => ?_⟩, IsTas.putT hc hw ks hn.2 g4⟩
    rw [e, hc] at hr
    have := Option.some.inj hr
    injection this with _ e2 _
    exact absurd e2 (by decide)
theorem IsTas.putT {w w' : World} {c : Nat} {cs : Array Value} {fr : Nat × Nat} (hc : w.heap[c]? = some (.cells cs 62 fr)) (hw : ∀ k, k < w.heap.size → k ≠ c → w'.heap[k]? = w.heap[k]?) : (l : List TA) → c ∉ TA.blockss l → IsTas w l → IsTas w' l
  | [], _, _ => trivial
  | k :: l, hn, h => by
    simp only [TA.blockss, List.mem_append, not_or] at hn
    exact ⟨IsTa.putT hc hw k hn.1 h.1, IsTas.putT hc hw l hn.2 h.2⟩
end
namespace PL
mutual
def sz : PL → Nat | node _ _ _ ks => 1 + szs ks
def szs : List PL → Nat | [] => 0 | k :: ks => sz k + szs ks
end
theorem mem_szs {l : List PL} {k : PL} (h : k ∈ l) : k.sz ≤ szs l := by
  induction l with
  | nil => simp at h
  | cons a l ih =>
    rcases List.mem_cons.1 h with rfl | h
    · simp [szs]
    · have := ih h; simp [szs]; omega
theorem sz_eq (p : PL) : p.sz = 1 + szs p.kids := by cases p; rfl
end PL
/-- what is left of a number, of two -/
def bit1 (n : Int) : Nat := if bits .and .i64 n 1 = 0 then 0 else 1
theorem bit1_eq (n : Int) : bits .and .i64 n 1 = (bit1 n : Nat) := by
  have h : (BitVec.ofInt 64 n &&& BitVec.ofInt 64 1).toNat ≤ 1 := by
    rw [BitVec.toNat_and]
    exact Nat.le_trans Nat.and_le_right (by decide)
  have h2 : ∃ m : Nat, bits .and .i64 n 1 = (m : Int) ∧ m ≤ 1 := by
    refine ⟨_, ?_, h⟩
    show IntKind.i64.wrap ((BitVec.ofInt 64 n &&& BitVec.ofInt 64 1).toNat : Int) = _
    generalize (BitVec.ofInt 64 n &&& BitVec.ofInt 64 1).toNat = m at h
    rw [IntKind.wrap_i64]; omega
  obtain ⟨m, h3, h4⟩ := h2
  unfold bit1
  rw [h3]
  split <;> omega
theorem bit1_lt (n : Int) : bit1 n = 0 ∨ bit1 n = 1 := by unfold bit1; split <;> simp
def nameN (n : Int) : List UInt8 := if bit1 n = 0 then [107] else [99, 111, 108, 111, 114]
namespace PL
/-- a copy of the one letter -/
def cA : TA := TA.node 0 2 0 [] (some RE.exA) [] [] []
def mkTop (o : Nat) (w n : Int) (l : List TA) : TA :=
  TA.node 0 o 0 (if o = 3 then nameN n else []) (if o = 2 ∨ o = 16 ∨ o = 3 ∨ o = 4 ∨ o = 5 ∨ o = 17 then some (RE.exprN (uMod w 9)) else Option.none)
    (if o = 4 ∨ o = 6 ∨ o = 17 then textN n else []) (if o = 4 then textN (wrap64 (n.tdiv 7)) else if o = 5 then textN n else [])
    (if o = 7 ∨ o = 8 ∨ o = 11 ∨ o = 10 ∨ o = 14 ∨ o = 15 then [l.getD 0 cA, l.getD 1 cA] else if o = 9 ∨ o = 12 ∨ o = 13 then [l.getD 0 cA] else [])
mutual
def mk : PL → TA | node o w n ks => mkTop (2 + uMod o 16) w n (mks ks)
def mks : List PL → List TA | [] => [] | k :: ks => mk k :: mks ks
end
theorem mks_map (l : List PL) : mks l = l.map mk := by induction l with | nil => rfl | cons a l ih => simp [mks, ih]
theorem mk_eq (p : PL) : p.mk = mkTop p.opN p.w p.n (p.kids.map mk) := by cases p; rw [mk, mks_map]; rfl
def kidP (p : PL) (i : Nat) : TA := (p.kids.map mk).getD i cA
end PL
/-- a term, made -/
def TmPost (w : World) (m : TA) (e : Ending) (w' : World) : Prop := ∃ t : TA, e = .returned (ptr t.b) ∧ IsTa w' t ∧ t.zero = m ∧ Below w.heap.size w w' ∧ (∀ c ∈ t.blocks, w.heap.size ≤ c ∧ c < w'.heap.size) ∧ t.blocks.Nodup
theorem IsTa.blocks_lt {w : World} : (t : TA) → IsTa w t → ∀ c ∈ t.blocks, c < w.heap.size := by
  intro t ht c hc
  have key : ∀ (n : Nat) (t : TA), t.size ≤ n → IsTa w t → ∀ c ∈ t.blocks, c < w.heap.size := by
    intro n
    induction n with
    | zero => intro t hn; have := t.size_eq; omega
    | succ n ih =>
      intro t hn ht c hc
      rw [t.blocks_eq] at hc
      rcases List.mem_cons.1 hc with rfl | hc
      · exact ht.lt
      · have : ∀ l : List TA, (∀ k ∈ l, k.size ≤ n ∧ IsTa w k) → ∀ c ∈ TA.blockss l, c < w.heap.size := by
          intro l
          induction l with
          | nil => intro _ c hc; simp [TA.blockss] at hc
          | cons a l ih2 =>
            intro h c hc
            simp only [TA.blockss, List.mem_append] at hc
            rcases hc with hc | hc
            · exact ih a (h a (by simp)).1 (h a (by simp)).2 c hc
            · exact ih2 (fun k hk => h k (by simp [hk])) c hc
        exact this t.kids (fun k hk => ⟨by have := TA.mem_sizes hk; have := t.size_eq; omega, ht.open.2 k hk⟩) c hc
  exact key t.size t (Nat.le_refl _) ht c hc
set_option maxRecDepth 100000 in
set_option maxHeartbeats 2000000 in
theorem kid_any (p : PL) (sv : Value) (i : Nat) (hi : i < 2) (w : World) (hp : IsPl w sv p.kids) (hM : ∀ k ∈ p.kids, ∀ W sv', IsPl W sv' k.kids → Calls Tryz.prog 29 #[plV k sv'] W (TmPost W k.mk)) :
    Calls Tryz.prog 67 #[plV p sv, .int .i64 i] w (TmPost w (p.kidP i)) := by
  obtain ⟨a, cap, B, off, kv, rfl, ha, hml, hks⟩ := hp.open
  unfold maxLen at hml
  have hbox := re_alloc w (.cells #[.int .i64 p.op, .int .i64 p.w, .int .i64 p.n, .slice a p.kids.length cap] 55)
  by_cases hlt : i < p.kids.length
  · have hne : p.kids ≠ [] := fun e => by rw [e] at hlt; simp at hlt
    obtain rfl := ha hne
    have hmem : p.kids.getD i PL.none ∈ p.kids := by simp [List.getD, hlt]
    obtain ⟨c0, c1, c2, c3, hkp⟩ := hks i hlt
    have hbk := World.block_lt_of_cell? w _ c0
    have HE : Hid (p.kidP i = (p.kids.getD i PL.none).mk) := by show _ = _; simp [PL.kidP, List.getD, hlt]
    have HC := Lib.hid (hM _ hmem)
    have HKP := Lib.hid hkp
    have hlt' : (i : Int) < (p.kids.length : Int) := by omega
    have hbk0 := hbk
    rw [← hbox.cell (p := ⟨B, off + i * 4, none⟩) hbk] at c0
    rw [← hbox.cell (p := ⟨B, off + i * 4 + 1, none⟩) hbk] at c1
    rw [← hbox.cell (p := ⟨B, off + i * 4 + 2, none⟩) hbk] at c2
    rw [← hbox.cell (p := ⟨B, off + i * 4 + 3, none⟩) hbk] at c3
    generalize p.kidP i = out at *
    generalize p.kids.getD i PL.none = q at *
    generalize kv i = qv at *
    generalize p.kids.length = len at *
    clear hks hp hM ha hmem hne
    have HBX := Lib.hid hbox
    clear hbox
    go_enter Tryz.func67, Tryz.ntmps67
    go_wp2_with fail
    refine (HC.out _ _ (HKP.out.later HBX.out)).mono ?_
    rintro e w1 ⟨t, rfl, ht, hz, hb, hbl, hnd⟩
    go_wp2_with fail
    go_ret
    exact ⟨t, rfl, ht, hz.trans HE.out.symm, HBX.out.trans (hb.mono (by simp)), fun c hc => ⟨by have := (hbl c hc).1; simp at this; omega, (hbl c hc).2⟩, hnd⟩
  · have HE : Hid (p.kidP i = PL.cA) := by
      show _ = _
      simp [PL.kidP, List.getD, List.getElem?_eq_none (show (p.kids.map PL.mk).length ≤ i by simp; omega)]
    have hlt' : ¬ (i : Int) < (p.kids.length : Int) := by omega
    generalize p.kidP i = out at *
    generalize p.kids.length = len at *
    clear hks hp hM ha
    have HBX := Lib.hid hbox
    clear hbox
    go_enter Tryz.func67, Tryz.ntmps67
    go_wp2_with fail
    refine (Word_any [97] (by simp) _).mono ?_
    rintro e w1 ⟨rb, rfl, hA, hb⟩
    have hB := HBX.out.trans (hb.mono (by simp))
    have HB := Lib.hid hB
    have HA : Hid (IsRe w1 rb RE.exA) := hA
    clear hA hb hB
    go_wp2_with fail
    go_ret
    have hx := re_alloc w1 (.cells (tmCells 2 0 [] (ptr rb) [] [] (.slice none 0 0)) 62)
    refine ⟨TA.node w1.heap.size 2 0 [] (some RE.exA) [] [] [], rfl, ⟨⟨ptr rb, none, 0, heap_alloc_last _ _, ⟨rb, rfl, HA.out.later (Nat.le_refl _) hx⟩, .inl rfl⟩, trivial⟩, HE.out.symm ▸ rfl, ext_step HB.out hx, fun c hc => ?_, by simp [TA.blocks, TA.blockss]⟩
    simp only [TA.blocks, TA.blockss, List.mem_cons, List.not_mem_nil, or_false] at hc
    subst hc
    exact ⟨HB.out.size, by simp⟩
end Go.Proofs.YticpjjmacmmpjaaGreatDoor
namespace Go.Proofs.YticpjjmacmmpjaaGreatDoor
open Go.RowKit
theorem tmlevel_any (b o : Nat) (ho : o < 18) (w : World) (hc : w.cell? ⟨b, 0, none⟩ = some (.int .i64 (o : Nat))) : Calls Tryz.prog 143 #[ptr b] w fun e w' => e = .returned (.int .i64 (TA.lvl o : Nat)) ∧ w' = w := by
  have h : o = 7 ∨ o = 8 ∨ o = 11 ∨ o = 9 ∨ (¬ o = 7 ∧ ¬ o = 8 ∧ ¬ o = 11 ∧ ¬ o = 9) := by omega
  rcases h with rfl | rfl | rfl | rfl | ⟨h7, h8, h11, h9⟩
  any_goals
    go_enter Tryz.func143, Tryz.ntmps143
    go_wp2
    go_ret
    exact ⟨rfl, rfl⟩
  have HL : Hid (TA.lvl o = 4) := by show _ = _; simp [TA.lvl, h7, h8, h11, h9]
  have g7 : ((o : Int) == 7) = false := by rw [beq_eq_false_iff_ne]; omega
  have g8 : ((o : Int) == 8) = false := by rw [beq_eq_false_iff_ne]; omega
  have g11 : ((o : Int) == 11) = false := by rw [beq_eq_false_iff_ne]; omega
  have g9 : ((o : Int) == 9) = false := by rw [beq_eq_false_iff_ne]; omega
  generalize TA.lvl o = l at *
  clear h7 h8 h11 h9
  go_enter Tryz.func143, Tryz.ntmps143
  go_wp2
  go_ret
  exact ⟨by rw [HL.out]; rfl, rfl⟩
set_option maxRecDepth 100000 in
set_option maxHeartbeats 2000000 in
theorem tmin_any (t : TA) (l : Nat) (hl : l ≤ 4) (hok : t.ok) (hwt : t.wt ≤ 1099511627776) (w : World) (ht : IsTa w t) (hS : ∀ W, Below w.heap.size w W → Calls Tryz.prog 62 #[ptr t.b] W (StrPost t.str W)) :
    Calls Tryz.prog 108 #[ptr t.b, .int .i64 l] w (StrPost (TA.inn l t) w) := by
  obtain ⟨⟨rv, kp, cap, hn⟩, _⟩ := ht.open
  have HL := Lib.hid (tmlevel_any t.b t.op (TA.ok_top hok).1 w hn.cells.1)
  have HO := Lib.hid (hS w (Below.refl _ _))
  have HI : Hid (TA.inn l t = if TA.lvl t.op < l then [40] ++ t.str ++ [41] else t.str) := rfl
  have hlen := t.str_len
  clear hn ht hS hok
  generalize t.str = s at *
  generalize TA.inn l t = out at *
  generalize TA.lvl t.op = lv at *
  generalize t.wt = wt at *
  by_cases hlt : lv < l
  · have HE : Hid (out = [40] ++ s ++ [41]) := by show _ = _; rw [HI.out, if_pos hlt]
    have hlt' : (lv : Int) < (l : Int) := by omega
    go_enter Tryz.func108, Tryz.ntmps108
    go_wp2_with fail
    refine HL.out.mono ?_
    rintro e w' ⟨rfl, rfl⟩
    go_wp2_with fail
    refine HO.out.mono ?_
    rintro e w1 ⟨rfl, hb⟩
    go_wp2_with fail
    go_ret
    exact ⟨congrArg (fun s => Ending.returned (.string s)) (ByteArray.ext (by rw [HE.out]; simp)), hb⟩
  · have HE : Hid (out = s) := by show _ = _; rw [HI.out, if_neg hlt]
    have hlt' : ¬ (lv : Int) < (l : Int) := by omega
    go_enter Tryz.func108, Tryz.ntmps108
    go_wp2_with fail
    refine HL.out.mono ?_
    rintro e w' ⟨rfl, rfl⟩
    go_wp2_with fail
    refine HO.out.mono ?_
    rintro e w1 ⟨rfl, hb⟩
    go_wp2_with fail
    go_ret
    exact ⟨by rw [HE.out]; rfl, hb⟩
/-- what holds of the terms of a call: each is written so, in whatever world behind -/
def Strs (w : World) (ks : List TA) : Prop := ∀ k ∈ ks, ∀ W, Below w.heap.size w W → Calls Tryz.prog 62 #[ptr k.b] W (StrPost k.str W)
set_option maxRecDepth 100000 in
set_option maxHeartbeats 2000000 in
theorem tmarg_any (t : TA) (hok : t.ok) (hwt : t.wt ≤ 1099511627776) (w : World) (hT : Tab w) (ht : IsTa w t) (hS : Strs w t.kids) :
    Calls Tryz.prog 106 #[ptr t.b] w (StrPost (TA.arg t.re t.kids) w) := by
  obtain ⟨⟨rv, kp, cap, hn⟩, _⟩ := ht.open
  obtain ⟨c0, c1, c2, c3, c4, c5, c6⟩ := hn.cells
  have hre := hn.2.1
  have hrow := hn.2.2
  have hwe := t.wt_eq
  have hnf := (TA.ok_top hok).2.1
  clear c0 c1 c2 c4 c5 hn ht hok
  by_cases h1 : t.kids.length = 1
  · obtain ⟨k, hk⟩ : ∃ k, t.kids = [k] := List.length_eq_one_iff.1 h1
    rw [hk] at hrow hS c6
    obtain ⟨kb, ko, rfl, hc⟩ := hrow.at (by simp)
    have hp : w.cell? ⟨kb, ko, none⟩ = some (.pointer (some ⟨k.b, 0, none⟩)) := by have := hc 0 (by simp); simpa using this
    have HO := Lib.hid (hS k (by simp) w (Below.refl _ _))
    have HE : Hid (TA.arg t.re t.kids = k.str) := by show _ = _; rw [hk]; rfl
    generalize TA.arg t.re t.kids = out at *
    generalize t.b = b at *
    generalize k.b = kb' at *
    generalize k.str = s at *
    clear hre hS hc h1 hk hwe hnf hrow
    go_enter Tryz.func106, Tryz.ntmps106
    go_wp2_with fail
    refine HO.out.mono ?_
    rintro e w1 ⟨rfl, hb⟩
    go_wp2_with fail
    go_ret
    exact ⟨by rw [HE.out]; rfl, hb⟩
  · have HE : Hid (TA.arg t.re t.kids = [47] ++ RE.ofO t.re ++ [47]) := by
      show _ = _
      match t.kids, h1 with
      | [], _ => rfl
      | _ :: _ :: _, _ => rfl
    have h1' : ((t.kids.length : Int) == 1) = false := by rw [beq_eq_false_iff_ne]; omega
    have hsz : RE.sizeO t.re ≤ 1073741824 := by omega
    have HO := Lib.hid (Of_text rv t.re w hT hre hnf hsz)
    have hlen : (RE.ofO t.re).length ≤ 2404 * (1 + RE.sizeO t.re) := by
      cases t.re with
      | none => simp [RE.ofO]; omega
      | some x => have := RE.ofW_len x; simp only [RE.ofO, RE.sizeO]; omega
    generalize TA.arg t.re t.kids = out at *
    generalize RE.ofO t.re = s at *
    generalize RE.sizeO t.re = z at *
    generalize t.kids.length = n at *
    generalize t.b = b at *
    clear hre hS hrow h1 hnf
    go_enter Tryz.func106, Tryz.ntmps106
    go_wp2_with fail
    refine HO.out.mono ?_
    rintro e w1 ⟨rfl, hb⟩
    go_wp2_with fail
    go_ret
    exact ⟨congrArg (fun s => Ending.returned (.string s)) (ByteArray.ext (by rw [HE.out]; simp)), hb⟩
set_option maxRecDepth 100000 in
set_option maxHeartbeats 4000000 in
theorem tmpair_any (t : TA) (sign : List UInt8) (l : Nat) (hsl : sign.length ≤ 3) (hl : l = 0 ∨ l = 1 ∨ l = 2) (hok : t.ok) (hwt : t.wt ≤ 1099511627776) (w : World) (ht : IsTa w t) (hS : Strs w t.kids) :
    Calls Tryz.prog 107 #[ptr t.b, .string ⟨sign.toArray⟩, .int .i64 l] w (StrPost (TA.pair sign l t.kids) w) := by
  obtain ⟨⟨rv, kp, cap, hn⟩, hkt⟩ := ht.open
  obtain ⟨c0, c1, c2, c3, c4, c5, c6⟩ := hn.cells
  have hrow := hn.2.2
  have hwe := t.wt_eq
  have hko := TA.ok_kids hok
  clear c0 c1 c2 c3 c4 c5 hn ht hok
  by_cases h2 : t.kids.length = 2
  · obtain ⟨x, y, hk⟩ : ∃ x y, t.kids = [x, y] := by
      match hk : t.kids, h2 with
      | [x, y], _ => exact ⟨x, y, rfl⟩
    rw [hk] at hrow hS c6 hkt hko hwe
    obtain ⟨kb, ko, rfl, hc⟩ := hrow.at (by simp)
    have hp0 : w.cell? ⟨kb, ko, none⟩ = some (.pointer (some ⟨x.b, 0, none⟩)) := by have := hc 0 (by simp); simpa using this
    have hp1 : w.cell? ⟨kb, ko + 1, none⟩ = some (.pointer (some ⟨y.b, 0, none⟩)) := hc 1 (by simp)
    have hwx : x.wt + y.wt ≤ 1099511627776 := by simp only [TA.wts] at hwe; omega
    have HI0 : Hid (∀ W, Below w.heap.size w W → Calls Tryz.prog 108 #[ptr x.b, .int .i64 l] W (StrPost (TA.inn l x) W)) := fun W hb =>
      tmin_any x l (by omega) (hko x (by simp)) (by omega) W (IsTa.later hb x (hkt x (by simp))) fun W' hb' => hS x (by simp) W' (ext_step hb hb')
    have HI1 : Hid (∀ W, Below w.heap.size w W → Calls Tryz.prog 108 #[ptr y.b, .int .i64 ((l + 1 : Nat) : Int)] W (StrPost (TA.inn (l + 1) y) W)) := fun W hb =>
      tmin_any y (l + 1) (by omega) (hko y (by simp)) (by omega) W (IsTa.later hb y (hkt y (by simp))) fun W' hb' => hS y (by simp) W' (ext_step hb hb')
    have HE : Hid (TA.pair sign l t.kids = TA.inn l x ++ sign ++ TA.inn (l + 1) y) := by show _ = _; rw [hk]; rfl
    have hlx : (TA.inn l x).length ≤ x.wt := by have := x.str_len; unfold TA.inn; split <;> (try simp only [List.length_append, List.length_cons, List.length_nil]) <;> omega
    have hly : (TA.inn (l + 1) y).length ≤ y.wt := by have := y.str_len; unfold TA.inn; split <;> (try simp only [List.length_append, List.length_cons, List.length_nil]) <;> omega
    generalize TA.pair sign l t.kids = out at *
    generalize t.b = b at *
    generalize x.b = b0 at *
    generalize y.b = b1 at *
    generalize TA.inn l x = l0 at *
    generalize TA.inn (l + 1) y = l1 at *
    generalize x.wt = wx at *
    generalize y.wt = wy at *
    obtain ⟨S, hS2⟩ : ∃ S : World → Prop, ∀ W', S W' ↔ Below w.heap.size w W' := ⟨_, fun _ => Iff.rfl⟩
    have HS := Lib.hid hS2
    have cs : ∀ p : InC S, p.w.cell? ⟨b, 6, none⟩ = some (.slice (some ⟨kb, ko, none⟩) 2 cap) ∧ p.w.cell? ⟨kb, ko, none⟩ = some (.pointer (some ⟨b0, 0, none⟩)) ∧ p.w.cell? ⟨kb, ko + 1, none⟩ = some (.pointer (some ⟨b1, 0, none⟩)) := fun p => by
      have hb := (hS2 p.w).1 p.h
      exact ⟨by rw [hb.cell (p := ⟨b, 6, none⟩) (World.block_lt_of_cell? w _ c6)]; exact c6, by rw [hb.cell (p := ⟨kb, ko, none⟩) (World.block_lt_of_cell? w _ hp0)]; exact hp0, by rw [hb.cell (p := ⟨kb, ko + 1, none⟩) (World.block_lt_of_cell? w _ hp1)]; exact hp1⟩
    have hS0 : S w.drew := (hS2 _).2 (Below.refl _ _).drew
    have hne : Nonempty (InC S) := ⟨⟨_, hS0⟩⟩
    have HC0 : Hid (∀ (p : InC S) (li : Int), li = (l : Int) → Calls Tryz.prog 108 #[.pointer (some ⟨b0, 0, none⟩), .int .i64 li] p.w fun e w' => e = .returned (.string ⟨l0.toArray⟩) ∧ ∃ q : InC S, w' = q.w) := fun p li hli => by
      subst hli
      exact (HI0.out p.w ((hS2 _).1 p.h)).mono fun e w' ⟨he, hb⟩ => ⟨he, ⟨w', (hS2 _).2 (ext_step ((hS2 _).1 p.h) hb)⟩, rfl⟩
    have HC1 : Hid (∀ (p : InC S) (li : Int), li = ((l + 1 : Nat) : Int) → Calls Tryz.prog 108 #[.pointer (some ⟨b1, 0, none⟩), .int .i64 li] p.w fun e w' => e = .returned (.string ⟨l1.toArray⟩) ∧ ∃ q : InC S, w' = q.w) := fun p li hli => by
      subst hli
      exact (HI1.out p.w ((hS2 _).1 p.h)).mono fun e w' ⟨he, hb⟩ => ⟨he, ⟨w', (hS2 _).2 (ext_step ((hS2 _).1 p.h) hb)⟩, rfl⟩
    clear hS2 hS hc h2 hk hwe hkt hko hrow HI0 HI1
    rcases hl with rfl | rfl | rfl
    all_goals
      go_enter Tryz.func107, Tryz.ntmps107
      go_wp2_with fail
      clear c6 hp0 hp1
      refine wp_region_class S (by kernel_rfl) (by kernel_rfl) hS0 ?_
      repeat (go_big_quiet_step (first | (with_reducible exact HC0.out _ _ (by decide)) | (with_reducible exact HC1.out _ _ (by decide))))
      refine wpQuiet_nil ?_
      intro p
      have hb := (HS.out p.w).1 p.h
      go_wp2
      go_ret
      exact ⟨congrArg (fun s => Ending.returned (.string s)) (ByteArray.ext (by rw [HE.out]; simp)), hb⟩
  · have HE : Hid (TA.pair sign l t.kids = [40, 41]) := by
      show _ = _
      match t.kids, h2 with
      | [], _ => rfl
      | [_], _ => rfl
      | _ :: _ :: _ :: _, _ => rfl
    have h2' : ((t.kids.length : Int) != 2) = true := by rw [bne_iff_ne]; omega
    generalize TA.pair sign l t.kids = out at *
    generalize t.kids.length = n at *
    generalize t.b = b at *
    clear hS hrow h2 hkt hko
    go_enter Tryz.func107, Tryz.ntmps107
    go_wp2_with fail
    go_ret
    exact ⟨by rw [HE.out]; rfl, Below.refl _ _⟩
-- by cases of the op
theorem str_node (t : TA) : t.str = if t.op = 0 then t.name else if t.op = 1 then [47] ++ RE.ofO t.re ++ [47] else if t.op = 2 ∨ t.op = 16 then TA.word t.op ++ [32] ++ TA.arg t.re t.kids
    else if t.op = 3 then [107, 101, 121, 32] ++ t.name ++ [32] ++ TA.arg t.re t.kids
    else if t.op = 4 then [99, 111, 110, 115, 116, 32] ++ TA.arg t.re t.kids ++ [32] ++ quoteW t.text ++ [32] ++ quoteW t.back
    else if t.op = 5 then [100, 101, 108, 32] ++ TA.arg t.re t.kids ++ [32] ++ quoteW t.back
    else if t.op = 17 then [110, 111, 114, 109, 32] ++ TA.arg t.re t.kids ++ [32] ++ quoteW t.text
    else if t.op = 6 then [105, 110, 115, 32] ++ quoteW t.text
    else if t.op = 7 then TA.pair [32, 124, 32] 0 t.kids else if t.op = 8 then TA.pair [32, 46, 32] 1 t.kids else if t.op = 11 then TA.pair [32, 59, 32] 2 t.kids
    else if t.op = 9 then TA.star t.kids else TA.word t.op ++ [40] ++ Lib.join (TA.strs t.kids) [44, 32] ++ [41] := by cases t; rw [TA.str]; rfl
def PartsAt (w : World) (ks : List TA) (v i : Value) (wr : World) : Prop := ∃ k : Nat, k ≤ ks.length ∧ i = .int .i64 k ∧ OwnS w ((ks.take k).map TA.str) v wr
theorem tm_snoc (l : List TA) (k : Nat) (h : k < l.length) : l.take (k + 1) = l.take k ++ [l.getD k TA.none] := by
  rw [List.take_succ_eq_append_getElem h]; simp [List.getD, h]
theorem tm_dec : ∀ o, o < 18 → o = 0 ∨ o = 1 ∨ o = 2 ∨ o = 16 ∨ o = 3 ∨ o = 4 ∨ o = 5 ∨ o = 17 ∨ o = 6 ∨ o = 7 ∨ o = 8 ∨ o = 11 ∨ o = 9 ∨ o = 10 ∨ o = 12 ∨ o = 13 ∨ o = 14 ∨ o = 15 := by decide
set_option maxRecDepth 100000 in
set_option maxHeartbeats 8000000 in
theorem tmString_step (t : TA) (hok : t.ok) (hwt : t.wt ≤ 1099511627776) (w : World) (hT : Tab w) (hWo : WordsAt w) (ht : IsTa w t) (hS : Strs w t.kids) :
    Calls Tryz.prog 62 #[ptr t.b] w (StrPost t.str w) := by
  obtain ⟨⟨rv, kp, cap, hn⟩, hkt⟩ := ht.open
  obtain ⟨c0, c1, c2, c3, c4, c5, c6⟩ := hn.cells
  have hrow := hn.2.2
  have hwe := t.wt_eq
  have hok1 := TA.ok_top hok
  have hkw : ∀ k ∈ t.kids, k.wt ≤ TA.wts t.kids := fun k hk => TA.mem_wts hk
  have hnl : t.name.length ≤ 1099511627776 := by omega
  have hal : (TA.arg t.re t.kids).length ≤ 3000000000000 := by
    have h1 := TA.arg_len t.re t.kids
    have hr : (RE.ofO t.re).length ≤ 2404 * (1 + RE.sizeO t.re) := by
      cases t.re with
      | none => simp [RE.ofO]; omega
      | some x => have := RE.ofW_len x; simp only [RE.ofO, RE.sizeO]; omega
    omega
  have hrl : (RE.ofO t.re).length ≤ 3000000000000 := by
    cases hre : t.re with
    | none => simp [RE.ofO]
    | some x => rw [hre] at hwe; have := RE.ofW_len x; simp only [RE.ofO, RE.sizeO] at hwe ⊢; omega
  have hwl := TA.word_len t.op
  have hql : (quoteW t.text).length ≤ 3000000000000 := by have := bytesW_len t.text; simp [quoteW]; omega
  have hbl : (quoteW t.back).length ≤ 3000000000000 := by have := bytesW_len t.back; simp [quoteW]; omega
  have hsz : RE.sizeO t.re ≤ 1073741824 := by omega
  obtain ⟨S, hS2⟩ : ∃ S : World → Prop, ∀ W', S W' ↔ Below w.heap.size w W' := ⟨_, fun _ => Iff.rfl⟩
  have HS := Lib.hid hS2
  have HA : Hid (∀ p : InC S, Calls Tryz.prog 106 #[.pointer (some ⟨t.b, 0, none⟩)] p.w fun e w' => e = .returned (.string ⟨(TA.arg t.re t.kids).toArray⟩) ∧ ∃ q : InC S, w' = q.w) := fun p => by
    have hb := (hS2 p.w).1 p.h
    exact (tmarg_any t hok hwt p.w (hT.later hb) (IsTa.later hb t ht) fun k hk W hb' => hS k hk W (ext_step hb hb')).mono fun e w' ⟨he, hb'⟩ => ⟨he, ⟨w', (hS2 _).2 (ext_step hb hb')⟩, rfl⟩
  have HQT : Hid (∀ p : InC S, Calls Tryz.prog 51 #[.string ⟨t.text.toArray⟩] p.w fun e w' => e = .returned (.string ⟨(quoteW t.text).toArray⟩) ∧ ∃ q : InC S, w' = q.w) := fun p => by
    have hb := (hS2 p.w).1 p.h
    exact (Quote_any t.text (by omega) p.w).mono fun e w' ⟨he, hb'⟩ => ⟨he, ⟨w', (hS2 _).2 (ext_step hb hb')⟩, rfl⟩
  have HQB : Hid (∀ p : InC S, Calls Tryz.prog 51 #[.string ⟨t.back.toArray⟩] p.w fun e w' => e = .returned (.string ⟨(quoteW t.back).toArray⟩) ∧ ∃ q : InC S, w' = q.w) := fun p => by
    have hb := (hS2 p.w).1 p.h
    exact (Quote_any t.back (by omega) p.w).mono fun e w' ⟨he, hb'⟩ => ⟨he, ⟨w', (hS2 _).2 (ext_step hb hb')⟩, rfl⟩
  have HAW := Lib.hid (tmarg_any t hok hwt w hT ht hS)
  have HQW := Lib.hid (Quote_any t.text (by omega) w)
  have HOF := Lib.hid (Of_text rv t.re w hT hn.2.1 hok1.2.1 hsz)
  have HWD := Lib.hid (fun W (h : WordsAt W) => Word_op (t.op : Int) W h)
  have HWO := Lib.hid hWo
  have HP := fun sign l hsl hl => tmpair_any t sign l hsl hl hok hwt w ht hS
  have HP0 := Lib.hid (HP [32, 124, 32] 0 (by simp) (.inl rfl))
  have HP1 := Lib.hid (HP [32, 46, 32] 1 (by simp) (.inr (.inl rfl)))
  have HP2 := Lib.hid (HP [32, 59, 32] 2 (by simp) (.inr (.inr rfl)))
  have HSS := Lib.hid hS
  have HKT := Lib.hid hkt
  have HOUT := Lib.hid (str_node t)
  have HKO := Lib.hid (TA.ok_kids hok)
  have HKW := Lib.hid hkw
  have HROW := Lib.hid hrow
  have hle := t.str_len
  have HKN := Lib.hid hok1.2.2
  have hsl := TA.strs_len t.kids
  have hkl : t.kids.length ≤ 1099511627776 := by
    have : ∀ l : List TA, l.length ≤ TA.wts l := by
      intro l
      induction l with
      | nil => simp
      | cons a l ih => have := a.wt_eq; simp [TA.wts]; omega
    have := this t.kids
    omega
  have hjl := RE.join_len_le (TA.strs t.kids) [44, 32]
  simp only [List.length_cons, List.length_nil] at hjl
  have hwk : TA.wts t.kids ≤ 1099511627776 := by omega
  clear ht hn hS hkt hrow hT hWo hS2 HP hkw hwe
  have ho := tm_dec t.op hok1.1
  have hok0 : True := trivial
  clear hok hok1 hsz hwt
  generalize t.str = out at *
  generalize t.b = b at *
  generalize t.name = nm at *
  generalize TA.arg t.re t.kids = ar at *
  generalize RE.ofO t.re = ofr at *
  generalize quoteW t.text = qt at *
  generalize quoteW t.back = qb at *
  generalize t.text = tx at *
  generalize t.back = bk at *
  generalize t.at_ = at' at *
  generalize t.wt = wt at *
  generalize t.kids = ks at *
  generalize t.op = o at *
  rcases ho with rfl | rfl | rfl | rfl | rfl | rfl | rfl | rfl | rfl | rfl | rfl | rfl | rfl | rfl | rfl | rfl | rfl | rfl
  · have HE : Hid (out = nm) := by show _ = _; rw [HOUT.out]; rfl
    go_enter Tryz.func62, Tryz.ntmps62
    go_wp2_with fail
    go_ret
    exact ⟨congrArg (fun s => Ending.returned (.string s)) (ByteArray.ext (by rw [HE.out])), Below.refl _ _⟩
  · have HE : Hid (out = [47] ++ ofr ++ [47]) := by show _ = _; rw [HOUT.out]; rfl
    go_enter Tryz.func62, Tryz.ntmps62
    go_wp2_with fail
    refine HOF.out.mono ?_
    rintro e w1 ⟨rfl, hb1⟩
    go_wp2_with fail
    go_ret
    exact ⟨congrArg (fun s => Ending.returned (.string s)) (ByteArray.ext (by rw [HE.out]; simp)), hb1⟩
  · have HE : Hid (out = TA.word 2 ++ [32] ++ ar) := by show _ = _; rw [HOUT.out]; rfl
    go_enter Tryz.func62, Tryz.ntmps62
    go_wp2_with fail
    refine (HWD.out _ HWO.out).mono ?_
    rintro e w' ⟨rfl, rfl⟩
    change (TA.word 2).length ≤ 8 at hwl
    rw [show wordT ((2 : Nat) : Int) = TA.word 2 from rfl]
    generalize TA.word 2 = wd at *
    go_wp2_with fail
    refine HAW.out.mono ?_
    rintro e w1 ⟨rfl, hb1⟩
    go_wp2_with fail
    go_ret
    exact ⟨congrArg (fun s => Ending.returned (.string s)) (ByteArray.ext (by rw [HE.out]; simp)), hb1⟩
  · have HE : Hid (out = TA.word 16 ++ [32] ++ ar) := by show _ = _; rw [HOUT.out]; rfl
    go_enter Tryz.func62, Tryz.ntmps62
    go_wp2_with fail
    refine (HWD.out _ HWO.out).mono ?_
    rintro e w' ⟨rfl, rfl⟩
    change (TA.word 16).length ≤ 8 at hwl
    rw [show wordT ((16 : Nat) : Int) = TA.word 16 from rfl]
    generalize TA.word 16 = wd at *
    go_wp2_with fail
    refine HAW.out.mono ?_
    rintro e w1 ⟨rfl, hb1⟩
    go_wp2_with fail
    go_ret
    exact ⟨congrArg (fun s => Ending.returned (.string s)) (ByteArray.ext (by rw [HE.out]; simp)), hb1⟩
  · have HE : Hid (out = [107, 101, 121, 32] ++ nm ++ [32] ++ ar) := by show _ = _; rw [HOUT.out]; rfl
    have cs : ∀ p : InC S, p.w.cell? ⟨b, 2, none⟩ = some (.string ⟨nm.toArray⟩) := fun p => by
      have hb := (HS.out p.w).1 p.h
      exact (hb.cell (p := ⟨b, 2, none⟩) (World.block_lt_of_cell? w _ c2)).trans c2
    have hS0 : S w.drew := (HS.out _).2 (Below.refl _ _).drew
    have hne : Nonempty (InC S) := ⟨⟨_, hS0⟩⟩
    clear c1 c2 c3 c4 c5 c6
    go_enter Tryz.func62, Tryz.ntmps62
    go_wp2_with fail
    clear c0
    refine wp_region_class S (by kernel_rfl) (by kernel_rfl) hS0 ?_
    repeat (go_big_quiet_step (first | (with_reducible exact HA.out _)))
    refine wpQuiet_nil ?_
    intro p
    have hb := (HS.out p.w).1 p.h
    go_wp2
    go_ret
    exact ⟨congrArg (fun s => Ending.returned (.string s)) (ByteArray.ext (by rw [HE.out]; simp)), hb⟩
  · have HE : Hid (out = [99, 111, 110, 115, 116, 32] ++ ar ++ [32] ++ qt ++ [32] ++ qb) := by show _ = _; rw [HOUT.out]; rfl
    have cs : ∀ p : InC S, p.w.cell? ⟨b, 4, none⟩ = some (.string ⟨tx.toArray⟩) ∧ p.w.cell? ⟨b, 5, none⟩ = some (.string ⟨bk.toArray⟩) := fun p => by
      have hb := (HS.out p.w).1 p.h
      exact ⟨(hb.cell (p := ⟨b, 4, none⟩) (World.block_lt_of_cell? w _ c4)).trans c4, (hb.cell (p := ⟨b, 5, none⟩) (World.block_lt_of_cell? w _ c5)).trans c5⟩
    have hS0 : S w.drew := (HS.out _).2 (Below.refl _ _).drew
    have hne : Nonempty (InC S) := ⟨⟨_, hS0⟩⟩
    clear c1 c2 c3 c4 c5 c6
    go_enter Tryz.func62, Tryz.ntmps62
    go_wp2_with fail
    clear c0
    refine wp_region_class S (by kernel_rfl) (by kernel_rfl) hS0 ?_
    repeat (go_big_quiet_step (first | (with_reducible exact HA.out _) | (with_reducible exact HQT.out _) | (with_reducible exact HQB.out _)))
    refine wpQuiet_nil ?_
    intro p
    have hb := (HS.out p.w).1 p.h
    go_wp2
    go_ret
    exact ⟨congrArg (fun s => Ending.returned (.string s)) (ByteArray.ext (by rw [HE.out]; simp)), hb⟩
  · have HE : Hid (out = [100, 101, 108, 32] ++ ar ++ [32] ++ qb) := by show _ = _; rw [HOUT.out]; rfl
    have cs : ∀ p : InC S, p.w.cell? ⟨b, 5, none⟩ = some (.string ⟨bk.toArray⟩) := fun p => by
      have hb := (HS.out p.w).1 p.h
      exact (hb.cell (p := ⟨b, 5, none⟩) (World.block_lt_of_cell? w _ c5)).trans c5
    have hS0 : S w.drew := (HS.out _).2 (Below.refl _ _).drew
    have hne : Nonempty (InC S) := ⟨⟨_, hS0⟩⟩
    clear c1 c2 c3 c4 c5 c6
    go_enter Tryz.func62, Tryz.ntmps62
    go_wp2_with fail
    clear c0
    refine wp_region_class S (by kernel_rfl) (by kernel_rfl) hS0 ?_
    repeat (go_big_quiet_step (first | (with_reducible exact HA.out _) | (with_reducible exact HQB.out _)))
    refine wpQuiet_nil ?_
    intro p
    have hb := (HS.out p.w).1 p.h
    go_wp2
    go_ret
    exact ⟨congrArg (fun s => Ending.returned (.string s)) (ByteArray.ext (by rw [HE.out]; simp)), hb⟩
  · have HE : Hid (out = [110, 111, 114, 109, 32] ++ ar ++ [32] ++ qt) := by show _ = _; rw [HOUT.out]; rfl
    have cs : ∀ p : InC S, p.w.cell? ⟨b, 4, none⟩ = some (.string ⟨tx.toArray⟩) := fun p => by
      have hb := (HS.out p.w).1 p.h
      exact (hb.cell (p := ⟨b, 4, none⟩) (World.block_lt_of_cell? w _ c4)).trans c4
    have hS0 : S w.drew := (HS.out _).2 (Below.refl _ _).drew
    have hne : Nonempty (InC S) := ⟨⟨_, hS0⟩⟩
    clear c1 c2 c3 c4 c5 c6
    go_enter Tryz.func62, Tryz.ntmps62
    go_wp2_with fail
    clear c0
    refine wp_region_class S (by kernel_rfl) (by kernel_rfl) hS0 ?_
    repeat (go_big_quiet_step (first | (with_reducible exact HA.out _) | (with_reducible exact HQT.out _)))
    refine wpQuiet_nil ?_
    intro p
    have hb := (HS.out p.w).1 p.h
    go_wp2
    go_ret
    exact ⟨congrArg (fun s => Ending.returned (.string s)) (ByteArray.ext (by rw [HE.out]; simp)), hb⟩
  · have HE : Hid (out = [105, 110, 115, 32] ++ qt) := by show _ = _; rw [HOUT.out]; rfl
    go_enter Tryz.func62, Tryz.ntmps62
    go_wp2_with fail
    refine HQW.out.mono ?_
    rintro e w1 ⟨rfl, hb1⟩
    go_wp2_with fail
    go_ret
    exact ⟨congrArg (fun s => Ending.returned (.string s)) (ByteArray.ext (by rw [HE.out]; simp)), hb1⟩
  · have HE : Hid (out = TA.pair [32, 124, 32] 0 ks) := by show _ = _; rw [HOUT.out]; rfl
    go_enter Tryz.func62, Tryz.ntmps62
    go_wp2_with fail
    refine HP0.out.mono ?_
    rintro e w1 ⟨rfl, hb1⟩
    go_wp2_with fail
    go_ret
    exact ⟨congrArg (fun s => Ending.returned (.string s)) (ByteArray.ext (by rw [HE.out])), hb1⟩
  · have HE : Hid (out = TA.pair [32, 46, 32] 1 ks) := by show _ = _; rw [HOUT.out]; rfl
    go_enter Tryz.func62, Tryz.ntmps62
    go_wp2_with fail
    refine HP1.out.mono ?_
    rintro e w1 ⟨rfl, hb1⟩
    go_wp2_with fail
    go_ret
    exact ⟨congrArg (fun s => Ending.returned (.string s)) (ByteArray.ext (by rw [HE.out])), hb1⟩
  · have HE : Hid (out = TA.pair [32, 59, 32] 2 ks) := by show _ = _; rw [HOUT.out]; rfl
    go_enter Tryz.func62, Tryz.ntmps62
    go_wp2_with fail
    refine HP2.out.mono ?_
    rintro e w1 ⟨rfl, hb1⟩
    go_wp2_with fail
    go_ret
    exact ⟨congrArg (fun s => Ending.returned (.string s)) (ByteArray.ext (by rw [HE.out])), hb1⟩
  · -- star
    by_cases h1 : ks.length = 1
    · obtain ⟨k, rfl⟩ : ∃ k, ks = [k] := List.length_eq_one_iff.1 h1
      obtain ⟨kb, ko, rfl, hc⟩ := HROW.out.at (by simp)
      have hp : w.cell? ⟨kb, ko, none⟩ = some (.pointer (some ⟨k.b, 0, none⟩)) := by have := hc 0 (by simp); simpa using this
      have hkw2 : k.wt ≤ 1099511627776 := by simp only [TA.wts] at hwk; omega
      have HI := Lib.hid (tmin_any k 3 (by omega) (HKO.out k (by simp)) hkw2 w (HKT.out k (by simp)) fun W hb => HSS.out k (by simp) W hb)
      have HE : Hid (out = TA.inn 3 k ++ [42]) := by show _ = _; rw [HOUT.out]; rfl
      have hlx : (TA.inn 3 k).length ≤ k.wt := by have := k.str_len; unfold TA.inn; split <;> (try simp only [List.length_append, List.length_cons, List.length_nil]) <;> omega
      generalize TA.inn 3 k = l0 at *
      generalize k.b = b0 at *
      generalize k.wt = wk at *
      clear hc h1
      go_enter Tryz.func62, Tryz.ntmps62
      go_wp2_with fail
      refine HI.out.mono ?_
      rintro e w1 ⟨rfl, hb1⟩
      go_wp2_with fail
      go_ret
      exact ⟨congrArg (fun s => Ending.returned (.string s)) (ByteArray.ext (by rw [HE.out]; simp)), hb1⟩
    · have HE : Hid (out = [40, 41]) := by
        show _ = _
        rw [HOUT.out]
        match ks, h1 with
        | [], _ => rfl
        | _ :: _ :: _, _ => rfl
      have h1' : ((ks.length : Int) == 1) = false := by rw [beq_eq_false_iff_ne]; omega
      clear h1
      go_enter Tryz.func62, Tryz.ntmps62
      go_wp2_with fail
      go_ret
      exact ⟨by rw [HE.out]; rfl, Below.refl _ _⟩
  · have hne := HKN.out (by omega)
    have HNE := Lib.hid hne
    have HE : Hid (out = TA.word 10 ++ [40] ++ Lib.join (ks.map TA.str) [44, 32] ++ [41]) := by show _ = _; rw [HOUT.out, ← TA.strs_map]; rfl
    obtain ⟨kb, ko, rfl, hc⟩ := HROW.out.at hne
    have HC := Lib.hid hc
    obtain ⟨i0, hi, hz0, hz1, hz2⟩ := info_parts infoStr'
    have HI := Lib.hid hi; have HZ0 := Lib.hid hz0; have HZ1 := Lib.hid hz1; have HZ2 := Lib.hid hz2
    rw [TA.strs_map] at hjl hsl
    change (TA.word 10).length ≤ 8 at hwl
    have HWE : Hid (wordT ((10 : Nat) : Int) = TA.word 10) := rfl
    generalize TA.word 10 = wd at *
    clear hne hc hi hz0 hz1 hz2
    go_enter Tryz.func62, Tryz.ntmps62
    go_wp2_with fail
    go_loopw [3, 134] (fun v i wr => PartsAt w ks v i wr) (fun _ i _ => ks.length - (intOf i).toNat)
    case atStart => exact ⟨0, by omega, rfl, OwnS.nil w⟩
    case round =>
      obtain ⟨k, hk, rfl, hW⟩ := hrel
      by_cases hlt : k < ks.length
      · have hp := HC.out k hlt
        have hkbl := World.block_lt_of_cell? w _ hp
        rw [← hW.bel.cell (p := ⟨kb, ko + k, none⟩) hkbl] at hp
        have hmem : ks.getD k TA.none ∈ ks := by simp [List.getD, hlt]
        have HCL := Lib.hid (HSS.out _ hmem wr hW.bel)
        have HNX : Hid ((ks.take (k + 1)).map TA.str = (ks.take k).map TA.str ++ [(ks.getD k TA.none).str]) := by
          show _ = _
          rw [tm_snoc ks k hlt, List.map_append]; rfl
        have hpl : ((ks.take k).map TA.str).length ≤ 1099511627776 := by simp; omega
        generalize (ks.take k).map TA.str = ps at *
        generalize (ks.getD k TA.none).str = tt at *
        generalize (ks.getD k TA.none).b = b1 at *
        have HW := Lib.hid hW
        clear hW hmem
        go_wp2_with fail
        refine HCL.out.mono ?_
        rintro e w1 ⟨rfl, hb1⟩
        have hW1 := HW.out.later hb1
        go_wp2_with (at_builtin; refine wpList_append_lies _ rfl _ _ _ rfl w.heap.size 9 i0 _ 1 16 Tryz.underlying23 HI.out HZ0.out HZ1.out HZ2.out rfl (by omega) u3 ps.length (ps.map strV) rfl (hW1.own.alloc _) ⟨w1.heap.size, 0, none⟩ 1 1 [strV tt] rfl rfl (World.news_of_block (cs := #[strV tt]) (t := 9) (fr := (0, 0)) (heap_alloc_last w1 _)) (strV_one [tt]) (by omega) (by unfold maxLen; omega) (by omega) (by have := hW1.bel.size; simp; omega) (w1.heap.size + 1) (by simp) ?_; intro g5 cp5 W9 hown9 hg9 hat9 hlt9)
        have hW9 := (hW1.later (re_alloc w1 _)).appended hown9 hg9
        rw [← HNX.out] at hW9
        have HW9 := Lib.hid hW9
        clear hW9 hown9 hg9 hat9 hW1
        go_wp2
        go_roundw
        case rel => exact ⟨k + 1, by omega, by go_num, HW9.out⟩
        case measure => simp [intOf]; omega
      · obtain rfl : k = ks.length := by omega
        rw [List.take_length] at hW
        have HJ := Lib.hid (hW.join (by simpa using HNE.out) [44, 32] (by simp; omega) (by omega))
        have HB := Lib.hid hW.bel
        have c0' : wr.cell? ⟨b, 0, none⟩ = some (.int .i64 (10 : Nat)) := (hW.bel.cell (p := ⟨b, 0, none⟩) (World.block_lt_of_cell? w _ c0)).trans c0
        have HWW := Lib.hid (HWD.out wr (HWO.out.later hW.bel))
        clear hW
        generalize Lib.join (ks.map TA.str) [44, 32] = jo at *
        go_wp2_with fail
        refine HWW.out.mono ?_
        rintro e w' ⟨rfl, rfl⟩
        rw [HWE.out]
        go_wp2_with fail
        refine HJ.out.mono ?_
        rintro e w1 ⟨rfl, hb1⟩
        go_wp2_with fail
        go_ret
        exact ⟨congrArg (fun s => Ending.returned (.string s)) (ByteArray.ext (by rw [HE.out]; simp)), ext_step HB.out hb1⟩
  · have hne := HKN.out (by omega)
    have HNE := Lib.hid hne
    have HE : Hid (out = TA.word 12 ++ [40] ++ Lib.join (ks.map TA.str) [44, 32] ++ [41]) := by show _ = _; rw [HOUT.out, ← TA.strs_map]; rfl
    obtain ⟨kb, ko, rfl, hc⟩ := HROW.out.at hne
    have HC := Lib.hid hc
    obtain ⟨i0, hi, hz0, hz1, hz2⟩ := info_parts infoStr'
    have HI := Lib.hid hi; have HZ0 := Lib.hid hz0; have HZ1 := Lib.hid hz1; have HZ2 := Lib.hid hz2
    rw [TA.strs_map] at hjl hsl
    change (TA.word 12).length ≤ 8 at hwl
    have HWE : Hid (wordT ((12 : Nat) : Int) = TA.word 12) := rfl
    generalize TA.word 12 = wd at *
    clear hne hc hi hz0 hz1 hz2
    go_enter Tryz.func62, Tryz.ntmps62
    go_wp2_with fail
    go_loopw [3, 134] (fun v i wr => PartsAt w ks v i wr) (fun _ i _ => ks.length - (intOf i).toNat)
    case atStart => exact ⟨0, by omega, rfl, OwnS.nil w⟩
    case round =>
      obtain ⟨k, hk, rfl, hW⟩ := hrel
      by_cases hlt : k < ks.length
      · have hp := HC.out k hlt
        have hkbl := World.block_lt_of_cell? w _ hp
        rw [← hW.bel.cell (p := ⟨kb, ko + k, none⟩) hkbl] at hp
        have hmem : ks.getD k TA.none ∈ ks := by simp [List.getD, hlt]
        have HCL := Lib.hid (HSS.out _ hmem wr hW.bel)
        have HNX : Hid ((ks.take (k + 1)).map TA.str = (ks.take k).map TA.str ++ [(ks.getD k TA.none).str]) := by
          show _ = _
          rw [tm_snoc ks k hlt, List.map_append]; rfl
        have hpl : ((ks.take k).map TA.str).length ≤ 1099511627776 := by simp; omega
        generalize (ks.take k).map TA.str = ps at *
        generalize (ks.getD k TA.none).str = tt at *
        generalize (ks.getD k TA.none).b = b1 at *
        have HW := Lib.hid hW
        clear hW hmem
        go_wp2_with fail
        refine HCL.out.mono ?_
        rintro e w1 ⟨rfl, hb1⟩
        have hW1 := HW.out.later hb1
        go_wp2_with (at_builtin; refine wpList_append_lies _ rfl _ _ _ rfl w.heap.size 9 i0 _ 1 16 Tryz.underlying23 HI.out HZ0.out HZ1.out HZ2.out rfl (by omega) u3 ps.length (ps.map strV) rfl (hW1.own.alloc _) ⟨w1.heap.size, 0, none⟩ 1 1 [strV tt] rfl rfl (World.news_of_block (cs := #[strV tt]) (t := 9) (fr := (0, 0)) (heap_alloc_last w1 _)) (strV_one [tt]) (by omega) (by unfold maxLen; omega) (by omega) (by have := hW1.bel.size; simp; omega) (w1.heap.size + 1) (by simp) ?_; intro g5 cp5 W9 hown9 hg9 hat9 hlt9)
        have hW9 := (hW1.later (re_alloc w1 _)).appended hown9 hg9
        rw [← HNX.out] at hW9
        have HW9 := Lib.hid hW9
        clear hW9 hown9 hg9 hat9 hW1
        go_wp2
        go_roundw
        case rel => exact ⟨k + 1, by omega, by go_num, HW9.out⟩
        case measure => simp [intOf]; omega
      · obtain rfl : k = ks.length := by omega
        rw [List.take_length] at hW
        have HJ := Lib.hid (hW.join (by simpa using HNE.out) [44, 32] (by simp; omega) (by omega))
        have HB := Lib.hid hW.bel
        have c0' : wr.cell? ⟨b, 0, none⟩ = some (.int .i64 (12 : Nat)) := (hW.bel.cell (p := ⟨b, 0, none⟩) (World.block_lt_of_cell? w _ c0)).trans c0
        have HWW := Lib.hid (HWD.out wr (HWO.out.later hW.bel))
        clear hW
        generalize Lib.join (ks.map TA.str) [44, 32] = jo at *
        go_wp2_with fail
        refine HWW.out.mono ?_
        rintro e w' ⟨rfl, rfl⟩
        rw [HWE.out]
        go_wp2_with fail
        refine HJ.out.mono ?_
        rintro e w1 ⟨rfl, hb1⟩
        go_wp2_with fail
        go_ret
        exact ⟨congrArg (fun s => Ending.returned (.string s)) (ByteArray.ext (by rw [HE.out]; simp)), ext_step HB.out hb1⟩
  · have hne := HKN.out (by omega)
    have HNE := Lib.hid hne
    have HE : Hid (out = TA.word 13 ++ [40] ++ Lib.join (ks.map TA.str) [44, 32] ++ [41]) := by show _ = _; rw [HOUT.out, ← TA.strs_map]; rfl
    obtain ⟨kb, ko, rfl, hc⟩ := HROW.out.at hne
    have HC := Lib.hid hc
    obtain ⟨i0, hi, hz0, hz1, hz2⟩ := info_parts infoStr'
    have HI := Lib.hid hi; have HZ0 := Lib.hid hz0; have HZ1 := Lib.hid hz1; have HZ2 := Lib.hid hz2
    rw [TA.strs_map] at hjl hsl
    change (TA.word 13).length ≤ 8 at hwl
    have HWE : Hid (wordT ((13 : Nat) : Int) = TA.word 13) := rfl
    generalize TA.word 13 = wd at *
    clear hne hc hi hz0 hz1 hz2
    go_enter Tryz.func62, Tryz.ntmps62
    go_wp2_with fail
    go_loopw [3, 134] (fun v i wr => PartsAt w ks v i wr) (fun _ i _ => ks.length - (intOf i).toNat)
    case atStart => exact ⟨0, by omega, rfl, OwnS.nil w⟩
    case round =>
      obtain ⟨k, hk, rfl, hW⟩ := hrel
      by_cases hlt : k < ks.length
      · have hp := HC.out k hlt
        have hkbl := World.block_lt_of_cell? w _ hp
        rw [← hW.bel.cell (p := ⟨kb, ko + k, none⟩) hkbl] at hp
        have hmem : ks.getD k TA.none ∈ ks := by simp [List.getD, hlt]
        have HCL := Lib.hid (HSS.out _ hmem wr hW.bel)
        have HNX : Hid ((ks.take (k + 1)).map TA.str = (ks.take k).map TA.str ++ [(ks.getD k TA.none).str]) := by
          show _ = _
          rw [tm_snoc ks k hlt, List.map_append]; rfl
        have hpl : ((ks.take k).map TA.str).length ≤ 1099511627776 := by simp; omega
        generalize (ks.take k).map TA.str = ps at *
        generalize (ks.getD k TA.none).str = tt at *
        generalize (ks.getD k TA.none).b = b1 at *
        have HW := Lib.hid hW
        clear hW hmem
        go_wp2_with fail
        refine HCL.out.mono ?_
        rintro e w1 ⟨rfl, hb1⟩
        have hW1 := HW.out.later hb1
        go_wp2_with (at_builtin; refine wpList_append_lies _ rfl _ _ _ rfl w.heap.size 9 i0 _ 1 16 Tryz.underlying23 HI.out HZ0.out HZ1.out HZ2.out rfl (by omega) u3 ps.length (ps.map strV) rfl (hW1.own.alloc _) ⟨w1.heap.size, 0, none⟩ 1 1 [strV tt] rfl rfl (World.news_of_block (cs := #[strV tt]) (t := 9) (fr := (0, 0)) (heap_alloc_last w1 _)) (strV_one [tt]) (by omega) (by unfold maxLen; omega) (by omega) (by have := hW1.bel.size; simp; omega) (w1.heap.size + 1) (by simp) ?_; intro g5 cp5 W9 hown9 hg9 hat9 hlt9)
        have hW9 := (hW1.later (re_alloc w1 _)).appended hown9 hg9
        rw [← HNX.out] at hW9
        have HW9 := Lib.hid hW9
        clear hW9 hown9 hg9 hat9 hW1
        go_wp2
        go_roundw
        case rel => exact ⟨k + 1, by omega, by go_num, HW9.out⟩
        case measure => simp [intOf]; omega
      · obtain rfl : k = ks.length := by omega
        rw [List.take_length] at hW
        have HJ := Lib.hid (hW.join (by simpa using HNE.out) [44, 32] (by simp; omega) (by omega))
        have HB := Lib.hid hW.bel
        have c0' : wr.cell? ⟨b, 0, none⟩ = some (.int .i64 (13 : Nat)) := (hW.bel.cell (p := ⟨b, 0, none⟩) (World.block_lt_of_cell? w _ c0)).trans c0
        have HWW := Lib.hid (HWD.out wr (HWO.out.later hW.bel))
        clear hW
        generalize Lib.join (ks.map TA.str) [44, 32] = jo at *
        go_wp2_with fail
        refine HWW.out.mono ?_
        rintro e w' ⟨rfl, rfl⟩
        rw [HWE.out]
        go_wp2_with fail
        refine HJ.out.mono ?_
        rintro e w1 ⟨rfl, hb1⟩
        go_wp2_with fail
        go_ret
        exact ⟨congrArg (fun s => Ending.returned (.string s)) (ByteArray.ext (by rw [HE.out]; simp)), ext_step HB.out hb1⟩
  · have hne := HKN.out (by omega)
    have HNE := Lib.hid hne
    have HE : Hid (out = TA.word 14 ++ [40] ++ Lib.join (ks.map TA.str) [44, 32] ++ [41]) := by show _ = _; rw [HOUT.out, ← TA.strs_map]; rfl
    obtain ⟨kb, ko, rfl, hc⟩ := HROW.out.at hne
    have HC := Lib.hid hc
    obtain ⟨i0, hi, hz0, hz1, hz2⟩ := info_parts infoStr'
    have HI := Lib.hid hi; have HZ0 := Lib.hid hz0; have HZ1 := Lib.hid hz1; have HZ2 := Lib.hid hz2
    rw [TA.strs_map] at hjl hsl
    change (TA.word 14).length ≤ 8 at hwl
    have HWE : Hid (wordT ((14 : Nat) : Int) = TA.word 14) := rfl
    generalize TA.word 14 = wd at *
    clear hne hc hi hz0 hz1 hz2
    go_enter Tryz.func62, Tryz.ntmps62
    go_wp2_with fail
    go_loopw [3, 134] (fun v i wr => PartsAt w ks v i wr) (fun _ i _ => ks.length - (intOf i).toNat)
    case atStart => exact ⟨0, by omega, rfl, OwnS.nil w⟩
    case round =>
      obtain ⟨k, hk, rfl, hW⟩ := hrel
      by_cases hlt : k < ks.length
      · have hp := HC.out k hlt
        have hkbl := World.block_lt_of_cell? w _ hp
        rw [← hW.bel.cell (p := ⟨kb, ko + k, none⟩) hkbl] at hp
        have hmem : ks.getD k TA.none ∈ ks := by simp [List.getD, hlt]
        have HCL := Lib.hid (HSS.out _ hmem wr hW.bel)
        have HNX : Hid ((ks.take (k + 1)).map TA.str = (ks.take k).map TA.str ++ [(ks.getD k TA.none).str]) := by
          show _ = _
          rw [tm_snoc ks k hlt, List.map_append]; rfl
        have hpl : ((ks.take k).map TA.str).length ≤ 1099511627776 := by simp; omega
        generalize (ks.take k).map TA.str = ps at *
        generalize (ks.getD k TA.none).str = tt at *
        generalize (ks.getD k TA.none).b = b1 at *
        have HW := Lib.hid hW
        clear hW hmem
        go_wp2_with fail
        refine HCL.out.mono ?_
        rintro e w1 ⟨rfl, hb1⟩
        have hW1 := HW.out.later hb1
        go_wp2_with (at_builtin; refine wpList_append_lies _ rfl _ _ _ rfl w.heap.size 9 i0 _ 1 16 Tryz.underlying23 HI.out HZ0.out HZ1.out HZ2.out rfl (by omega) u3 ps.length (ps.map strV) rfl (hW1.own.alloc _) ⟨w1.heap.size, 0, none⟩ 1 1 [strV tt] rfl rfl (World.news_of_block (cs := #[strV tt]) (t := 9) (fr := (0, 0)) (heap_alloc_last w1 _)) (strV_one [tt]) (by omega) (by unfold maxLen; omega) (by omega) (by have := hW1.bel.size; simp; omega) (w1.heap.size + 1) (by simp) ?_; intro g5 cp5 W9 hown9 hg9 hat9 hlt9)
        have hW9 := (hW1.later (re_alloc w1 _)).appended hown9 hg9
        rw [← HNX.out] at hW9
        have HW9 := Lib.hid hW9
        clear hW9 hown9 hg9 hat9 hW1
        go_wp2
        go_roundw
        case rel => exact ⟨k + 1, by omega, by go_num, HW9.out⟩
        case measure => simp [intOf]; omega
      · obtain rfl : k = ks.length := by omega
        rw [List.take_length] at hW
        have HJ := Lib.hid (hW.join (by simpa using HNE.out) [44, 32] (by simp; omega) (by omega))
        have HB := Lib.hid hW.bel
        have c0' : wr.cell? ⟨b, 0, none⟩ = some (.int .i64 (14 : Nat)) := (hW.bel.cell (p := ⟨b, 0, none⟩) (World.block_lt_of_cell? w _ c0)).trans c0
        have HWW := Lib.hid (HWD.out wr (HWO.out.later hW.bel))
        clear hW
        generalize Lib.join (ks.map TA.str) [44, 32] = jo at *
        go_wp2_with fail
        refine HWW.out.mono ?_
        rintro e w' ⟨rfl, rfl⟩
        rw [HWE.out]
        go_wp2_with fail
        refine HJ.out.mono ?_
        rintro e w1 ⟨rfl, hb1⟩
        go_wp2_with fail
        go_ret
        exact ⟨congrArg (fun s => Ending.returned (.string s)) (ByteArray.ext (by rw [HE.out]; simp)), ext_step HB.out hb1⟩
  · have hne := HKN.out (by omega)
    have HNE := Lib.hid hne
    have HE : Hid (out = TA.word 15 ++ [40] ++ Lib.join (ks.map TA.str) [44, 32] ++ [41]) := by show _ = _; rw [HOUT.out, ← TA.strs_map]; rfl
    obtain ⟨kb, ko, rfl, hc⟩ := HROW.out.at hne
    have HC := Lib.hid hc
    obtain ⟨i0, hi, hz0, hz1, hz2⟩ := info_parts infoStr'
    have HI := Lib.hid hi; have HZ0 := Lib.hid hz0; have HZ1 := Lib.hid hz1; have HZ2 := Lib.hid hz2
    rw [TA.strs_map] at hjl hsl
    change (TA.word 15).length ≤ 8 at hwl
    have HWE : Hid (wordT ((15 : Nat) : Int) = TA.word 15) := rfl
    generalize TA.word 15 = wd at *
    clear hne hc hi hz0 hz1 hz2
    go_enter Tryz.func62, Tryz.ntmps62
    go_wp2_with fail
    go_loopw [3, 134] (fun v i wr => PartsAt w ks v i wr) (fun _ i _ => ks.length - (intOf i).toNat)
    case atStart => exact ⟨0, by omega, rfl, OwnS.nil w⟩
    case round =>
      obtain ⟨k, hk, rfl, hW⟩ := hrel
      by_cases hlt : k < ks.length
      · have hp := HC.out k hlt
        have hkbl := World.block_lt_of_cell? w _ hp
        rw [← hW.bel.cell (p := ⟨kb, ko + k, none⟩) hkbl] at hp
        have hmem : ks.getD k TA.none ∈ ks := by simp [List.getD, hlt]
        have HCL := Lib.hid (HSS.out _ hmem wr hW.bel)
        have HNX : Hid ((ks.take (k + 1)).map TA.str = (ks.take k).map TA.str ++ [(ks.getD k TA.none).str]) := by
          show _ = _
          rw [tm_snoc ks k hlt, List.map_append]; rfl
        have hpl : ((ks.take k).map TA.str).length ≤ 1099511627776 := by simp; omega
        generalize (ks.take k).map TA.str = ps at *
        generalize (ks.getD k TA.none).str = tt at *
        generalize (ks.getD k TA.none).b = b1 at *
        have HW := Lib.hid hW
        clear hW hmem
        go_wp2_with fail
        refine HCL.out.mono ?_
        rintro e w1 ⟨rfl, hb1⟩
        have hW1 := HW.out.later hb1
        go_wp2_with (at_builtin; refine wpList_append_lies _ rfl _ _ _ rfl w.heap.size 9 i0 _ 1 16 Tryz.underlying23 HI.out HZ0.out HZ1.out HZ2.out rfl (by omega) u3 ps.length (ps.map strV) rfl (hW1.own.alloc _) ⟨w1.heap.size, 0, none⟩ 1 1 [strV tt] rfl rfl (World.news_of_block (cs := #[strV tt]) (t := 9) (fr := (0, 0)) (heap_alloc_last w1 _)) (strV_one [tt]) (by omega) (by unfold maxLen; omega) (by omega) (by have := hW1.bel.size; simp; omega) (w1.heap.size + 1) (by simp) ?_; intro g5 cp5 W9 hown9 hg9 hat9 hlt9)
        have hW9 := (hW1.later (re_alloc w1 _)).appended hown9 hg9
        rw [← HNX.out] at hW9
        have HW9 := Lib.hid hW9
        clear hW9 hown9 hg9 hat9 hW1
        go_wp2
        go_roundw
        case rel => exact ⟨k + 1, by omega, by go_num, HW9.out⟩
        case measure => simp [intOf]; omega
      · obtain rfl : k = ks.length := by omega
        rw [List.take_length] at hW
        have HJ := Lib.hid (hW.join (by simpa using HNE.out) [44, 32] (by simp; omega) (by omega))
        have HB := Lib.hid hW.bel
        have c0' : wr.cell? ⟨b, 0, none⟩ = some (.int .i64 (15 : Nat)) := (hW.bel.cell (p := ⟨b, 0, none⟩) (World.block_lt_of_cell? w _ c0)).trans c0
        have HWW := Lib.hid (HWD.out wr (HWO.out.later hW.bel))
        clear hW
        generalize Lib.join (ks.map TA.str) [44, 32] = jo at *
        go_wp2_with fail
        refine HWW.out.mono ?_
        rintro e w' ⟨rfl, rfl⟩
        rw [HWE.out]
        go_wp2_with fail
        refine HJ.out.mono ?_
        rintro e w1 ⟨rfl, hb1⟩
        go_wp2_with fail
        go_ret
        exact ⟨congrArg (fun s => Ending.returned (.string s)) (ByteArray.ext (by rw [HE.out]; simp)), ext_step HB.out hb1⟩
end Go.Proofs.YticpjjmacmmpjaaGreatDoor
namespace Go.Proofs.YticpjjmacmmpjaaGreatDoor
open Go.RowKit
abbrev planCells (p : PL) (sv : Value) : Obj := .cells #[.int .i64 p.op, .int .i64 p.w, .int .i64 p.n, sv] 55
/-- a term that is being made of a plan -/
structure MkAt (w : World) (p : PL) (sv : Value) (b o : Nat) (nm : List UInt8) (rv : Value) (tx bk : List UInt8) (kv : Value) (W : World) : Prop where
  node : W.heap[b]? = some (.cells (tmCells o 0 nm rv tx bk kv) 62 (0, 0))
  box : W.heap[w.heap.size]? = some (planCells p sv)
  bel : Below w.heap.size w W
  lo : w.heap.size < b
variable {w W W' : World} {p : PL} {sv rv kv : Value} {b o : Nat} {nm tx bk : List UInt8}
theorem MkAt.later (h : MkAt w p sv b o nm rv tx bk kv W) (hb : Below W.heap.size W W') : MkAt w p sv b o nm rv tx bk kv W' :=
  ⟨(hb.block _ (Array.getElem?_eq_some_iff.1 h.node).1).trans h.node, (hb.block _ (Array.getElem?_eq_some_iff.1 h.box).1).trans h.box, ext_step h.bel hb, h.lo⟩
theorem MkAt.frz (h : MkAt w p sv b o nm rv tx bk kv W) (j : Nat) : W.frozen? ⟨b, j, none⟩ = false := frozen_of_row _ _ _ _ _ h.node
theorem MkAt.cells (h : MkAt w p sv b o nm rv tx bk kv W) : W.cell? ⟨b, 0, none⟩ = some (.int .i64 (o : Nat)) ∧ W.cell? ⟨b, 2, none⟩ = some (.string ⟨nm.toArray⟩) ∧ W.cell? ⟨b, 3, none⟩ = some rv ∧
    W.cell? ⟨b, 4, none⟩ = some (.string ⟨tx.toArray⟩) ∧ W.cell? ⟨b, 5, none⟩ = some (.string ⟨bk.toArray⟩) ∧ W.cell? ⟨b, 6, none⟩ = some kv :=
  ⟨by rw [cell_of_row _ _ _ _ _ _ h.node]; rfl, by rw [cell_of_row _ _ _ _ _ _ h.node]; rfl, by rw [cell_of_row _ _ _ _ _ _ h.node]; rfl, by rw [cell_of_row _ _ _ _ _ _ h.node]; rfl, by rw [cell_of_row _ _ _ _ _ _ h.node]; rfl, by rw [cell_of_row _ _ _ _ _ _ h.node]; rfl⟩
theorem MkAt.plan (h : MkAt w p sv b o nm rv tx bk kv W) : W.cell? ⟨w.heap.size, 0, none⟩ = some (.int .i64 p.op) ∧ W.cell? ⟨w.heap.size, 1, none⟩ = some (.int .i64 p.w) ∧ W.cell? ⟨w.heap.size, 2, none⟩ = some (.int .i64 p.n) ∧ W.cell? ⟨w.heap.size, 3, none⟩ = some sv :=
  ⟨by rw [cell_of_row _ _ _ _ _ _ h.box]; rfl, by rw [cell_of_row _ _ _ _ _ _ h.box]; rfl, by rw [cell_of_row _ _ _ _ _ _ h.box]; rfl, by rw [cell_of_row _ _ _ _ _ _ h.box]; rfl⟩
theorem MkAt.put (h : MkAt w p sv b o nm rv tx bk kv W) (j : Nat) (v : Value) {nm' tx' bk' : List UInt8} {rv' kv' : Value} (e : (tmCells o 0 nm rv tx bk kv).setIfInBounds j v = tmCells o 0 nm' rv' tx' bk' kv') : MkAt w p sv b o nm' rv' tx' bk' kv' (W.setCell ⟨b, j, none⟩ v) :=
  ⟨by rw [heap_setCell_same _ _ _ _ _ _ h.node, e], by rw [Below.heap_setCell _ _ _ _ (by have := h.lo; show w.heap.size ≠ b; omega)]; exact h.box, h.bel.setCell (by have := h.lo; show w.heap.size ≤ b; omega) _, h.lo⟩
/-- made, without parts -/
theorem MkAt.leaf (h : MkAt w p sv b o nm rv tx bk (.slice none 0 0) W) {re : Option RE} (hre : IsReO W rv re) {m : TA} (hm : TA.node 0 o 0 nm re tx bk [] = m) : TmPost w m (.returned (ptr b)) W :=
  ⟨TA.node b o 0 nm re tx bk [], rfl, ⟨⟨rv, none, 0, h.node, hre, .inl rfl⟩, trivial⟩, hm, h.bel, fun c hc => by
    simp only [TA.blocks, TA.blockss, List.mem_cons, List.not_mem_nil, or_false] at hc
    subst hc
    exact ⟨Nat.le_of_lt h.lo, (Array.getElem?_eq_some_iff.1 h.node).1⟩, by simp [TA.blocks, TA.blockss]⟩
/-- what is written into a term's block leaves expressions as they are -/
theorem re_putT {W : World} {b j : Nat} {cs : Array Value} {v : Value} (h : W.heap[b]? = some (.cells cs 62 (0, 0))) {rv : Value} {re : Option RE} (hr : IsReO W rv re) : IsReO (W.setCell ⟨b, j, none⟩ v) rv re :=
  hr.put h (by decide) (by decide) fun k _ hk => Below.heap_setCell _ _ _ _ hk
theorem TA.of_blockss {l : List TA} {c : Nat} (h : c ∈ TA.blockss l) : ∃ t ∈ l, c ∈ t.blocks := by
  induction l with
  | nil => simp [TA.blockss] at h
  | cons a l ih =>
    simp only [TA.blockss, List.mem_append] at h
    rcases h with h | h
    · exact ⟨a, by simp, h⟩
    · obtain ⟨t, h1, h2⟩ := ih h
      exact ⟨t, by simp [h1], h2⟩
/-- .. and its parts -/
theorem MkAt.kids (h : MkAt w p sv b o nm rv tx bk kv W) {re : Option RE} (hre : IsReO W rv re) (ts : List TA) (ht : ∀ t ∈ ts, IsTa W t) (hl : ∀ c ∈ TA.blockss ts, b < c) (hn : (TA.blockss ts).Nodup) {m : TA} (hm : TA.node 0 o 0 nm re tx bk (TA.zeros ts) = m) :
    TmPost w m (.returned (ptr b)) ((W.alloc (.cells (ts.map fun t => ptr t.b).toArray 56)).setCell ⟨b, 6, none⟩ (.slice (some ⟨W.heap.size, 0, none⟩) ts.length ts.length)) := by
  have hx := re_alloc W (.cells (ts.map fun t => ptr t.b).toArray 56)
  have h1 := h.later hx
  have h2 := h1.put 6 (.slice (some ⟨W.heap.size, 0, none⟩) ts.length ts.length) (kv' := .slice (some ⟨W.heap.size, 0, none⟩) ts.length ts.length) rfl
  have hr := re_putT (j := 6) (v := .slice (some ⟨W.heap.size, 0, none⟩) ts.length ts.length) h1.node (hre.later hx)
  have hbw : b < W.heap.size := (Array.getElem?_eq_some_iff.1 h.node).1
  have hbt : ∀ t ∈ ts, ∀ c ∈ t.blocks, c < W.heap.size := fun t htm => IsTa.blocks_lt t (ht t htm)
  have hbs : ∀ c ∈ TA.blockss ts, c < W.heap.size := by
    intro c hc
    obtain ⟨t, htm, hc⟩ := TA.of_blockss hc
    exact hbt t htm c hc
  refine ⟨TA.node b o 0 nm re tx bk ts, rfl, ⟨⟨rv, some ⟨W.heap.size, 0, none⟩, ts.length, h2.node, hr, ?_⟩, ?_⟩, by rw [TA.zero]; exact hm, h2.bel, ?_, ?_⟩
  · exact .inr ⟨W.heap.size, 0, _, (0, 0), rfl, (Below.heap_setCell _ _ _ _ (by show W.heap.size ≠ b; omega)).trans (heap_alloc_last _ _), fun i hi => by
      have hi : i < ts.length := by simpa [TA.kids] using hi
      rw [cell_of_row _ _ _ _ _ _ ((Below.heap_setCell _ _ _ _ (by show W.heap.size ≠ b; omega)).trans (heap_alloc_last _ _))]
      simp [List.getD, hi, TA.kids]⟩
  · refine IsTas.putT h1.node (fun k _ hk => Below.heap_setCell _ _ _ _ hk) ts (fun hc => by have := hl b hc; omega) ?_
    exact (IsTas_iff _ _).2 fun t htm => IsTa.later hx t (ht t htm)
  · intro c hc
    simp only [TA.blocks, List.mem_cons] at hc
    rcases hc with rfl | hc
    · exact ⟨Nat.le_of_lt h.lo, (Array.getElem?_eq_some_iff.1 h2.node).1⟩
    · have := hl c hc
      have := hbs c hc
      have hlo := h.lo
      have := h2.bel.size
      refine ⟨by omega, ?_⟩
      have e : ((W.alloc (.cells (ts.map fun t => ptr t.b).toArray 56)).setCell ⟨b, 6, none⟩ (.slice (some ⟨W.heap.size, 0, none⟩) ts.length ts.length)).heap.size = W.heap.size + 1 := by simp
      omega
  · simp only [TA.blocks, List.nodup_cons]
    exact ⟨fun hc => by have := hl b hc; omega, hn⟩
theorem MkAt.one {W1 : World} {t0 : TA} {m0 : TA} (h : MkAt w p sv b o [] (.pointer none) [] [] kv W) (h0 : IsTa W1 t0) (hz0 : t0.zero = m0) (hb0 : Below W.heap.size W W1) (hl0 : ∀ c ∈ t0.blocks, W.heap.size ≤ c ∧ c < W1.heap.size) (hn0 : t0.blocks.Nodup)
    {m : TA} (hm : TA.node 0 o 0 [] none [] [] [m0] = m) : TmPost w m (.returned (ptr b)) ((W1.alloc (.cells #[ptr t0.b] 56)).setCell ⟨b, 6, none⟩ (.slice (some ⟨W1.heap.size, 0, none⟩) 1 1)) := by
  have hbw : b < W.heap.size := (Array.getElem?_eq_some_iff.1 h.node).1
  refine (h.later hb0).kids (re := none) rfl [t0] (fun t ht => by simp at ht; rw [ht]; exact h0) (fun c hc => ?_) (by simpa [TA.blockss] using hn0) (by rw [← hm, ← hz0]; rfl)
  simp only [TA.blockss, List.append_nil] at hc
  have := hl0 c hc; omega
theorem MkAt.two {W0 W1 W2 : World} {t0 t1 : TA} {m0 m1 : TA} (h : MkAt w p sv b o [] (.pointer none) [] [] kv W) (hd : Below W.heap.size W W0) (h0 : IsTa W1 t0) (hz0 : t0.zero = m0) (hb0 : Below W0.heap.size W0 W1) (hl0 : ∀ c ∈ t0.blocks, W0.heap.size ≤ c ∧ c < W1.heap.size) (hn0 : t0.blocks.Nodup)
    (h1 : IsTa W2 t1) (hz1 : t1.zero = m1) (hb1 : Below W1.heap.size W1 W2) (hl1 : ∀ c ∈ t1.blocks, W1.heap.size ≤ c ∧ c < W2.heap.size) (hn1 : t1.blocks.Nodup)
    {m : TA} (hm : TA.node 0 o 0 [] none [] [] [m0, m1] = m) : TmPost w m (.returned (ptr b)) ((W2.alloc (.cells #[ptr t0.b, ptr t1.b] 56)).setCell ⟨b, 6, none⟩ (.slice (some ⟨W2.heap.size, 0, none⟩) 2 2)) := by
  have hbw : b < W.heap.size := (Array.getElem?_eq_some_iff.1 h.node).1
  have s0 := hd.size
  have s1 := hb0.size
  refine (((h.later hd).later hb0).later hb1).kids (re := none) rfl [t0, t1] (fun t ht => ?_) (fun c hc => ?_) ?_ (by rw [← hm, ← hz0, ← hz1]; rfl)
  · simp only [List.mem_cons, List.not_mem_nil, or_false] at ht
    rcases ht with rfl | rfl
    · exact IsTa.later hb1 _ h0
    · exact h1
  · simp only [TA.blockss, List.append_nil, List.mem_append] at hc
    rcases hc with hc | hc
    · have := hl0 c hc; omega
    · have := hl1 c hc; omega
  · simp only [TA.blockss, List.append_nil]
    exact List.nodup_append.2 ⟨hn0, hn1, fun a ha c hc => by have := hl0 a ha; have := hl1 c hc; omega⟩
set_option maxRecDepth 100000 in
set_option maxHeartbeats 8000000 in
theorem Make_step (p : PL) (sv : Value) (w : World) (hp : IsPl w sv p.kids) (hM : ∀ k ∈ p.kids, ∀ W sv', IsPl W sv' k.kids → Calls Tryz.prog 29 #[plV k sv'] W (TmPost W k.mk)) :
    Calls Tryz.prog 29 #[plV p sv] w (TmPost w p.mk) := by
  obtain ⟨a, cap, B, off, kv, rfl, ha, hml, hks⟩ := hp.open
  have hbox := re_alloc w (planCells p (.slice a p.kids.length cap))
  have HOP := Lib.hid (fun W => op_any p a p.kids.length cap W)
  have HK := Lib.hid (fun i hi W (h : IsPl W (.slice a p.kids.length cap) p.kids) => kid_any p (.slice a p.kids.length cap) i hi W h hM)
  have HP := Lib.hid hp
  have HE : Hid (p.mk = PL.mkTop p.opN p.w p.n (p.kids.map PL.mk)) := p.mk_eq
  have hl := uMod_lt p.op 16 (by omega)
  have ho : p.opN < 18 ∧ 2 ≤ p.opN := by unfold PL.opN; omega
  have ho2 := tm_dec p.opN ho.1
  have hob := ho.2
  have HKP : Hid (∀ i, p.kidP i = (p.kids.map PL.mk).getD i PL.cA) := fun _ => rfl
  clear hks hM ha hml hp hl ho
  generalize p.mk = out at *
  generalize p.opN = o at *
  generalize p.kids.length = len at *
  have HBX := Lib.hid hbox
  have hbh := heap_alloc_last w (planCells p (.slice a len cap))
  have HBH := Lib.hid hbh
  clear hbox hbh
  go_enter Tryz.func29, Tryz.ntmps29
  go_wp2_with fail
  refine (HOP.out _).mono ?_
  rintro e w1 ⟨rfl, hb1⟩
  have hB1 : Below w.heap.size w w1 := HBX.out.trans (hb1.mono (by simp))
  have hx := re_alloc w1 (.cells (tmCells o 0 [] (.pointer none) [] [] (.slice none 0 0)) 62)
  have hS : MkAt w p (.slice a len cap) w1.heap.size o [] (.pointer none) [] [] (.slice none 0 0) (w1.alloc (.cells (tmCells o 0 [] (.pointer none) [] [] (.slice none 0 0)) 62)) :=
    ⟨heap_alloc_last _ _, (hx.block _ (by have := hb1.size; simp at this; omega)).trans ((hb1.block _ (by simp)).trans HBH.out), ext_step hB1 hx, by have := hb1.size; simp at this; omega⟩
  have HS := Lib.hid hS
  have hlt1 : w.heap.size < w1.heap.size := hS.lo
  obtain ⟨q0, q1, q2, q3⟩ := hS.plan
  rw [World.cell?_alloc_old _ _ _ (by show w.heap.size ≠ w1.heap.size; omega)] at q0 q1 q2 q3
  clear hx hB1 hb1 hS
  rcases ho2 with rfl | rfl | rfl | rfl | rfl | rfl | rfl | rfl | rfl | rfl | rfl | rfl | rfl | rfl | rfl | rfl | rfl | rfl
  · omega
  · omega
  · -- 2
    have HM : Hid (PL.mkTop 2 p.w p.n (p.kids.map PL.mk) = out) := HE.out.symm
    go_wp2_with fail
    refine (Expr_any p.w _).mono ?_
    rintro e w2 ⟨rb, rfl, hre, hb2⟩
    have HS2 := Lib.hid (HS.out.later hb2)
    have HR2 := Lib.hid hre
    clear hre hb2 q0 q1 q2 q3
    obtain ⟨n0, n2, n3, n4, n5, n6⟩ := HS2.out.cells
    obtain ⟨_, m1, m2, _⟩ := HS2.out.plan
    have fz := HS2.out.frz
    have hne : w.heap.size ≠ w1.heap.size := by omega
    have HS3 := Lib.hid (HS2.out.put 3 (ptr rb) (rv' := ptr rb) rfl)
    have HR3 := Lib.hid (re_putT (j := 3) (v := ptr rb) HS2.out.node (show IsReO w2 (ptr rb) (some _) from ⟨rb, rfl, HR2.out⟩))
    go_wp2_with fail
    go_ret
    exact HS3.out.leaf HR3.out (by rw [← HM.out]; rfl)
  · -- 16
    have HM : Hid (PL.mkTop 16 p.w p.n (p.kids.map PL.mk) = out) := HE.out.symm
    go_wp2_with fail
    refine (Expr_any p.w _).mono ?_
    rintro e w2 ⟨rb, rfl, hre, hb2⟩
    have HS2 := Lib.hid (HS.out.later hb2)
    have HR2 := Lib.hid hre
    clear hre hb2 q0 q1 q2 q3
    obtain ⟨n0, n2, n3, n4, n5, n6⟩ := HS2.out.cells
    obtain ⟨_, m1, m2, _⟩ := HS2.out.plan
    have fz := HS2.out.frz
    have hne : w.heap.size ≠ w1.heap.size := by omega
    have HS3 := Lib.hid (HS2.out.put 3 (ptr rb) (rv' := ptr rb) rfl)
    have HR3 := Lib.hid (re_putT (j := 3) (v := ptr rb) HS2.out.node (show IsReO w2 (ptr rb) (some _) from ⟨rb, rfl, HR2.out⟩))
    go_wp2_with fail
    go_ret
    exact HS3.out.leaf HR3.out (by rw [← HM.out]; rfl)
  · -- 3
    have HM : Hid (PL.mkTop 3 p.w p.n (p.kids.map PL.mk) = out) := HE.out.symm
    have hbt := bit1_eq p.n
    have HBT := Lib.hid (bit1_lt p.n)
    have HNM : Hid (nameN p.n = if bit1 p.n = 0 then [107] else [99, 111, 108, 111, 114]) := rfl
    go_wp2_with fail
    refine (Expr_any p.w _).mono ?_
    rintro e w2 ⟨rb, rfl, hre, hb2⟩
    have HS2 := Lib.hid (HS.out.later hb2)
    have HR2 := Lib.hid hre
    clear hre hb2 q0 q1 q2 q3
    obtain ⟨n0, n2, n3, n4, n5, n6⟩ := HS2.out.cells
    obtain ⟨_, m1, m2, _⟩ := HS2.out.plan
    have fz := HS2.out.frz
    have hne : w.heap.size ≠ w1.heap.size := by omega
    have HS3 := Lib.hid (HS2.out.put 3 (ptr rb) (rv' := ptr rb) rfl)
    have HR3 := Lib.hid (re_putT (j := 3) (v := ptr rb) HS2.out.node (show IsReO w2 (ptr rb) (some _) from ⟨rb, rfl, HR2.out⟩))
    have HS4 := Lib.hid (HS3.out.later (re_alloc (w2.setCell ⟨w1.heap.size, 3, none⟩ (ptr rb)) (.cells #[.string ⟨#[107]⟩, .string ⟨#[99, 111, 108, 111, 114]⟩] 9)))
    have HR4 := Lib.hid (HR3.out.later (re_alloc (w2.setCell ⟨w1.heap.size, 3, none⟩ (ptr rb)) (.cells #[.string ⟨#[107]⟩, .string ⟨#[99, 111, 108, 111, 114]⟩] 9)))
    have HS5a := Lib.hid (HS3.out.put 2 (.string ⟨(nameN p.n).toArray⟩) (nm' := nameN p.n) rfl)
    have HR5a := Lib.hid (re_putT (j := 2) (v := .string ⟨(nameN p.n).toArray⟩) HS3.out.node HR3.out)
    have HS5 := Lib.hid (HS5a.out.later (re_alloc _ (.cells #[.string ⟨#[107]⟩, .string ⟨#[99, 111, 108, 111, 114]⟩] 9)))
    have HR5 := Lib.hid (HR5a.out.later (re_alloc _ (.cells #[.string ⟨#[107]⟩, .string ⟨#[99, 111, 108, 111, 114]⟩] 9)))
    clear HS5a HR5a
    have hb12 : w1.heap.size < w2.heap.size := (Array.getElem?_eq_some_iff.1 HS2.out.node).1
    have hb13 : w.heap.size < w2.heap.size := by omega
    obtain ⟨_, _, g2, _⟩ := HS4.out.plan
    have gz := HS4.out.frz
    rcases HBT.out with h0 | h0
    · rw [h0] at hbt
      have HNM2 : Hid (nameN p.n = [107]) := by show _ = _; rw [HNM.out, h0]; rfl
      rw [HNM2.out] at HS5 HR5
      clear h0
      go_wp2_with fail
      go_ret
      refine HS5.out.leaf HR5.out (m := out) (by rw [← HM.out, ← HNM2.out]; rfl)
    · rw [h0] at hbt
      have HNM2 : Hid (nameN p.n = [99, 111, 108, 111, 114]) := by show _ = _; rw [HNM.out, h0]; rfl
      rw [HNM2.out] at HS5 HR5
      clear h0
      go_wp2_with fail
      go_ret
      refine HS5.out.leaf HR5.out (m := out) (by rw [← HM.out, ← HNM2.out]; rfl)
  · -- 4
    have HM : Hid (PL.mkTop 4 p.w p.n (p.kids.map PL.mk) = out) := HE.out.symm
    go_wp2_with fail
    refine (Expr_any p.w _).mono ?_
    rintro e w2 ⟨rb, rfl, hre, hb2⟩
    have HS2 := Lib.hid (HS.out.later hb2)
    have HR2 := Lib.hid hre
    clear hre hb2 q0 q1 q2 q3
    obtain ⟨n0, n2, n3, n4, n5, n6⟩ := HS2.out.cells
    obtain ⟨_, m1, m2, _⟩ := HS2.out.plan
    have fz := HS2.out.frz
    have hne : w.heap.size ≠ w1.heap.size := by omega
    have HS3 := Lib.hid (HS2.out.put 3 (ptr rb) (rv' := ptr rb) rfl)
    have HR3 := Lib.hid (re_putT (j := 3) (v := ptr rb) HS2.out.node (show IsReO w2 (ptr rb) (some _) from ⟨rb, rfl, HR2.out⟩))
    go_wp2_with fail
    refine (Text_any p.n _).mono ?_
    rintro e w3 ⟨rfl, hb3⟩
    have HS4 := Lib.hid (HS3.out.later hb3)
    have HR4 := Lib.hid (HR3.out.later hb3)
    clear n0 n2 n3 n4 n5 n6 m1 m2 fz hne
    clear hb3
    obtain ⟨n0, n2, n3, n4, n5, n6⟩ := HS4.out.cells
    obtain ⟨_, m1, m2, _⟩ := HS4.out.plan
    have fz := HS4.out.frz
    have hne : w.heap.size ≠ w1.heap.size := by omega
    have HS5 := Lib.hid (HS4.out.put 4 (.string ⟨(textN p.n).toArray⟩) (tx' := textN p.n) rfl)
    have HR5 := Lib.hid (re_putT (j := 4) (v := .string ⟨(textN p.n).toArray⟩) HS4.out.node HR4.out)
    go_wp2_with fail
    refine (Text_any (wrap64 (p.n.tdiv 7)) _).mono ?_
    rintro e w4 ⟨rfl, hb4⟩
    have HS6 := Lib.hid (HS5.out.later hb4)
    have HR6 := Lib.hid (HR5.out.later hb4)
    clear n0 n2 n3 n4 n5 n6 m1 m2 fz hne
    clear hb4
    obtain ⟨n0, n2, n3, n4, n5, n6⟩ := HS6.out.cells
    obtain ⟨_, m1, m2, _⟩ := HS6.out.plan
    have fz := HS6.out.frz
    have hne : w.heap.size ≠ w1.heap.size := by omega
    have HS7 := Lib.hid (HS6.out.put 5 (.string ⟨(textN (wrap64 (p.n.tdiv 7))).toArray⟩) (bk' := textN (wrap64 (p.n.tdiv 7))) rfl)
    have HR7 := Lib.hid (re_putT (j := 5) (v := .string ⟨(textN (wrap64 (p.n.tdiv 7))).toArray⟩) HS6.out.node HR6.out)
    go_wp2_with fail
    go_ret
    exact HS7.out.leaf HR7.out (by rw [← HM.out]; rfl)
  · -- 5
    have HM : Hid (PL.mkTop 5 p.w p.n (p.kids.map PL.mk) = out) := HE.out.symm
    go_wp2_with fail
    refine (Expr_any p.w _).mono ?_
    rintro e w2 ⟨rb, rfl, hre, hb2⟩
    have HS2 := Lib.hid (HS.out.later hb2)
    have HR2 := Lib.hid hre
    clear hre hb2 q0 q1 q2 q3
    obtain ⟨n0, n2, n3, n4, n5, n6⟩ := HS2.out.cells
    obtain ⟨_, m1, m2, _⟩ := HS2.out.plan
    have fz := HS2.out.frz
    have hne : w.heap.size ≠ w1.heap.size := by omega
    have HS3 := Lib.hid (HS2.out.put 3 (ptr rb) (rv' := ptr rb) rfl)
    have HR3 := Lib.hid (re_putT (j := 3) (v := ptr rb) HS2.out.node (show IsReO w2 (ptr rb) (some _) from ⟨rb, rfl, HR2.out⟩))
    go_wp2_with fail
    refine (Text_any p.n _).mono ?_
    rintro e w3 ⟨rfl, hb3⟩
    have HS4 := Lib.hid (HS3.out.later hb3)
    have HR4 := Lib.hid (HR3.out.later hb3)
    clear n0 n2 n3 n4 n5 n6 m1 m2 fz hne
    clear hb3
    obtain ⟨n0, n2, n3, n4, n5, n6⟩ := HS4.out.cells
    obtain ⟨_, m1, m2, _⟩ := HS4.out.plan
    have fz := HS4.out.frz
    have hne : w.heap.size ≠ w1.heap.size := by omega
    have HS5 := Lib.hid (HS4.out.put 5 (.string ⟨(textN p.n).toArray⟩) (bk' := textN p.n) rfl)
    have HR5 := Lib.hid (re_putT (j := 5) (v := .string ⟨(textN p.n).toArray⟩) HS4.out.node HR4.out)
    go_wp2_with fail
    go_ret
    exact HS5.out.leaf HR5.out (by rw [← HM.out]; rfl)
  · -- 17
    have HM : Hid (PL.mkTop 17 p.w p.n (p.kids.map PL.mk) = out) := HE.out.symm
    go_wp2_with fail
    refine (Expr_any p.w _).mono ?_
    rintro e w2 ⟨rb, rfl, hre, hb2⟩
    have HS2 := Lib.hid (HS.out.later hb2)
    have HR2 := Lib.hid hre
    clear hre hb2 q0 q1 q2 q3
    obtain ⟨n0, n2, n3, n4, n5, n6⟩ := HS2.out.cells
    obtain ⟨_, m1, m2, _⟩ := HS2.out.plan
    have fz := HS2.out.frz
    have hne : w.heap.size ≠ w1.heap.size := by omega
    have HS3 := Lib.hid (HS2.out.put 3 (ptr rb) (rv' := ptr rb) rfl)
    have HR3 := Lib.hid (re_putT (j := 3) (v := ptr rb) HS2.out.node (show IsReO w2 (ptr rb) (some _) from ⟨rb, rfl, HR2.out⟩))
    go_wp2_with fail
    refine (Text_any p.n _).mono ?_
    rintro e w3 ⟨rfl, hb3⟩
    have HS4 := Lib.hid (HS3.out.later hb3)
    have HR4 := Lib.hid (HR3.out.later hb3)
    clear n0 n2 n3 n4 n5 n6 m1 m2 fz hne
    clear hb3
    obtain ⟨n0, n2, n3, n4, n5, n6⟩ := HS4.out.cells
    obtain ⟨_, m1, m2, _⟩ := HS4.out.plan
    have fz := HS4.out.frz
    have hne : w.heap.size ≠ w1.heap.size := by omega
    have HS5 := Lib.hid (HS4.out.put 4 (.string ⟨(textN p.n).toArray⟩) (tx' := textN p.n) rfl)
    have HR5 := Lib.hid (re_putT (j := 4) (v := .string ⟨(textN p.n).toArray⟩) HS4.out.node HR4.out)
    go_wp2_with fail
    go_ret
    exact HS5.out.leaf HR5.out (by rw [← HM.out]; rfl)
  · -- 6
    have HM : Hid (PL.mkTop 6 p.w p.n (p.kids.map PL.mk) = out) := HE.out.symm
    go_wp2_with fail
    refine (Text_any p.n _).mono ?_
    rintro e w2 ⟨rfl, hb2⟩
    have HS2 := Lib.hid (HS.out.later hb2)
    have HR2 : Hid (IsReO w2 (.pointer none) none) := rfl
    clear hb2 q0 q1 q2 q3
    obtain ⟨n0, n2, n3, n4, n5, n6⟩ := HS2.out.cells
    obtain ⟨_, m1, m2, _⟩ := HS2.out.plan
    have fz := HS2.out.frz
    have hne : w.heap.size ≠ w1.heap.size := by omega
    have HS3 := Lib.hid (HS2.out.put 4 (.string ⟨(textN p.n).toArray⟩) (tx' := textN p.n) rfl)
    have HR3 := Lib.hid (re_putT (j := 4) (v := .string ⟨(textN p.n).toArray⟩) HS2.out.node HR2.out)
    go_wp2_with fail
    go_ret
    exact HS3.out.leaf HR3.out (by rw [← HM.out]; rfl)
  · -- 7
    have HM : Hid (PL.mkTop 7 p.w p.n (p.kids.map PL.mk) = out) := HE.out.symm
    have HP0 := Lib.hid (HP.out.later (HBX.out))
    have hl0 : w.heap.size < (w1.alloc (.cells (tmCells 7 0 [] (.pointer none) [] [] (.slice none 0 0)) 62)).heap.size := by simp; omega
    obtain ⟨S, hSd⟩ : ∃ S : World → Prop, ∀ W', S W' ↔ Below (w1.alloc (.cells (tmCells 7 0 [] (.pointer none) [] [] (.slice none 0 0)) 62)).heap.size (w1.alloc (.cells (tmCells 7 0 [] (.pointer none) [] [] (.slice none 0 0)) 62)) W' := ⟨_, fun _ => Iff.rfl⟩
    have HSD := Lib.hid hSd
    have HIP : Hid (∀ W', S W' → IsPl W' (.slice a len cap) p.kids) := fun W' h => HP.out.later (HS.out.bel.trans (((HSD.out W').1 h).mono (Nat.le_of_lt hl0)))
    clear hSd
    have cs : ∀ q : InC S, (q.w.cell? ⟨w.heap.size, 0, none⟩ = some (.int .i64 p.op) ∧ q.w.cell? ⟨w.heap.size, 1, none⟩ = some (.int .i64 p.w) ∧ q.w.cell? ⟨w.heap.size, 2, none⟩ = some (.int .i64 p.n) ∧ q.w.cell? ⟨w.heap.size, 3, none⟩ = some (.slice a len cap)) ∧ q.w.frozen? ⟨w1.heap.size, 6, none⟩ = false := fun q => by
      have h := HS.out.later ((HSD.out q.w).1 q.h)
      exact ⟨h.plan, h.frz 6⟩
    have hSl : ∀ W' : World, Below (w1.alloc (.cells (tmCells 7 0 [] (.pointer none) [] [] (.slice none 0 0)) 62)).heap.size (w1.alloc (.cells (tmCells 7 0 [] (.pointer none) [] [] (.slice none 0 0)) 62)) W' → S W' := fun W' hb => (HSD.out W').2 hb
    have hD : Below (w1.alloc (.cells (tmCells 7 0 [] (.pointer none) [] [] (.slice none 0 0)) 62)).heap.size (w1.alloc (.cells (tmCells 7 0 [] (.pointer none) [] [] (.slice none 0 0)) 62)) (w1.alloc (.cells (tmCells 7 0 [] (.pointer none) [] [] (.slice none 0 0)) 62)).drew := (Below.refl _ _).drew
    have hne : Nonempty (InC S) := ⟨⟨_, hSl _ hD⟩⟩
    go_wp2_with fail
    refine wp_region_mix S [0, 1, 3, 6, 7] [0, 1, 3, 2, 4, 5, 6, 7, 8] (by kernel_rfl) (by kernel_rfl) (hSl _ hD) ?_
    (repeat (refine wpMix_read rfl rfl ?_; go_big_quiet_step (fail); refine wpQuiet_nil ?_))
    refine wpMix_eff (k := true) rfl rfl (by kernel_rfl) ?_
    go_wp2_with (go_at_call 67; refine (HK.out 0 (by omega) _ (HIP.out _ (hSl _ hD))).mono ?_; rintro e wA ⟨tA, rfl, htA, hzA, hbA, hlA, hnA⟩)
    have hD2 := ext_step hD hbA
    refine mixPost_keep (hSl _ hD2) ?_
    (repeat (refine wpMix_read rfl rfl ?_; go_big_quiet_step (fail); refine wpQuiet_nil ?_))
    refine wpMix_eff (k := true) rfl rfl (by kernel_rfl) ?_
    go_wp2_with (go_at_call 67; refine (HK.out 1 (by omega) _ (HIP.out _ (hSl _ hD2))).mono ?_; rintro e wB ⟨tB, rfl, htB, hzB, hbB, hlB, hnB⟩)
    have hD3 := ext_step hD2 hbB
    refine mixPost_keep (hSl _ hD3) ?_
    refine wpMix_eff (k := true) rfl rfl (by kernel_rfl) ?_
    have htk := (HS.out.two (m := out) hD htA hzA hbA hlA hnA htB hzB hbB hlB hnB)
    have hD4 := ext_alloc hD3 (.cells #[ptr tA.b, ptr tB.b] 56)
    have fz := (HS.out.later hD3).frz
    obtain ⟨_, _, _, _, _, n6⟩ := (HS.out.later hD3).cells
    have hwB : w1.heap.size < wB.heap.size := (Array.getElem?_eq_some_iff.1 (HS.out.later hD3).node).1
    have hwn : w1.heap.size ≠ wB.heap.size := by omega
    rw [World.setCell_alloc_past _ _ _ _ hwB] at htk
    have HTK := Lib.hid htk
    clear htk
    clear htA hzA hbA hlA hnA htB hzB hbB hlB hnB hD hD2 hD3
    go_wp2_with fail
    refine mixPost_keep (hSl _ hD4) ?_
    (repeat (refine wpMix_read rfl rfl ?_; go_big_quiet_step (fail); refine wpQuiet_nil ?_))
    refine wpMix_eff (k := false) rfl rfl (by kernel_rfl) ?_
    clear hne cs hSl hD4
    go_wp2_with fail
    refine mixPost_last ?_
    refine wpMix_nil ?_
    go_wp2_with fail
    go_ret
    exact HTK.out (by rw [← HM.out, HKP.out, HKP.out]; rfl)
  · -- 8
    have HM : Hid (PL.mkTop 8 p.w p.n (p.kids.map PL.mk) = out) := HE.out.symm
    have HP0 := Lib.hid (HP.out.later (HBX.out))
    have hl0 : w.heap.size < (w1.alloc (.cells (tmCells 8 0 [] (.pointer none) [] [] (.slice none 0 0)) 62)).heap.size := by simp; omega
    obtain ⟨S, hSd⟩ : ∃ S : World → Prop, ∀ W', S W' ↔ Below (w1.alloc (.cells (tmCells 8 0 [] (.pointer none) [] [] (.slice none 0 0)) 62)).heap.size (w1.alloc (.cells (tmCells 8 0 [] (.pointer none) [] [] (.slice none 0 0)) 62)) W' := ⟨_, fun _ => Iff.rfl⟩
    have HSD := Lib.hid hSd
    have HIP : Hid (∀ W', S W' → IsPl W' (.slice a len cap) p.kids) := fun W' h => HP.out.later (HS.out.bel.trans (((HSD.out W').1 h).mono (Nat.le_of_lt hl0)))
    clear hSd
    have cs : ∀ q : InC S, (q.w.cell? ⟨w.heap.size, 0, none⟩ = some (.int .i64 p.op) ∧ q.w.cell? ⟨w.heap.size, 1, none⟩ = some (.int .i64 p.w) ∧ q.w.cell? ⟨w.heap.size, 2, none⟩ = some (.int .i64 p.n) ∧ q.w.cell? ⟨w.heap.size, 3, none⟩ = some (.slice a len cap)) ∧ q.w.frozen? ⟨w1.heap.size, 6, none⟩ = false := fun q => by
      have h := HS.out.later ((HSD.out q.w).1 q.h)
      exact ⟨h.plan, h.frz 6⟩
    have hSl : ∀ W' : World, Below (w1.alloc (.cells (tmCells 8 0 [] (.pointer none) [] [] (.slice none 0 0)) 62)).heap.size (w1.alloc (.cells (tmCells 8 0 [] (.pointer none) [] [] (.slice none 0 0)) 62)) W' → S W' := fun W' hb => (HSD.out W').2 hb
    have hD : Below (w1.alloc (.cells (tmCells 8 0 [] (.pointer none) [] [] (.slice none 0 0)) 62)).heap.size (w1.alloc (.cells (tmCells 8 0 [] (.pointer none) [] [] (.slice none 0 0)) 62)) (w1.alloc (.cells (tmCells 8 0 [] (.pointer none) [] [] (.slice none 0 0)) 62)).drew := (Below.refl _ _).drew
    have hne : Nonempty (InC S) := ⟨⟨_, hSl _ hD⟩⟩
    go_wp2_with fail
    refine wp_region_mix S [0, 1, 3, 6, 7] [0, 1, 3, 2, 4, 5, 6, 7, 8] (by kernel_rfl) (by kernel_rfl) (hSl _ hD) ?_
    (repeat (refine wpMix_read rfl rfl ?_; go_big_quiet_step (fail); refine wpQuiet_nil ?_))
    refine wpMix_eff (k := true) rfl rfl (by kernel_rfl) ?_
    go_wp2_with (go_at_call 67; refine (HK.out 0 (by omega) _ (HIP.out _ (hSl _ hD))).mono ?_; rintro e wA ⟨tA, rfl, htA, hzA, hbA, hlA, hnA⟩)
    have hD2 := ext_step hD hbA
    refine mixPost_keep (hSl _ hD2) ?_
    (repeat (refine wpMix_read rfl rfl ?_; go_big_quiet_step (fail); refine wpQuiet_nil ?_))
    refine wpMix_eff (k := true) rfl rfl (by kernel_rfl) ?_
    go_wp2_with (go_at_call 67; refine (HK.out 1 (by omega) _ (HIP.out _ (hSl _ hD2))).mono ?_; rintro e wB ⟨tB, rfl, htB, hzB, hbB, hlB, hnB⟩)
    have hD3 := ext_step hD2 hbB
    refine mixPost_keep (hSl _ hD3) ?_
    refine wpMix_eff (k := true) rfl rfl (by kernel_rfl) ?_
    have htk := (HS.out.two (m := out) hD htA hzA hbA hlA hnA htB hzB hbB hlB hnB)
    have hD4 := ext_alloc hD3 (.cells #[ptr tA.b, ptr tB.b] 56)
    have fz := (HS.out.later hD3).frz
    obtain ⟨_, _, _, _, _, n6⟩ := (HS.out.later hD3).cells
    have hwB : w1.heap.size < wB.heap.size := (Array.getElem?_eq_some_iff.1 (HS.out.later hD3).node).1
    have hwn : w1.heap.size ≠ wB.heap.size := by omega
    rw [World.setCell_alloc_past _ _ _ _ hwB] at htk
    have HTK := Lib.hid htk
    clear htk
    clear htA hzA hbA hlA hnA htB hzB hbB hlB hnB hD hD2 hD3
    go_wp2_with fail
    refine mixPost_keep (hSl _ hD4) ?_
    (repeat (refine wpMix_read rfl rfl ?_; go_big_quiet_step (fail); refine wpQuiet_nil ?_))
    refine wpMix_eff (k := false) rfl rfl (by kernel_rfl) ?_
    clear hne cs hSl hD4
    go_wp2_with fail
    refine mixPost_last ?_
    refine wpMix_nil ?_
    go_wp2_with fail
    go_ret
    exact HTK.out (by rw [← HM.out, HKP.out, HKP.out]; rfl)
  · -- 11
    have HM : Hid (PL.mkTop 11 p.w p.n (p.kids.map PL.mk) = out) := HE.out.symm
    have HP0 := Lib.hid (HP.out.later (HBX.out))
    have hl0 : w.heap.size < (w1.alloc (.cells (tmCells 11 0 [] (.pointer none) [] [] (.slice none 0 0)) 62)).heap.size := by simp; omega
    obtain ⟨S, hSd⟩ : ∃ S : World → Prop, ∀ W', S W' ↔ Below (w1.alloc (.cells (tmCells 11 0 [] (.pointer none) [] [] (.slice none 0 0)) 62)).heap.size (w1.alloc (.cells (tmCells 11 0 [] (.pointer none) [] [] (.slice none 0 0)) 62)) W' := ⟨_, fun _ => Iff.rfl⟩
    have HSD := Lib.hid hSd
    have HIP : Hid (∀ W', S W' → IsPl W' (.slice a len cap) p.kids) := fun W' h => HP.out.later (HS.out.bel.trans (((HSD.out W').1 h).mono (Nat.le_of_lt hl0)))
    clear hSd
    have cs : ∀ q : InC S, (q.w.cell? ⟨w.heap.size, 0, none⟩ = some (.int .i64 p.op) ∧ q.w.cell? ⟨w.heap.size, 1, none⟩ = some (.int .i64 p.w) ∧ q.w.cell? ⟨w.heap.size, 2, none⟩ = some (.int .i64 p.n) ∧ q.w.cell? ⟨w.heap.size, 3, none⟩ = some (.slice a len cap)) ∧ q.w.frozen? ⟨w1.heap.size, 6, none⟩ = false := fun q => by
      have h := HS.out.later ((HSD.out q.w).1 q.h)
      exact ⟨h.plan, h.frz 6⟩
    have hSl : ∀ W' : World, Below (w1.alloc (.cells (tmCells 11 0 [] (.pointer none) [] [] (.slice none 0 0)) 62)).heap.size (w1.alloc (.cells (tmCells 11 0 [] (.pointer none) [] [] (.slice none 0 0)) 62)) W' → S W' := fun W' hb => (HSD.out W').2 hb
    have hD : Below (w1.alloc (.cells (tmCells 11 0 [] (.pointer none) [] [] (.slice none 0 0)) 62)).heap.size (w1.alloc (.cells (tmCells 11 0 [] (.pointer none) [] [] (.slice none 0 0)) 62)) (w1.alloc (.cells (tmCells 11 0 [] (.pointer none) [] [] (.slice none 0 0)) 62)).drew := (Below.refl _ _).drew
    have hne : Nonempty (InC S) := ⟨⟨_, hSl _ hD⟩⟩
    go_wp2_with fail
    refine wp_region_mix S [0, 1, 3, 6, 7] [0, 1, 3, 2, 4, 5, 6, 7, 8] (by kernel_rfl) (by kernel_rfl) (hSl _ hD) ?_
    (repeat (refine wpMix_read rfl rfl ?_; go_big_quiet_step (fail); refine wpQuiet_nil ?_))
    refine wpMix_eff (k := true) rfl rfl (by kernel_rfl) ?_
    go_wp2_with (go_at_call 67; refine (HK.out 0 (by omega) _ (HIP.out _ (hSl _ hD))).mono ?_; rintro e wA ⟨tA, rfl, htA, hzA, hbA, hlA, hnA⟩)
    have hD2 := ext_step hD hbA
    refine mixPost_keep (hSl _ hD2) ?_
    (repeat (refine wpMix_read rfl rfl ?_; go_big_quiet_step (fail); refine wpQuiet_nil ?_))
    refine wpMix_eff (k := true) rfl rfl (by kernel_rfl) ?_
    go_wp2_with (go_at_call 67; refine (HK.out 1 (by omega) _ (HIP.out _ (hSl _ hD2))).mono ?_; rintro e wB ⟨tB, rfl, htB, hzB, hbB, hlB, hnB⟩)
    have hD3 := ext_step hD2 hbB
    refine mixPost_keep (hSl _ hD3) ?_
    refine wpMix_eff (k := true) rfl rfl (by kernel_rfl) ?_
    have htk := (HS.out.two (m := out) hD htA hzA hbA hlA hnA htB hzB hbB hlB hnB)
    have hD4 := ext_alloc hD3 (.cells #[ptr tA.b, ptr tB.b] 56)
    have fz := (HS.out.later hD3).frz
    obtain ⟨_, _, _, _, _, n6⟩ := (HS.out.later hD3).cells
    have hwB : w1.heap.size < wB.heap.size := (Array.getElem?_eq_some_iff.1 (HS.out.later hD3).node).1
    have hwn : w1.heap.size ≠ wB.heap.size := by omega
    rw [World.setCell_alloc_past _ _ _ _ hwB] at htk
    have HTK := Lib.hid htk
    clear htk
    clear htA hzA hbA hlA hnA htB hzB hbB hlB hnB hD hD2 hD3
    go_wp2_with fail
    refine mixPost_keep (hSl _ hD4) ?_
    (repeat (refine wpMix_read rfl rfl ?_; go_big_quiet_step (fail); refine wpQuiet_nil ?_))
    refine wpMix_eff (k := false) rfl rfl (by kernel_rfl) ?_
    clear hne cs hSl hD4
    go_wp2_with fail
    refine mixPost_last ?_
    refine wpMix_nil ?_
    go_wp2_with fail
    go_ret
    exact HTK.out (by rw [← HM.out, HKP.out, HKP.out]; rfl)
  · -- 9
    have HM : Hid (PL.mkTop 9 p.w p.n (p.kids.map PL.mk) = out) := HE.out.symm
    have HP0 := Lib.hid (HP.out.later HS.out.bel)
    obtain ⟨n0, n2, n3, n4, n5, n6⟩ := HS.out.cells
    have hne : w.heap.size ≠ w1.heap.size := by omega
    go_wp2_with fail
    refine (HK.out 0 (by omega) _ HP0.out).mono ?_
    rintro e wA ⟨tA, rfl, htA, hzA, hbA, hlA, hnA⟩
    have htk := (HS.out.one (m := out) htA hzA hbA hlA hnA)
    have fz := (HS.out.later hbA).frz
    obtain ⟨_, _, _, _, _, k6⟩ := (HS.out.later hbA).cells
    have hwB : w1.heap.size < wA.heap.size := (Array.getElem?_eq_some_iff.1 (HS.out.later hbA).node).1
    have hwn : w1.heap.size ≠ wA.heap.size := by omega
    rw [World.setCell_alloc_past _ _ _ _ hwB] at htk
    have HTK := Lib.hid htk
    clear htk
    clear htA hzA hbA hlA hnA q0 q1 q2 q3 n0 n2 n3 n4 n5 n6
    go_wp2_with fail
    go_ret
    exact HTK.out (by rw [← HM.out, HKP.out]; rfl)
  · -- 10
    have HM : Hid (PL.mkTop 10 p.w p.n (p.kids.map PL.mk) = out) := HE.out.symm
    have HP0 := Lib.hid (HP.out.later (HBX.out))
    have hl0 : w.heap.size < (w1.alloc (.cells (tmCells 10 0 [] (.pointer none) [] [] (.slice none 0 0)) 62)).heap.size := by simp; omega
    obtain ⟨S, hSd⟩ : ∃ S : World → Prop, ∀ W', S W' ↔ Below (w1.alloc (.cells (tmCells 10 0 [] (.pointer none) [] [] (.slice none 0 0)) 62)).heap.size (w1.alloc (.cells (tmCells 10 0 [] (.pointer none) [] [] (.slice none 0 0)) 62)) W' := ⟨_, fun _ => Iff.rfl⟩
    have HSD := Lib.hid hSd
    have HIP : Hid (∀ W', S W' → IsPl W' (.slice a len cap) p.kids) := fun W' h => HP.out.later (HS.out.bel.trans (((HSD.out W').1 h).mono (Nat.le_of_lt hl0)))
    clear hSd
    have cs : ∀ q : InC S, (q.w.cell? ⟨w.heap.size, 0, none⟩ = some (.int .i64 p.op) ∧ q.w.cell? ⟨w.heap.size, 1, none⟩ = some (.int .i64 p.w) ∧ q.w.cell? ⟨w.heap.size, 2, none⟩ = some (.int .i64 p.n) ∧ q.w.cell? ⟨w.heap.size, 3, none⟩ = some (.slice a len cap)) ∧ q.w.frozen? ⟨w1.heap.size, 6, none⟩ = false := fun q => by
      have h := HS.out.later ((HSD.out q.w).1 q.h)
      exact ⟨h.plan, h.frz 6⟩
    have hSl : ∀ W' : World, Below (w1.alloc (.cells (tmCells 10 0 [] (.pointer none) [] [] (.slice none 0 0)) 62)).heap.size (w1.alloc (.cells (tmCells 10 0 [] (.pointer none) [] [] (.slice none 0 0)) 62)) W' → S W' := fun W' hb => (HSD.out W').2 hb
    have hD : Below (w1.alloc (.cells (tmCells 10 0 [] (.pointer none) [] [] (.slice none 0 0)) 62)).heap.size (w1.alloc (.cells (tmCells 10 0 [] (.pointer none) [] [] (.slice none 0 0)) 62)) (w1.alloc (.cells (tmCells 10 0 [] (.pointer none) [] [] (.slice none 0 0)) 62)).drew := (Below.refl _ _).drew
    have hne : Nonempty (InC S) := ⟨⟨_, hSl _ hD⟩⟩
    go_wp2_with fail
    refine wp_region_mix S [0, 1, 3, 6, 7] [0, 1, 3, 2, 4, 5, 6, 7, 8] (by kernel_rfl) (by kernel_rfl) (hSl _ hD) ?_
    (repeat (refine wpMix_read rfl rfl ?_; go_big_quiet_step (fail); refine wpQuiet_nil ?_))
    refine wpMix_eff (k := true) rfl rfl (by kernel_rfl) ?_
    go_wp2_with (go_at_call 67; refine (HK.out 0 (by omega) _ (HIP.out _ (hSl _ hD))).mono ?_; rintro e wA ⟨tA, rfl, htA, hzA, hbA, hlA, hnA⟩)
    have hD2 := ext_step hD hbA
    refine mixPost_keep (hSl _ hD2) ?_
    (repeat (refine wpMix_read rfl rfl ?_; go_big_quiet_step (fail); refine wpQuiet_nil ?_))
    refine wpMix_eff (k := true) rfl rfl (by kernel_rfl) ?_
    go_wp2_with (go_at_call 67; refine (HK.out 1 (by omega) _ (HIP.out _ (hSl _ hD2))).mono ?_; rintro e wB ⟨tB, rfl, htB, hzB, hbB, hlB, hnB⟩)
    have hD3 := ext_step hD2 hbB
    refine mixPost_keep (hSl _ hD3) ?_
    refine wpMix_eff (k := true) rfl rfl (by kernel_rfl) ?_
    have htk := (HS.out.two (m := out) hD htA hzA hbA hlA hnA htB hzB hbB hlB hnB)
    have hD4 := ext_alloc hD3 (.cells #[ptr tA.b, ptr tB.b] 56)
    have fz := (HS.out.later hD3).frz
    obtain ⟨_, _, _, _, _, n6⟩ := (HS.out.later hD3).cells
    have hwB : w1.heap.size < wB.heap.size := (Array.getElem?_eq_some_iff.1 (HS.out.later hD3).node).1
    have hwn : w1.heap.size ≠ wB.heap.size := by omega
    rw [World.setCell_alloc_past _ _ _ _ hwB] at htk
    have HTK := Lib.hid htk
    clear htk
    clear htA hzA hbA hlA hnA htB hzB hbB hlB hnB hD hD2 hD3
    go_wp2_with fail
    refine mixPost_keep (hSl _ hD4) ?_
    (repeat (refine wpMix_read rfl rfl ?_; go_big_quiet_step (fail); refine wpQuiet_nil ?_))
    refine wpMix_eff (k := false) rfl rfl (by kernel_rfl) ?_
    clear hne cs hSl hD4
    go_wp2_with fail
    refine mixPost_last ?_
    refine wpMix_nil ?_
    go_wp2_with fail
    go_ret
    exact HTK.out (by rw [← HM.out, HKP.out, HKP.out]; rfl)
  · -- 12
    have HM : Hid (PL.mkTop 12 p.w p.n (p.kids.map PL.mk) = out) := HE.out.symm
    have HP0 := Lib.hid (HP.out.later HS.out.bel)
    obtain ⟨n0, n2, n3, n4, n5, n6⟩ := HS.out.cells
    have hne : w.heap.size ≠ w1.heap.size := by omega
    go_wp2_with fail
    refine (HK.out 0 (by omega) _ HP0.out).mono ?_
    rintro e wA ⟨tA, rfl, htA, hzA, hbA, hlA, hnA⟩
    have htk := (HS.out.one (m := out) htA hzA hbA hlA hnA)
    have fz := (HS.out.later hbA).frz
    obtain ⟨_, _, _, _, _, k6⟩ := (HS.out.later hbA).cells
    have hwB : w1.heap.size < wA.heap.size := (Array.getElem?_eq_some_iff.1 (HS.out.later hbA).node).1
    have hwn : w1.heap.size ≠ wA.heap.size := by omega
    rw [World.setCell_alloc_past _ _ _ _ hwB] at htk
    have HTK := Lib.hid htk
    clear htk
    clear htA hzA hbA hlA hnA q0 q1 q2 q3 n0 n2 n3 n4 n5 n6
    go_wp2_with fail
    go_ret
    exact HTK.out (by rw [← HM.out, HKP.out]; rfl)
  · -- 13
    have HM : Hid (PL.mkTop 13 p.w p.n (p.kids.map PL.mk) = out) := HE.out.symm
    have HP0 := Lib.hid (HP.out.later HS.out.bel)
    obtain ⟨n0, n2, n3, n4, n5, n6⟩ := HS.out.cells
    have hne : w.heap.size ≠ w1.heap.size := by omega
    go_wp2_with fail
    refine (HK.out 0 (by omega) _ HP0.out).mono ?_
    rintro e wA ⟨tA, rfl, htA, hzA, hbA, hlA, hnA⟩
    have htk := (HS.out.one (m := out) htA hzA hbA hlA hnA)
    have fz := (HS.out.later hbA).frz
    obtain ⟨_, _, _, _, _, k6⟩ := (HS.out.later hbA).cells
    have hwB : w1.heap.size < wA.heap.size := (Array.getElem?_eq_some_iff.1 (HS.out.later hbA).node).1
    have hwn : w1.heap.size ≠ wA.heap.size := by omega
    rw [World.setCell_alloc_past _ _ _ _ hwB] at htk
    have HTK := Lib.hid htk
    clear htk
    clear htA hzA hbA hlA hnA q0 q1 q2 q3 n0 n2 n3 n4 n5 n6
    go_wp2_with fail
    go_ret
    exact HTK.out (by rw [← HM.out, HKP.out]; rfl)
  · -- 14
    have HM : Hid (PL.mkTop 14 p.w p.n (p.kids.map PL.mk) = out) := HE.out.symm
    have HP0 := Lib.hid (HP.out.later (HBX.out))
    have hl0 : w.heap.size < (w1.alloc (.cells (tmCells 14 0 [] (.pointer none) [] [] (.slice none 0 0)) 62)).heap.size := by simp; omega
    obtain ⟨S, hSd⟩ : ∃ S : World → Prop, ∀ W', S W' ↔ Below (w1.alloc (.cells (tmCells 14 0 [] (.pointer none) [] [] (.slice none 0 0)) 62)).heap.size (w1.alloc (.cells (tmCells 14 0 [] (.pointer none) [] [] (.slice none 0 0)) 62)) W' := ⟨_, fun _ => Iff.rfl⟩
    have HSD := Lib.hid hSd
    have HIP : Hid (∀ W', S W' → IsPl W' (.slice a len cap) p.kids) := fun W' h => HP.out.later (HS.out.bel.trans (((HSD.out W').1 h).mono (Nat.le_of_lt hl0)))
    clear hSd
    have cs : ∀ q : InC S, (q.w.cell? ⟨w.heap.size, 0, none⟩ = some (.int .i64 p.op) ∧ q.w.cell? ⟨w.heap.size, 1, none⟩ = some (.int .i64 p.w) ∧ q.w.cell? ⟨w.heap.size, 2, none⟩ = some (.int .i64 p.n) ∧ q.w.cell? ⟨w.heap.size, 3, none⟩ = some (.slice a len cap)) ∧ q.w.frozen? ⟨w1.heap.size, 6, none⟩ = false := fun q => by
      have h := HS.out.later ((HSD.out q.w).1 q.h)
      exact ⟨h.plan, h.frz 6⟩
    have hSl : ∀ W' : World, Below (w1.alloc (.cells (tmCells 14 0 [] (.pointer none) [] [] (.slice none 0 0)) 62)).heap.size (w1.alloc (.cells (tmCells 14 0 [] (.pointer none) [] [] (.slice none 0 0)) 62)) W' → S W' := fun W' hb => (HSD.out W').2 hb
    have hD : Below (w1.alloc (.cells (tmCells 14 0 [] (.pointer none) [] [] (.slice none 0 0)) 62)).heap.size (w1.alloc (.cells (tmCells 14 0 [] (.pointer none) [] [] (.slice none 0 0)) 62)) (w1.alloc (.cells (tmCells 14 0 [] (.pointer none) [] [] (.slice none 0 0)) 62)).drew := (Below.refl _ _).drew
    have hne : Nonempty (InC S) := ⟨⟨_, hSl _ hD⟩⟩
    go_wp2_with fail
    refine wp_region_mix S [0, 1, 3, 6, 7] [0, 1, 3, 2, 4, 5, 6, 7, 8] (by kernel_rfl) (by kernel_rfl) (hSl _ hD) ?_
    (repeat (refine wpMix_read rfl rfl ?_; go_big_quiet_step (fail); refine wpQuiet_nil ?_))
    refine wpMix_eff (k := true) rfl rfl (by kernel_rfl) ?_
    go_wp2_with (go_at_call 67; refine (HK.out 0 (by omega) _ (HIP.out _ (hSl _ hD))).mono ?_; rintro e wA ⟨tA, rfl, htA, hzA, hbA, hlA, hnA⟩)
    have hD2 := ext_step hD hbA
    refine mixPost_keep (hSl _ hD2) ?_
    (repeat (refine wpMix_read rfl rfl ?_; go_big_quiet_step (fail); refine wpQuiet_nil ?_))
    refine wpMix_eff (k := true) rfl rfl (by kernel_rfl) ?_
    go_wp2_with (go_at_call 67; refine (HK.out 1 (by omega) _ (HIP.out _ (hSl _ hD2))).mono ?_; rintro e wB ⟨tB, rfl, htB, hzB, hbB, hlB, hnB⟩)
    have hD3 := ext_step hD2 hbB
    refine mixPost_keep (hSl _ hD3) ?_
    refine wpMix_eff (k := true) rfl rfl (by kernel_rfl) ?_
    have htk := (HS.out.two (m := out) hD htA hzA hbA hlA hnA htB hzB hbB hlB hnB)
    have hD4 := ext_alloc hD3 (.cells #[ptr tA.b, ptr tB.b] 56)
    have fz := (HS.out.later hD3).frz
    obtain ⟨_, _, _, _, _, n6⟩ := (HS.out.later hD3).cells
    have hwB : w1.heap.size < wB.heap.size := (Array.getElem?_eq_some_iff.1 (HS.out.later hD3).node).1
    have hwn : w1.heap.size ≠ wB.heap.size := by omega
    rw [World.setCell_alloc_past _ _ _ _ hwB] at htk
    have HTK := Lib.hid htk
    clear htk
    clear htA hzA hbA hlA hnA htB hzB hbB hlB hnB hD hD2 hD3
    go_wp2_with fail
    refine mixPost_keep (hSl _ hD4) ?_
    (repeat (refine wpMix_read rfl rfl ?_; go_big_quiet_step (fail); refine wpQuiet_nil ?_))
    refine wpMix_eff (k := false) rfl rfl (by kernel_rfl) ?_
    clear hne cs hSl hD4
    go_wp2_with fail
    refine mixPost_last ?_
    refine wpMix_nil ?_
    go_wp2_with fail
    go_ret
    exact HTK.out (by rw [← HM.out, HKP.out, HKP.out]; rfl)
  · -- 15
    have HM : Hid (PL.mkTop 15 p.w p.n (p.kids.map PL.mk) = out) := HE.out.symm
    have HP0 := Lib.hid (HP.out.later (HBX.out))
    have hl0 : w.heap.size < (w1.alloc (.cells (tmCells 15 0 [] (.pointer none) [] [] (.slice none 0 0)) 62)).heap.size := by simp; omega
    obtain ⟨S, hSd⟩ : ∃ S : World → Prop, ∀ W', S W' ↔ Below (w1.alloc (.cells (tmCells 15 0 [] (.pointer none) [] [] (.slice none 0 0)) 62)).heap.size (w1.alloc (.cells (tmCells 15 0 [] (.pointer none) [] [] (.slice none 0 0)) 62)) W' := ⟨_, fun _ => Iff.rfl⟩
    have HSD := Lib.hid hSd
    have HIP : Hid (∀ W', S W' → IsPl W' (.slice a len cap) p.kids) := fun W' h => HP.out.later (HS.out.bel.trans (((HSD.out W').1 h).mono (Nat.le_of_lt hl0)))
    clear hSd
    have cs : ∀ q : InC S, (q.w.cell? ⟨w.heap.size, 0, none⟩ = some (.int .i64 p.op) ∧ q.w.cell? ⟨w.heap.size, 1, none⟩ = some (.int .i64 p.w) ∧ q.w.cell? ⟨w.heap.size, 2, none⟩ = some (.int .i64 p.n) ∧ q.w.cell? ⟨w.heap.size, 3, none⟩ = some (.slice a len cap)) ∧ q.w.frozen? ⟨w1.heap.size, 6, none⟩ = false := fun q => by
      have h := HS.out.later ((HSD.out q.w).1 q.h)
      exact ⟨h.plan, h.frz 6⟩
    have hSl : ∀ W' : World, Below (w1.alloc (.cells (tmCells 15 0 [] (.pointer none) [] [] (.slice none 0 0)) 62)).heap.size (w1.alloc (.cells (tmCells 15 0 [] (.pointer none) [] [] (.slice none 0 0)) 62)) W' → S W' := fun W' hb => (HSD.out W').2 hb
    have hD : Below (w1.alloc (.cells (tmCells 15 0 [] (.pointer none) [] [] (.slice none 0 0)) 62)).heap.size (w1.alloc (.cells (tmCells 15 0 [] (.pointer none) [] [] (.slice none 0 0)) 62)) (w1.alloc (.cells (tmCells 15 0 [] (.pointer none) [] [] (.slice none 0 0)) 62)).drew := (Below.refl _ _).drew
    have hne : Nonempty (InC S) := ⟨⟨_, hSl _ hD⟩⟩
    go_wp2_with fail
    refine wp_region_mix S [0, 1, 3, 6, 7] [0, 1, 3, 2, 4, 5, 6, 7, 8] (by kernel_rfl) (by kernel_rfl) (hSl _ hD) ?_
    (repeat (refine wpMix_read rfl rfl ?_; go_big_quiet_step (fail); refine wpQuiet_nil ?_))
    refine wpMix_eff (k := true) rfl rfl (by kernel_rfl) ?_
    go_wp2_with (go_at_call 67; refine (HK.out 0 (by omega) _ (HIP.out _ (hSl _ hD))).mono ?_; rintro e wA ⟨tA, rfl, htA, hzA, hbA, hlA, hnA⟩)
    have hD2 := ext_step hD hbA
    refine mixPost_keep (hSl _ hD2) ?_
    (repeat (refine wpMix_read rfl rfl ?_; go_big_quiet_step (fail); refine wpQuiet_nil ?_))
    refine wpMix_eff (k := true) rfl rfl (by kernel_rfl) ?_
    go_wp2_with (go_at_call 67; refine (HK.out 1 (by omega) _ (HIP.out _ (hSl _ hD2))).mono ?_; rintro e wB ⟨tB, rfl, htB, hzB, hbB, hlB, hnB⟩)
    have hD3 := ext_step hD2 hbB
    refine mixPost_keep (hSl _ hD3) ?_
    refine wpMix_eff (k := true) rfl rfl (by kernel_rfl) ?_
    have htk := (HS.out.two (m := out) hD htA hzA hbA hlA hnA htB hzB hbB hlB hnB)
    have hD4 := ext_alloc hD3 (.cells #[ptr tA.b, ptr tB.b] 56)
    have fz := (HS.out.later hD3).frz
    obtain ⟨_, _, _, _, _, n6⟩ := (HS.out.later hD3).cells
    have hwB : w1.heap.size < wB.heap.size := (Array.getElem?_eq_some_iff.1 (HS.out.later hD3).node).1
    have hwn : w1.heap.size ≠ wB.heap.size := by omega
    rw [World.setCell_alloc_past _ _ _ _ hwB] at htk
    have HTK := Lib.hid htk
    clear htk
    clear htA hzA hbA hlA hnA htB hzB hbB hlB hnB hD hD2 hD3
    go_wp2_with fail
    refine mixPost_keep (hSl _ hD4) ?_
    (repeat (refine wpMix_read rfl rfl ?_; go_big_quiet_step (fail); refine wpQuiet_nil ?_))
    refine wpMix_eff (k := false) rfl rfl (by kernel_rfl) ?_
    clear hne cs hSl hD4
    go_wp2_with fail
    refine mixPost_last ?_
    refine wpMix_nil ?_
    go_wp2_with fail
    go_ret
    exact HTK.out (by rw [← HM.out, HKP.out, HKP.out]; rfl)
/-- Plan.Make: at whatever plan -/
theorem Make_any (p : PL) (sv : Value) (w : World) (hp : IsPl w sv p.kids) : Calls Tryz.prog 29 #[plV p sv] w (TmPost w p.mk) := by
  have key : ∀ n (p : PL), p.sz ≤ n → ∀ sv w, IsPl w sv p.kids → Calls Tryz.prog 29 #[plV p sv] w (TmPost w p.mk) := by
    intro n
    induction n with
    | zero => intro p hn; have := p.sz_eq; omega
    | succ n ih =>
      intro p hn sv w hp
      refine Make_step p sv w hp fun k hk W sv' hW => ih k ?_ sv' W hW
      have := PL.mem_szs hk
      have := p.sz_eq
      omega
  exact key p.sz p (Nat.le_refl _) sv w hp
end Go.Proofs.YticpjjmacmmpjaaGreatDoor
