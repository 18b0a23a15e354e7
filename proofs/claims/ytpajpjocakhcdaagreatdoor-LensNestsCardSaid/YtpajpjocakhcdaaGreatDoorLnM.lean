/-
  Terms made of plans, walked through the program.
-/
import Derived.Test.YtpajpjocakhcdaaGreatDoorLnP
import Derived.Test.YtpajpjocakhcdaaGreatDoorReA
import Derived.Test.YtpajpjocakhcdaaGreatDoorLnT
import Derived.Test.YtpajpjocakhcdaaGreatDoorTxW
set_option linter.unusedSimpArgs false
set_option linter.unusedVariables false
set_option maxRecDepth 100000
set_option linter.unnecessarySimpa false
namespace Go.Proofs.YtpajpjocakhcdaaGreatDoor
open Go.RowKit
theorem Few_any (p : PL) (sv : Value) (w : World) (h : IsPl w sv p.kids) :
    Calls Tryz.prog 14 #[plV p sv] w fun e w' => e = .returned (.bool (decide (PL.cnt 0 p ≤ 30))) ∧ Below w.heap.size w w' := by
  have HC := Lib.hid (fun W (h : IsPl W sv p.kids) => Count_any 11 0 (by omega) p sv W h)
  have HI := Lib.hid h
  obtain ⟨a2, cap2, _, _, _, rfl, _⟩ := h.open
  clear h
  generalize PL.cnt 0 p = c at *
  go_enter Tryz.func14, Tryz.ntmps14
  go_wp2_with fail
  refine (HC.out _ (HI.out.later (by repeat (first | exact Below.refl _ _ | assumption | refine Below.drew ?_ | refine ext_drewN ?_ _ | refine ext_alloc ?_ _ | refine Below.setCell ?_ (by (try simp only [World.size_alloc, World.size_setCell, World.size_drew]); omega) _ | refine ext_step ?_ (by assumption))))).mono ?_
  rintro e w1 ⟨rfl, hb⟩
  have hB : Below w.heap.size w w1 := by repeat (first | exact Below.refl _ _ | assumption | refine Below.drew ?_ | refine ext_drewN ?_ _ | refine ext_alloc ?_ _ | refine Below.setCell ?_ (by (try simp only [World.size_alloc, World.size_setCell, World.size_drew]); omega) _ | refine ext_step ?_ (by assumption))
  go_wp2_with fail
  go_ret
  exact ⟨congrArg (fun b => Ending.returned (.bool b)) (by simp; omega), hB⟩
theorem u64_nonneg (n : Int) : 0 ≤ IntKind.u64.wrap n := by
  simp only [IntKind.wrap, IntKind.bits, IntKind.signed]
  exact Int.emod_nonneg _ (by decide)
/-- what is left of a number as one without a sign -/
def uMod (n : Int) (m : Nat) : Nat := ((IntKind.u64.wrap n).tmod (m : Int)).toNat
theorem uMod_eq (n : Int) (m : Nat) : (IntKind.u64.wrap n).tmod (m : Int) = (uMod n m : Nat) := by
  unfold uMod
  rw [Int.toNat_of_nonneg (Int.tmod_nonneg _ (u64_nonneg n))]
theorem uMod_lt (n : Int) (m : Nat) (h : 0 < m) : uMod n m < m := by
  have := Int.tmod_lt_of_pos (IntKind.u64.wrap n) (b := (m : Int)) (by omega)
  have h2 := Int.tmod_nonneg (m : Int) (u64_nonneg n)
  unfold uMod; omega
def PL.opN (p : PL) : Nat := 2 + uMod p.op 16
theorem op_any (p : PL) (a : Option Addr) (n cap : Nat) (w : World) :
    Calls Tryz.prog 49 #[plV p (.slice a n cap)] w fun e w' => e = .returned (.int .i64 (p.opN : Nat)) ∧ Below w.heap.size w w' := by
  have hu : (IntKind.u64.wrap p.op).tmod 16 = (uMod p.op 16 : Nat) := uMod_eq p.op 16
  have hl := uMod_lt p.op 16 (by omega)
  have HO : Hid (p.opN = 2 + uMod p.op 16) := rfl
  generalize uMod p.op 16 = m at *
  have hB := ext_alloc (Below.refl w.heap.size w) (.cells #[.int .i64 p.op, .int .i64 p.w, .int .i64 p.n, .slice a n cap] 24)
  go_enter Tryz.func49, Tryz.ntmps49
  go_wp2_with fail
  go_ret
  exact ⟨by rw [HO.out]; go_num, hB⟩
def textL : List (List UInt8) := [[], [97], [98], [97, 98], [120, 59, 121], [34, 113, 34], [10]]
def textN (n : Int) : List UInt8 := textL.getD (uMod n 7) []
theorem Text_any (n : Int) (w : World) :
    Calls Tryz.prog 51 #[.int .i64 n] w (StrPost (textN n) w) := by
  have hu : (IntKind.u64.wrap n).tmod 7 = (uMod n 7 : Nat) := uMod_eq n 7
  have hl := uMod_lt n 7 (by omega)
  have HO : Hid (textN n = textL.getD (uMod n 7) []) := rfl
  generalize uMod n 7 = m at *
  have hB := ext_alloc (Below.refl w.heap.size w) (.cells #[.string ⟨#[]⟩, .string ⟨#[97]⟩, .string ⟨#[98]⟩, .string ⟨#[97, 98]⟩, .string ⟨#[120, 59, 121]⟩, .string ⟨#[34, 113, 34]⟩, .string ⟨#[10]⟩] 9)
  have hm : m = 0 ∨ m = 1 ∨ m = 2 ∨ m = 3 ∨ m = 4 ∨ m = 5 ∨ m = 6 := by omega
  generalize textN n = t at *
  clear hl
  rcases hm with rfl | rfl | rfl | rfl | rfl | rfl | rfl
  all_goals
    go_enter Tryz.func51, Tryz.ntmps51
    go_wp2_with fail
    go_ret
    exact ⟨by rw [HO.out]; rfl, hB⟩
namespace RE
def exA : RE := wordL [97]
def exB : RE := wordL [98]
/-- one of few expressions -/
def exprN : Nat → RE
  | 0 => exA
  | 1 => exB
  | 2 => wordL [97, 98]
  | 3 => many (some exA)
  | 4 => anyL [some exA, some exB]
  | 5 => many (some (anyL [some exA, some exB]))
  | 6 => thenL [some exA, some (many (some exB))]
  | 7 => empty
  | _ => wordL [59]
theorem nf_wordL (l : List UInt8) : nf (wordL l) := nf_thenL fun r hr => by
  obtain ⟨b, _, hb⟩ := List.mem_map.1 hr
  have hb : byteRE b = r := by simpa using hb
  rw [← hb]; exact nf_one _
theorem exA_op : exA.op = 2 := by decide +kernel
theorem nf_pair {a b : RE} (ha : nf a) (hb : nf b) : nfO [some a, some b] := fun r hr => by
  simp only [List.mem_cons, Option.some.injEq, List.not_mem_nil, or_false] at hr
  rcases hr with rfl | rfl
  · exact ha
  · exact hb
theorem nf_exprN (m : Nat) : nf (exprN m) := by
  unfold exprN
  split
  · exact nf_wordL _
  · exact nf_wordL _
  · exact nf_wordL _
  · exact nf_many fun r hr => by cases hr; exact nf_wordL _
  · exact nf_anyL (nf_pair (nf_wordL _) (nf_wordL _))
  · exact nf_many fun r hr => by cases hr; exact nf_anyL (nf_pair (nf_wordL _) (nf_wordL _))
  · exact nf_thenL (nf_pair (nf_wordL _) (nf_many fun r hr => by cases hr; exact nf_wordL _))
  · exact nf_empty
  · exact nf_wordL _
theorem size_wordL (l : List UInt8) : (wordL l).size ≤ 1 + 2 * l.length := by
  have h := size_thenL (l.map fun b => some (byteRE b))
  have e : sizeOs (l.map fun b => some (byteRE b)) = 2 * l.length := by
    induction l with
    | nil => rfl
    | cons a l ih =>
      have h1 : (byteRE a).size = 1 := one_size _
      simp only [sizeOs, List.map_cons, List.sum_cons, sizeO, h1, List.length_cons] at ih ⊢
      have := size_thenL (l.map fun b => some (byteRE b))
      rw [ih this]; omega
  unfold wordL; omega
theorem size_exprN (m : Nat) : (exprN m).size ≤ 30 := by
  have hA : exA.size ≤ 3 := size_wordL [97]
  have hB : exB.size ≤ 3 := size_wordL [98]
  have hM := size_many (some exB)
  have h4 := size_anyL [some exA, some exB]
  have h5 := size_many (some (anyL [some exA, some exB]))
  have h6 := size_thenL [some exA, some (many (some exB))]
  simp only [sizeOs, List.map_cons, List.map_nil, List.sum_cons, List.sum_nil, sizeO] at h4 h5 h6 hM
  unfold exprN
  split
  · omega
  · omega
  · have := size_wordL [97, 98]; simp at this; omega
  · have := size_many (some exA); simp only [sizeO] at this; omega
  · omega
  · omega
  · omega
  · simp [empty, size, sizes]
  · have := size_wordL [59]; simp at this; omega
end RE
theorem listO_two {w : World} {b b' : Nat} {r r' : RE} (h : IsRe w b r) (h' : IsRe w b' r') : ListO (w.alloc (.cells #[ptr b, ptr b'] 39)) (some ⟨w.heap.size, 0, none⟩) [some r, some r'] := .inr ⟨w.heap.size, 0, rfl, fun i hi => by
  have : i = 0 ∨ i = 1 := by simp at hi; omega
  rcases this with rfl | rfl
  · exact ⟨ptr b, by rw [cell_of_row _ _ _ _ _ _ (heap_alloc_last w _)]; rfl, b, rfl, h.later (Nat.le_refl _) (re_alloc w _)⟩
  · exact ⟨ptr b', by rw [cell_of_row _ _ _ _ _ _ (heap_alloc_last w _)]; rfl, b', rfl, h'.later (Nat.le_refl _) (re_alloc w _)⟩⟩
set_option maxRecDepth 100000 in
set_option maxHeartbeats 4000000 in
theorem Expr_any (n : Int) (w : World) :
    Calls Tryz.prog 50 #[.int .i64 n] w (RePost w (RE.exprN (uMod n 9))) := by
  have HU : Hid ((IntKind.u64.wrap n).tmod 9 = (uMod n 9 : Nat)) := uMod_eq n 9
  have HL := Lib.hid (uMod_lt n 9 (by omega))
  have hA3 : RE.exA.size ≤ 3 := RE.size_wordL [97]
  have hB3 : RE.exB.size ≤ 3 := RE.size_wordL [98]
  have HM1 : Hid (RE.sizeO (some RE.exA) ≤ 1099511627775) := by show RE.exA.size ≤ _; omega
  have HM2 : Hid (RE.sizeO (some (RE.anyL [some RE.exA, some RE.exB])) ≤ 1099511627775) := by
    show RE.size _ ≤ _
    have := RE.size_anyL [some RE.exA, some RE.exB]
    simp only [RE.sizeOs, List.map_cons, List.map_nil, List.sum_cons, List.sum_nil, RE.sizeO] at this; omega
  have HM3 : Hid (RE.sizeO (some RE.exB) ≤ 1099511627775) := by show RE.exB.size ≤ _; omega
  have HF4 : Hid (RE.sizes (RE.flat 4 [some RE.exA, some RE.exB]) ≤ 1099511627775) := by
    show RE.sizes _ ≤ _
    have := RE.sizes_flat 4 [some RE.exA, some RE.exB]
    simp only [RE.sizeOs, List.map_cons, List.map_nil, List.sum_cons, List.sum_nil, RE.sizeO] at this; omega
  have HF3 : Hid (RE.sizes (RE.flat 3 [some RE.exA, some (RE.many (some RE.exB))]) ≤ 1099511627775) := by
    show RE.sizes _ ≤ _
    have := RE.sizes_flat 3 [some RE.exA, some (RE.many (some RE.exB))]
    have h2 := RE.size_many (some RE.exB)
    simp only [RE.sizeOs, List.map_cons, List.map_nil, List.sum_cons, List.sum_nil, RE.sizeO] at this h2; omega
  have HN4 : Hid (RE.nfO [some RE.exA, some RE.exB]) := RE.nf_pair (RE.nf_wordL _) (RE.nf_wordL _)
  have HN3 : Hid (RE.nfO [some RE.exA, some (RE.many (some RE.exB))]) := RE.nf_pair (RE.nf_wordL _) (RE.nf_many fun r hr => by cases hr; exact RE.nf_wordL _)
  have HE : Hid (∀ m, RE.exprN m = RE.exprN m) := fun _ => rfl
  clear hA3 hB3
  generalize uMod n 9 = m at *
  go_enter Tryz.func50, Tryz.ntmps50
  go_wp2_with fail
  refine (Word_any [97] (by simp) _).mono ?_
  rintro e w1 ⟨bA, rfl, hA, hB1⟩
  have hA : IsRe w1 bA RE.exA := hA
  have HA := Lib.hid hA
  have HB := Lib.hid hB1
  clear hA hB1
  go_wp2_with fail
  refine (Word_any [98] (by simp) _).mono ?_
  rintro e w2 ⟨bB, rfl, hB, hb2⟩
  have hB : IsRe w2 bB RE.exB := hB
  have HA2 := Lib.hid (HA.out.later (Nat.le_refl _) hb2)
  have HBB := Lib.hid hB
  have HB2 := Lib.hid (ext_step HB.out hb2)
  clear hB hb2 HA HB
  go_wp2_with fail
  refine (Word_any [97, 98] (by simp) _).mono ?_
  rintro e w3 ⟨b2, rfl, h2, hb3⟩
  have HA3 := Lib.hid (HA2.out.later (Nat.le_refl _) hb3)
  have HBB3 := Lib.hid (HBB.out.later (Nat.le_refl _) hb3)
  have H2 := Lib.hid h2
  have HB3 := Lib.hid (ext_step HB2.out hb3)
  clear h2 hb3 HA2 HBB HB2
  go_wp2_with fail
  refine (Many_any (ptr bA) (some RE.exA) _ ⟨bA, rfl, HA3.out⟩ HM1.out).mono ?_
  rintro e w4 ⟨b3, rfl, h3, hb4⟩
  have HA4 := Lib.hid (HA3.out.later (Nat.le_refl _) hb4)
  have HBB4 := Lib.hid (HBB3.out.later (Nat.le_refl _) hb4)
  have H24 := Lib.hid (H2.out.later (Nat.le_refl _) hb4)
  have H3 := Lib.hid h3
  have HB4 := Lib.hid (ext_step HB3.out hb4)
  clear h3 hb4 HA3 HBB3 H2 HB3
  go_wp2_with fail
  refine (Any_any (some ⟨w4.heap.size, 0, none⟩) 2 [some RE.exA, some RE.exB] _ (listO_two HA4.out HBB4.out) HN4.out HF4.out (by simp)).mono ?_
  rintro e w5 ⟨b4, rfl, h4, hb5⟩
  have hb5 : Below w4.heap.size w4 w5 := (re_alloc w4 _).trans (hb5.mono (by simp))
  have HA5 := Lib.hid (HA4.out.later (Nat.le_refl _) hb5)
  have HBB5 := Lib.hid (HBB4.out.later (Nat.le_refl _) hb5)
  have H25 := Lib.hid (H24.out.later (Nat.le_refl _) hb5)
  have H35 := Lib.hid (H3.out.later (Nat.le_refl _) hb5)
  have H4 := Lib.hid h4
  have HB5 := Lib.hid (ext_step HB4.out hb5)
  clear h4 hb5 HA4 HBB4 H24 H3 HB4
  go_wp2_with fail
  refine (Any_any (some ⟨w5.heap.size, 0, none⟩) 2 [some RE.exA, some RE.exB] _ (listO_two HA5.out HBB5.out) HN4.out HF4.out (by simp)).mono ?_
  rintro e w6 ⟨b5', rfl, h5', hb6⟩
  have hb6 : Below w5.heap.size w5 w6 := (re_alloc w5 _).trans (hb6.mono (by simp))
  have HA6 := Lib.hid (HA5.out.later (Nat.le_refl _) hb6)
  have HBB6 := Lib.hid (HBB5.out.later (Nat.le_refl _) hb6)
  have H26 := Lib.hid (H25.out.later (Nat.le_refl _) hb6)
  have H36 := Lib.hid (H35.out.later (Nat.le_refl _) hb6)
  have H46 := Lib.hid (H4.out.later (Nat.le_refl _) hb6)
  have H5' := Lib.hid h5'
  have HB6 := Lib.hid (ext_step HB5.out hb6)
  clear h5' hb6 HA5 HBB5 H25 H35 H4 HB5
  go_wp2_with fail
  refine (Many_any (ptr b5') (some (RE.anyL [some RE.exA, some RE.exB])) _ ⟨b5', rfl, H5'.out⟩ HM2.out).mono ?_
  rintro e w7 ⟨b5, rfl, h5, hb7⟩
  have HA7 := Lib.hid (HA6.out.later (Nat.le_refl _) hb7)
  have HBB7 := Lib.hid (HBB6.out.later (Nat.le_refl _) hb7)
  have H27 := Lib.hid (H26.out.later (Nat.le_refl _) hb7)
  have H37 := Lib.hid (H36.out.later (Nat.le_refl _) hb7)
  have H47 := Lib.hid (H46.out.later (Nat.le_refl _) hb7)
  have H5 := Lib.hid h5
  have HB7 := Lib.hid (ext_step HB6.out hb7)
  clear h5 hb7 HA6 HBB6 H26 H36 H46 HB6 H5'
  go_wp2_with fail
  refine (Many_any (ptr bB) (some RE.exB) _ ⟨bB, rfl, HBB7.out⟩ HM3.out).mono ?_
  rintro e w8 ⟨b6', rfl, h6', hb8⟩
  have HA8 := Lib.hid (HA7.out.later (Nat.le_refl _) hb8)
  have HBB8 := Lib.hid (HBB7.out.later (Nat.le_refl _) hb8)
  have H28 := Lib.hid (H27.out.later (Nat.le_refl _) hb8)
  have H38 := Lib.hid (H37.out.later (Nat.le_refl _) hb8)
  have H48 := Lib.hid (H47.out.later (Nat.le_refl _) hb8)
  have H58 := Lib.hid (H5.out.later (Nat.le_refl _) hb8)
  have H6' := Lib.hid h6'
  have HB8 := Lib.hid (ext_step HB7.out hb8)
  clear h6' hb8 HA7 HBB7 H27 H37 H47 HB7 H5
  go_wp2_with fail
  refine (Then_any (some ⟨w8.heap.size, 0, none⟩) 2 [some RE.exA, some (RE.many (some RE.exB))] _ (listO_two HA8.out H6'.out) HN3.out HF3.out (by simp)).mono ?_
  rintro e w9 ⟨b6, rfl, h6, hb9⟩
  have hb9 : Below w8.heap.size w8 w9 := (re_alloc w8 _).trans (hb9.mono (by simp))
  have HA9 := Lib.hid (HA8.out.later (Nat.le_refl _) hb9)
  have HBB9 := Lib.hid (HBB8.out.later (Nat.le_refl _) hb9)
  have H29 := Lib.hid (H28.out.later (Nat.le_refl _) hb9)
  have H39 := Lib.hid (H38.out.later (Nat.le_refl _) hb9)
  have H49 := Lib.hid (H48.out.later (Nat.le_refl _) hb9)
  have H59 := Lib.hid (H58.out.later (Nat.le_refl _) hb9)
  have H6 := Lib.hid h6
  have HB9 := Lib.hid (ext_step HB8.out hb9)
  clear h6 hb9 HA8 HBB8 H28 H38 H48 HB8 H58 H6'
  go_wp2_with fail
  refine (EmptyRe_any _).mono ?_
  rintro e w10 ⟨b7, rfl, h7, hb10⟩
  have HA10 := Lib.hid (HA9.out.later (Nat.le_refl _) hb10)
  have HBB10 := Lib.hid (HBB9.out.later (Nat.le_refl _) hb10)
  have H210 := Lib.hid (H29.out.later (Nat.le_refl _) hb10)
  have H310 := Lib.hid (H39.out.later (Nat.le_refl _) hb10)
  have H410 := Lib.hid (H49.out.later (Nat.le_refl _) hb10)
  have H510 := Lib.hid (H59.out.later (Nat.le_refl _) hb10)
  have H610 := Lib.hid (H6.out.later (Nat.le_refl _) hb10)
  have H7 := Lib.hid h7.is
  have HB10 := Lib.hid (ext_step HB9.out hb10)
  clear h7 hb10 HA9 HBB9 H29 H39 H49 HB9 H59 H6
  go_wp2_with fail
  refine (Word_any [59] (by simp) _).mono ?_
  rintro e w11 ⟨b8, rfl, h8, hb11⟩
  have hwo : ∀ (b : Nat) (r : RE), IsRe w10 b r → IsRe (w11.alloc (.cells #[ptr bA, ptr bB, ptr b2, ptr b3, ptr b4, ptr b5, ptr b6, ptr b7, ptr b8] 39)) b r := fun _ _ h => (h.later (Nat.le_refl _) hb11).later (Nat.le_refl _) (re_alloc w11 _)
  have HWO := Lib.hid hwo
  have H8 := Lib.hid (h8.later (Nat.le_refl _) (re_alloc w11 (.cells #[ptr bA, ptr bB, ptr b2, ptr b3, ptr b4, ptr b5, ptr b6, ptr b7, ptr b8] 39)))
  have HB11 : Hid (Below w.heap.size w (w11.alloc (.cells #[ptr bA, ptr bB, ptr b2, ptr b3, ptr b4, ptr b5, ptr b6, ptr b7, ptr b8] 39))) := ext_alloc (ext_step HB10.out hb11) _
  clear h8 hb11 hwo
  have hu := HU.out
  have hm : m = 0 ∨ m = 1 ∨ m = 2 ∨ m = 3 ∨ m = 4 ∨ m = 5 ∨ m = 6 ∨ m = 7 ∨ m = 8 := by have := HL.out; omega
  rcases hm with rfl | rfl | rfl | rfl | rfl | rfl | rfl | rfl | rfl
  all_goals
    go_wp2_with fail
    go_ret
  · exact ⟨bA, rfl, HWO.out _ _ HA10.out, HB11.out⟩
  · exact ⟨bB, rfl, HWO.out _ _ HBB10.out, HB11.out⟩
  · exact ⟨b2, rfl, HWO.out _ _ H210.out, HB11.out⟩
  · exact ⟨b3, rfl, HWO.out _ _ H310.out, HB11.out⟩
  · exact ⟨b4, rfl, HWO.out _ _ H410.out, HB11.out⟩
  · exact ⟨b5, rfl, HWO.out _ _ H510.out, HB11.out⟩
  · exact ⟨b6, rfl, HWO.out _ _ H610.out, HB11.out⟩
  · exact ⟨b7, rfl, HWO.out _ _ H7.out, HB11.out⟩
  · exact ⟨b8, rfl, H8.out, HB11.out⟩
end Go.Proofs.YtpajpjocakhcdaaGreatDoor
