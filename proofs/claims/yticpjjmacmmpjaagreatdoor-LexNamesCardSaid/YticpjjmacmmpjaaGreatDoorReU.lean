/-
  What is asked of expressions (the text by which they are told apart, whether they are the same, their size), and lists of them put in order, each once: walked through the program.
-/
import Derived.Test.YticpjjmacmmpjaaGreatDoorReIn
import Derived.Test.YticpjjmacmmpjaaGreatDoorReN
import Derived.Shelf.SlSortCmp.NoneTotal
import Derived.Shelf.SlGeneric
import Derived.Ground.SlsfProg
import Derived.Sort.Walk0
import Derived.WalkLawsBesides
import Derived.Deep.QuietTactic
import Derived.Deep.LoopGhost
set_option linter.unusedSimpArgs false
set_option linter.unusedVariables false
set_option maxRecDepth 100000
set_option linter.unnecessarySimpa false
namespace Go.Proofs
shelf_lay_g SlLaysF.n6 Slsf 6 at Tryz 165 as Tryz.laysSort
namespace YticpjjmacmmpjaaGreatDoor
open Go.RowKit Go.Sort Go.Lib

theorem Key_any (v : Value) (o : Option RE) (w : World) (h : IsReO w v o) :
    Calls Tryz.prog 54 #[v] w fun e w' => e = .returned (.string ⟨(RE.keyO o).toArray⟩) ∧ w' = w := by
  cases o with
  | none =>
    have hv : v = .pointer none := h
    subst hv
    go_enter Tryz.func54, Tryz.ntmps54
    go_wp2
    go_ret
    exact ⟨rfl, rfl⟩
  | some r =>
    obtain ⟨b, rfl, hb⟩ := h
    obtain ⟨kp1, cap1, bs1, hnode, _, _⟩ := hb.open
    have hc : w.cell? ⟨b, 2 + 3 + 2, none⟩ = some (.string ⟨r.key.toArray⟩) := by rw [cell_of_row _ _ _ _ _ _ hnode]; rfl
    clear hnode hb
    go_enter Tryz.func54, Tryz.ntmps54
    go_wp2
    go_ret
    exact ⟨rfl, rfl⟩
theorem Size_any (v : Value) (o : Option RE) (w : World) (h : IsReO w v o) :
    Calls Tryz.prog 25 #[v] w fun e w' => e = .returned (.int .i64 (RE.sizeO o : Nat)) ∧ w' = w := by
  cases o with
  | none =>
    have hv : v = .pointer none := h
    subst hv
    go_enter Tryz.func25, Tryz.ntmps25
    go_wp2
    go_ret
    exact ⟨rfl, rfl⟩
  | some r =>
    obtain ⟨b, rfl, hb⟩ := h
    obtain ⟨kp1, cap1, bs1, hnode, _, _⟩ := hb.open
    have hc : w.cell? ⟨b, 2 + 3 + 3, none⟩ = some (.int .i64 (r.size : Nat)) := by rw [cell_of_row _ _ _ _ _ _ hnode]; rfl
    clear hnode hb
    go_enter Tryz.func25, Tryz.ntmps25
    go_wp2
    go_ret
    exact ⟨rfl, rfl⟩
theorem Null_asks : Asks 129 RE.null := by
  intro W b r hb
  obtain ⟨kp1, cap1, bs1, hnode, _, _⟩ := hb.open
  have hc : W.cell? ⟨b, 2 + 3 + 1, none⟩ = some (.bool r.null) := by rw [cell_of_row _ _ _ _ _ _ hnode]; rfl
  clear hnode hb
  go_enter Tryz.func129, Tryz.ntmps129
  go_wp2
  go_ret
  exact ⟨rfl, rfl⟩
theorem beq_bytes (l l' : List UInt8) : ((⟨l.toArray⟩ : ByteArray).toList == (⟨l'.toArray⟩ : ByteArray).toList) = decide (l = l') := by
  rw [Lib.toList_data, Lib.toList_data]
  by_cases h : l = l'
  · simp [h]
  · simp [h]
def sameB (o o' : Option RE) : Bool := decide (RE.keyO o = RE.keyO o')
theorem Same_any (v v' : Value) (o o' : Option RE) (w : World) (h : IsReO w v o) (h' : IsReO w v' o') :
    Calls Tryz.prog 21 #[v, v'] w fun e w' => e = .returned (.bool (sameB o o')) ∧ w' = w := by
  have H1 := Lib.hid (Key_any v o w h)
  have H2 := Lib.hid (Key_any v' o' w h')
  have HB : Hid (((⟨(RE.keyO o).toArray⟩ : ByteArray).toList == (⟨(RE.keyO o').toArray⟩ : ByteArray).toList) = sameB o o') := beq_bytes _ _
  generalize (⟨(RE.keyO o).toArray⟩ : ByteArray) = k at *
  generalize (⟨(RE.keyO o').toArray⟩ : ByteArray) = k' at *
  clear h h'
  go_enter Tryz.func21, Tryz.ntmps21
  go_wp2_with fail
  refine H1.out.mono ?_
  rintro e w' ⟨rfl, rfl⟩
  go_wp2_with fail
  refine H2.out.mono ?_
  rintro e w' ⟨rfl, rfl⟩
  go_wp2_with fail
  go_ret
  exact ⟨congrArg (fun b => Ending.returned (.bool b)) HB.out, rfl⟩
theorem isNaN_any (x : ByteArray) (w : World) : Calls Tryz.prog 182 #[.string x] w fun e w' => e = .returned (.bool false) ∧ w' = w := by
  go_enter Tryz.func182, Tryz.ntmps182
  go_wp2
  go_ret
  exact ⟨by simp, rfl⟩
/-- which of two texts comes first -/
def cmpK (x y : List UInt8) : Int := if x < y then -1 else if y < x then 1 else 0
theorem Compare_any (x y : List UInt8) (w : World) : Calls Tryz.prog 167 #[.string ⟨x.toArray⟩, .string ⟨y.toArray⟩] w fun e w' => e = .returned (.int .i64 (cmpK x y)) ∧ w' = w := by
  have hb : Op.bytesLess (⟨x.toArray⟩ : ByteArray).toList (⟨y.toArray⟩ : ByteArray).toList = decide (x < y) := by rw [bytesLess_eq, Lib.toList_data, Lib.toList_data]
  have he := beq_bytes x y
  have HC : Hid (cmpK x y = if x < y then -1 else if y < x then 1 else 0) := rfl
  generalize cmpK x y = c at *
  generalize (⟨x.toArray⟩ : ByteArray) = k at *
  generalize (⟨y.toArray⟩ : ByteArray) = k' at *
  by_cases h1 : x < y
  · have h2 : c = -1 := by rw [HC.out, if_pos h1]
    subst h2
    rw [decide_eq_true h1] at hb
    clear he h1 HC
    go_enter Tryz.func167, Tryz.ntmps167
    go_wp2_with (go_at_call 182; refine (isNaN_any _ _).mono ?_; rintro e w' ⟨rfl, rfl⟩)
    go_ret
    exact ⟨rfl, rfl⟩
  · by_cases h3 : y < x
    · have h2 : c = 1 := by rw [HC.out, if_neg h1, if_pos h3]
      subst h2
      rw [decide_eq_false h1] at hb
      rw [decide_eq_false (fun e => List.lt_irrefl x (by rw [← e] at h3; exact h3))] at he
      clear h1 h3 HC
      go_enter Tryz.func167, Tryz.ntmps167
      go_wp2_with (go_at_call 182; refine (isNaN_any _ _).mono ?_; rintro e w' ⟨rfl, rfl⟩)
      go_ret
      exact ⟨rfl, rfl⟩
    · have h2 : c = 0 := by rw [HC.out, if_neg h1, if_neg h3]
      subst h2
      rw [decide_eq_false h1] at hb
      rw [decide_eq_true (List.le_antisymm (List.not_lt.1 h3) (List.not_lt.1 h1))] at he
      clear h1 h3 HC
      go_enter Tryz.func167, Tryz.ntmps167
      go_wp2_with (go_at_call 182; refine (isNaN_any _ _).mono ?_; rintro e w' ⟨rfl, rfl⟩)
      go_ret
      exact ⟨rfl, rfl⟩
def CmpPost (c : Int) (w : World) (e : Ending) (w' : World) : Prop := e = .returned (.int .i64 c) ∧ ∃ n, w' = w.drewN n
set_option maxHeartbeats 1600000 in
theorem cmpRe_any (b b' : Nat) (r r' : RE) (w : World) (h : IsRe w b r) (h' : IsRe w b' r') :
    Calls Tryz.prog 166 #[ptr b, ptr b'] w (CmpPost (cmpK r.key r'.key) w) := by
  obtain ⟨kp1, cap1, bs1, hnode, _, _⟩ := h.open
  have hc : w.cell? ⟨b, 2 + 3 + 2, none⟩ = some (.string ⟨r.key.toArray⟩) := by rw [cell_of_row _ _ _ _ _ _ hnode]; rfl
  obtain ⟨kp2, cap2, bs2, hnode', _, _⟩ := h'.open
  have hc' : w.cell? ⟨b', 2 + 3 + 2, none⟩ = some (.string ⟨r'.key.toArray⟩) := by rw [cell_of_row _ _ _ _ _ _ hnode']; rfl
  have HC := Lib.hid (fun W => Compare_any r.key r'.key W)
  generalize cmpK r.key r'.key = c at *
  generalize (⟨r.key.toArray⟩ : ByteArray) = k at *
  generalize (⟨r'.key.toArray⟩ : ByteArray) = k' at *
  clear hnode hnode' h h'
  go_enter Tryz.func166, Tryz.ntmps166
  go_wp2_with fail
  go_quiet ((go_at_call 167; exact Calls.quiet_of_same (HC.out _)))
  go_wp2
  go_ret
  exact ⟨rfl, _, rfl⟩
end YticpjjmacmmpjaaGreatDoor
end Go.Proofs
