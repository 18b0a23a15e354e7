/-
  What is asked of expressions (the text by which they are told apart, whether they are the same, their size), and lists of them put in order, each once: walked through the program.
-/
import Derived.Test.YticpjjmacmmpjaaGreatDoorReIn
import Derived.Test.YticpjjmacmmpjaaGreatDoorReN
import Derived.Shelf.SlSortCmp.NoneTotal
import Derived.Shelf.SlGeneric
import Derived.Ground.SlsfProg
import Derived.Sort.Walk0
import Derived.WalkLawsBesides
import Derived.Deep.QuietTactic
import Derived.Deep.LoopGhost
set_option linter.unusedSimpArgs false
set_option linter.unusedVariables false
set_option maxRecDepth 100000
set_option linter.unnecessarySimpa false
namespace Go.Proofs
open Go.Shelf in
def Tryz.laysSort_ren : Go.Shelf.Ren := ⟨fun | 6 => 165 | 15 => 181 | 14 => 180 | 28 => 196 | 29 => 176 | 20 => 188 | 21 => 189 | 22 => 190 | 23 => 191 | 24 => 192 | 25 => 193 | 26 => 194 | 27 => 195 | 46 => 201 | 47 => 202 | 48 => 203 | 49 => 204 | 50 => 205 | 57 => 207 | n => n, fun | 22 => 113 | 24 => 37 | 25 => 201 | 3 => 3 | 39 => 24 | 0 => 0 | 53 => 208 | 55 => 75 | 4 => 4 | 46 => 218 | 45 => 217 | 50 => 222 | 5 => 5 | 9 => 9 | 66 => 226 | 70 => 230 | 76 => 233 | 77 => 234 | n => n, fun | n => n⟩
open Go.Shelf in
theorem Tryz.laysSort : Go.Proofs.SlLaysF.n6 Tryz.prog Tryz.laysSort_ren := {
  mixed := by kernel_rfl
  f6 := ⟨Tryz.f165.name, by decide, Tryz.func165.trans (congrArg some (by kernel_rfl))⟩
  f14 := ⟨Tryz.f180.name, by decide, Tryz.func180.trans (congrArg some (by kernel_rfl))⟩
  f15 := Tryz.func181.trans (congrArg some (by kernel_rfl))
  f20 := ⟨Tryz.f188.name, by decide, Tryz.func188.trans (congrArg some (by kernel_rfl))⟩
  f21 := ⟨Tryz.f189.name, by decide, Tryz.func189.trans (congrArg some (by kernel_rfl))⟩
  f22 := ⟨Tryz.f190.name, by decide, Tryz.func190.trans (congrArg some (by kernel_rfl))⟩
  f23 := ⟨Tryz.f191.name, by decide, Tryz.func191.trans (congrArg some (by kernel_rfl))⟩
  f24 := ⟨Tryz.f192.name, by decide, Tryz.func192.trans (congrArg some (by kernel_rfl))⟩
  f25 := ⟨Tryz.f193.name, by decide, Tryz.func193.trans (congrArg some (by kernel_rfl))⟩
  f26 := ⟨Tryz.f194.name, by decide, Tryz.func194.trans (congrArg some (by kernel_rfl))⟩
  f27 := ⟨Tryz.f195.name, by decide, Tryz.func195.trans (congrArg some (by kernel_rfl))⟩
  f28 := Tryz.func196.trans (congrArg some (by kernel_rfl))
  f29 := Tryz.func176.trans (congrArg some (by kernel_rfl))
  f46 := ⟨Tryz.f201.name, by decide, Tryz.func201.trans (congrArg some (by kernel_rfl))⟩
  f47 := Tryz.func202.trans (congrArg some (by kernel_rfl))
  f48 := Tryz.func203.trans (congrArg some (by kernel_rfl))
  f49 := ⟨Tryz.f204.name, by decide, Tryz.func204.trans (congrArg some (by kernel_rfl))⟩
  f50 := ⟨Tryz.f205.name, by decide, Tryz.func205.trans (congrArg some (by kernel_rfl))⟩
  f57 := ⟨Tryz.f207.name, by decide, Tryz.func207.trans (congrArg some (by kernel_rfl))⟩
  t0 := Tryz.underlying0
  a0 := Tryz.isAgg0
  z0 := Tryz.sizeOf0
  v0 := Tryz.zeroValue0
  t3 := Tryz.underlying3
  a3 := Tryz.isAgg3
  z3 := Tryz.sizeOf3
  v3 := Tryz.zeroValue3
  t4 := Tryz.underlying4
  a4 := Tryz.isAgg4
  z4 := Tryz.sizeOf4
  v4 := Tryz.zeroValue4
  t5 := Tryz.underlying5
  a5 := Tryz.isAgg5
  z5 := Tryz.sizeOf5
  v5 := Tryz.zeroValue5
  t9 := Tryz.underlying9
  a9 := Tryz.isAgg9
  z9 := Tryz.sizeOf9
  v9 := Tryz.zeroValue9
  t22 := Tryz.underlying113
  a22 := Tryz.isAgg113
  z22 := Tryz.sizeOf113
  v22 := Tryz.zeroValue113
  a24 := Tryz.isAgg37
  z24 := Tryz.sizeOf37
  t25 := Tryz.underlying201
  a25 := Tryz.isAgg201
  z25 := Tryz.sizeOf201
  v25 := Tryz.zeroValue201
  t39 := Tryz.underlying24
  a39 := Tryz.isAgg24
  z39 := Tryz.sizeOf24
  v39 := Tryz.zeroValue24
  t45 := Tryz.underlying217
  a45 := Tryz.isAgg217
  z45 := Tryz.sizeOf217
  v45 := Tryz.zeroValue217
  t46 := Tryz.underlying218
  a46 := Tryz.isAgg218
  z46 := Tryz.sizeOf218
  v46 := Tryz.zeroValue218
  t50 := Tryz.underlying222
  a50 := Tryz.isAgg222
  z50 := Tryz.sizeOf222
  v50 := Tryz.zeroValue222
  t53 := Tryz.underlying208
  a53 := Tryz.isAgg208
  z53 := Tryz.sizeOf208
  v53 := Tryz.zeroValue208
  t55 := Tryz.underlying75
  a55 := Tryz.isAgg75
  z55 := Tryz.sizeOf75
  v55 := Tryz.zeroValue75
  t66 := Tryz.underlying226
  a66 := Tryz.isAgg226
  z66 := Tryz.sizeOf226
  v66 := Tryz.zeroValue226
  t70 := Tryz.underlying230
  a70 := Tryz.isAgg230
  z70 := Tryz.sizeOf230
  v70 := Tryz.zeroValue230
  t76 := Tryz.underlying233
  a76 := Tryz.isAgg233
  z76 := Tryz.sizeOf233
  v76 := Tryz.zeroValue233
  t77 := Tryz.underlying234
  a77 := Tryz.isAgg234
  z77 := Tryz.sizeOf234
  v77 := Tryz.zeroValue234 }
namespace YticpjjmacmmpjaaGreatDoor
open Go.RowKit Go.Sort Go.Lib

theorem Key_any (v : Value) (o : Option RE) (w : World) (h : IsReO w v o) :
    Calls Tryz.prog 54 #[v] w fun e w' => e = .returned (.string ⟨(RE.keyO o).toArray⟩) ∧ w' = w := by
  cases o with
  | none =>
    have hv : v = .pointer none := h
    subst hv
    go_enter Tryz.func54, Tryz.ntmps54
    go_wp2
    go_ret
    exact ⟨rfl, rfl⟩
  | some r =>
    obtain ⟨b, rfl, hb⟩ := h
    obtain ⟨kp1, cap1, bs1, hnode, _, _⟩ := hb.open
    have hc : w.cell? ⟨b, 2 + 3 + 2, none⟩ = some (.string ⟨r.key.toArray⟩) := by rw [cell_of_row _ _ _ _ _ _ hnode]; rfl
    clear hnode hb
    go_enter Tryz.func54, Tryz.ntmps54
    go_wp2
    go_ret
    exact ⟨rfl, rfl⟩
theorem Size_any (v : Value) (o : Option RE) (w : World) (h : IsReO w v o) :
    Calls Tryz.prog 25 #[v] w fun e w' => e = .returned (.int .i64 (RE.sizeO o : Nat)) ∧ w' = w := by
  cases o with
  | none =>
    have hv : v = .pointer none := h
    subst hv
    go_enter Tryz.func25, Tryz.ntmps25
    go_wp2
    go_ret
    exact ⟨rfl, rfl⟩
  | some r =>
    obtain ⟨b, rfl, hb⟩ := h
    obtain ⟨kp1, cap1, bs1, hnode, _, _⟩ := hb.open
    have hc : w.cell? ⟨b, 2 + 3 + 3, none⟩ = some (.int .i64 (r.size : Nat)) := by rw [cell_of_row _ _ _ _ _ _ hnode]; rfl
    clear hnode hb
    go_enter Tryz.func25, Tryz.ntmps25
    go_wp2
    go_ret
    exact ⟨rfl, rfl⟩
theorem Null_asks : Asks 129 RE.null := by
  intro W b r hb
  obtain ⟨kp1, cap1, bs1, hnode, _, _⟩ := hb.open
  have hc : W.cell? ⟨b, 2 + 3 + 1, none⟩ = some (.bool r.null) := by rw [cell_of_row _ _ _ _ _ _ hnode]; rfl
  clear hnode hb
  go_enter Tryz.func129, Tryz.ntmps129
  go_wp2
  go_ret
  exact ⟨rfl, rfl⟩
theorem beq_bytes (l l' : List UInt8) : ((⟨l.toArray⟩ : ByteArray).toList == (⟨l'.toArray⟩ : ByteArray).toList) = decide (l = l') := by
  rw [Lib.toList_data, Lib.toList_data]
  by_cases h : l = l'
  · simp [h]
  · simp [h]
def sameB (o o' : Option RE) : Bool := decide (RE.keyO o = RE.keyO o')
theorem Same_any (v v' : Value) (o o' : Option RE) (w : World) (h : IsReO w v o) (h' : IsReO w v' o') :
    Calls Tryz.prog 21 #[v, v'] w fun e w' => e = .returned (.bool (sameB o o')) ∧ w' = w := by
  have H1 := Lib.hid (Key_any v o w h)
  have H2 := Lib.hid (Key_any v' o' w h')
  have HB : Hid (((⟨(RE.keyO o).toArray⟩ : ByteArray).toList == (⟨(RE.keyO o').toArray⟩ : ByteArray).toList) = sameB o o') := beq_bytes _ _
  generalize (⟨(RE.keyO o).toArray⟩ : ByteArray) = k at *
  generalize (⟨(RE.keyO o').toArray⟩ : ByteArray) = k' at *
  clear h h'
  go_enter Tryz.func21, Tryz.ntmps21
  go_wp2_with fail
  refine H1.out.mono ?_
  rintro e w' ⟨rfl, rfl⟩
  go_wp2_with fail
  refine H2.out.mono ?_
  rintro e w' ⟨rfl, rfl⟩
  go_wp2_with fail
  go_ret
  exact ⟨congrArg (fun b => Ending.returned (.bool b)) HB.out, rfl⟩
theorem isNaN_any (x : ByteArray) (w : World) : Calls Tryz.prog 182 #[.string x] w fun e w' => e = .returned (.bool false) ∧ w' = w := by
  go_enter Tryz.func182, Tryz.ntmps182
  go_wp2
  go_ret
  exact ⟨by simp, rfl⟩
/-- which of two texts comes first -/
def cmpK (x y : List UInt8) : Int := if x < y then -1 else if y < x then 1 else 0
theorem Compare_any (x y : List UInt8) (w : World) : Calls Tryz.prog 167 #[.string ⟨x.toArray⟩, .string ⟨y.toArray⟩] w fun e w' => e = .returned (.int .i64 (cmpK x y)) ∧ w' = w := by
  have hb : Op.bytesLess (⟨x.toArray⟩ : ByteArray).toList (⟨y.toArray⟩ : ByteArray).toList = decide (x < y) := by rw [bytesLess_eq, Lib.toList_data, Lib.toList_data]
  have he := beq_bytes x y
  have HC : Hid (cmpK x y = if x < y then -1 else if y < x then 1 else 0) := rfl
  generalize cmpK x y = c at *
  generalize (⟨x.toArray⟩ : ByteArray) = k at *
  generalize (⟨y.toArray⟩ : ByteArray) = k' at *
  by_cases h1 : x < y
  · have h2 : c = -1 := by rw [HC.out, if_pos h1]
    subst h2
    rw [decide_eq_true h1] at hb
    clear he h1 HC
    go_enter Tryz.func167, Tryz.ntmps167
    go_wp2_with (go_at_call 182; refine (isNaN_any _ _).mono ?_; rintro e w' ⟨rfl, rfl⟩)
    go_ret
    exact ⟨rfl, rfl⟩
  · by_cases h3 : y < x
    · have h2 : c = 1 := by rw [HC.out, if_neg h1, if_pos h3]
      subst h2
      rw [decide_eq_false h1] at hb
      rw [decide_eq_false (fun e => List.lt_irrefl x (by rw [← e] at h3; exact h3))] at he
      clear h1 h3 HC
      go_enter Tryz.func167, Tryz.ntmps167
      go_wp2_with (go_at_call 182; refine (isNaN_any _ _).mono ?_; rintro e w' ⟨rfl, rfl⟩)
      go_ret
      exact ⟨rfl, rfl⟩
    · have h2 : c = 0 := by rw [HC.out, if_neg h1, if_neg h3]
      subst h2
      rw [decide_eq_false h1] at hb
      rw [decide_eq_true (List.le_antisymm (List.not_lt.1 h3) (List.not_lt.1 h1))] at he
      clear h1 h3 HC
      go_enter Tryz.func167, Tryz.ntmps167
      go_wp2_with (go_at_call 182; refine (isNaN_any _ _).mono ?_; rintro e w' ⟨rfl, rfl⟩)
      go_ret
      exact ⟨rfl, rfl⟩
def CmpPost (c : Int) (w : World) (e : Ending) (w' : World) : Prop := e = .returned (.int .i64 c) ∧ ∃ n, w' = w.drewN n
set_option maxHeartbeats 1600000 in
theorem cmpRe_any (b b' : Nat) (r r' : RE) (w : World) (h : IsRe w b r) (h' : IsRe w b' r') :
    Calls Tryz.prog 166 #[ptr b, ptr b'] w (CmpPost (cmpK r.key r'.key) w) := by
  obtain ⟨kp1, cap1, bs1, hnode, _, _⟩ := h.open
  have hc : w.cell? ⟨b, 2 + 3 + 2, none⟩ = some (.string ⟨r.key.toArray⟩) := by rw [cell_of_row _ _ _ _ _ _ hnode]; rfl
  obtain ⟨kp2, cap2, bs2, hnode', _, _⟩ := h'.open
  have hc' : w.cell? ⟨b', 2 + 3 + 2, none⟩ = some (.string ⟨r'.key.toArray⟩) := by rw [cell_of_row _ _ _ _ _ _ hnode']; rfl
  have HC := Lib.hid (fun W => Compare_any r.key r'.key W)
  generalize cmpK r.key r'.key = c at *
  generalize (⟨r.key.toArray⟩ : ByteArray) = k at *
  generalize (⟨r'.key.toArray⟩ : ByteArray) = k' at *
  clear hnode hnode' h h'
  go_enter Tryz.func166, Tryz.ntmps166
  go_wp2_with fail
  go_quiet ((go_at_call 167; exact Calls.quiet_of_same (HC.out _)))
  go_wp2
  go_ret
  exact ⟨rfl, _, rfl⟩
end YticpjjmacmmpjaaGreatDoor
end Go.Proofs
