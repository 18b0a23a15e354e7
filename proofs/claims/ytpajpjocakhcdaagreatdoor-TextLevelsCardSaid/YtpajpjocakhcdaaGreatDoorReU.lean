/-
  What is asked of expressions (the text by which they are told apart, whether they are the same, their size), and lists of them put in order, each once: walked through the program.
-/
import Derived.Test.YtpajpjocakhcdaaGreatDoorReIn
import Derived.Test.YtpajpjocakhcdaaGreatDoorReN
import Derived.Shelf.SlSortCmp.NoneTotal
import Derived.Shelf.SlGeneric
import Derived.Ground.SlsfProg
import Derived.Sort.Walk0
import Derived.WalkLawsBesides
import Derived.Deep.QuietTactic
import Derived.Deep.LoopGhost
set_option linter.unusedSimpArgs false
set_option linter.unusedVariables false
set_option maxRecDepth 100000
set_option linter.unnecessarySimpa false
namespace Go.Proofs
open Go.Shelf in
def Tryz.laysSort_ren : Go.Shelf.Ren := ⟨fun | 6 => 121 | 15 => 134 | 14 => 133 | 28 => 150 | 29 => 138 | 20 => 142 | 21 => 143 | 22 => 144 | 23 => 145 | 24 => 146 | 25 => 147 | 26 => 148 | 27 => 149 | 46 => 153 | 47 => 154 | 48 => 155 | 49 => 156 | 50 => 157 | 57 => 160 | n => n, fun | 22 => 61 | 24 => 39 | 25 => 136 | 3 => 3 | 39 => 70 | 0 => 0 | 53 => 152 | 55 => 52 | 4 => 4 | 46 => 157 | 45 => 156 | 50 => 161 | 5 => 5 | 9 => 9 | 66 => 164 | 70 => 168 | 76 => 171 | 77 => 172 | n => n, fun | n => n⟩
open Go.Shelf in
theorem Tryz.laysSort : Go.Proofs.SlLaysF.n6 Tryz.prog Tryz.laysSort_ren := {
  mixed := by kernel_rfl
  f6 := ⟨Tryz.f121.name, by decide, Tryz.func121.trans (congrArg some (by kernel_rfl))⟩
  f14 := ⟨Tryz.f133.name, by decide, Tryz.func133.trans (congrArg some (by kernel_rfl))⟩
  f15 := Tryz.func134.trans (congrArg some (by kernel_rfl))
  f20 := ⟨Tryz.f142.name, by decide, Tryz.func142.trans (congrArg some (by kernel_rfl))⟩
  f21 := ⟨Tryz.f143.name, by decide, Tryz.func143.trans (congrArg some (by kernel_rfl))⟩
  f22 := ⟨Tryz.f144.name, by decide, Tryz.func144.trans (congrArg some (by kernel_rfl))⟩
  f23 := ⟨Tryz.f145.name, by decide, Tryz.func145.trans (congrArg some (by kernel_rfl))⟩
  f24 := ⟨Tryz.f146.name, by decide, Tryz.func146.trans (congrArg some (by kernel_rfl))⟩
  f25 := ⟨Tryz.f147.name, by decide, Tryz.func147.trans (congrArg some (by kernel_rfl))⟩
  f26 := ⟨Tryz.f148.name, by decide, Tryz.func148.trans (congrArg some (by kernel_rfl))⟩
  f27 := ⟨Tryz.f149.name, by decide, Tryz.func149.trans (congrArg some (by kernel_rfl))⟩
  f28 := Tryz.func150.trans (congrArg some (by kernel_rfl))
  f29 := Tryz.func138.trans (congrArg some (by kernel_rfl))
  f46 := ⟨Tryz.f153.name, by decide, Tryz.func153.trans (congrArg some (by kernel_rfl))⟩
  f47 := Tryz.func154.trans (congrArg some (by kernel_rfl))
  f48 := Tryz.func155.trans (congrArg some (by kernel_rfl))
  f49 := ⟨Tryz.f156.name, by decide, Tryz.func156.trans (congrArg some (by kernel_rfl))⟩
  f50 := ⟨Tryz.f157.name, by decide, Tryz.func157.trans (congrArg some (by kernel_rfl))⟩
  f57 := ⟨Tryz.f160.name, by decide, Tryz.func160.trans (congrArg some (by kernel_rfl))⟩
  t0 := Tryz.underlying0
  a0 := Tryz.isAgg0
  z0 := Tryz.sizeOf0
  v0 := Tryz.zeroValue0
  t3 := Tryz.underlying3
  a3 := Tryz.isAgg3
  z3 := Tryz.sizeOf3
  v3 := Tryz.zeroValue3
  t4 := Tryz.underlying4
  a4 := Tryz.isAgg4
  z4 := Tryz.sizeOf4
  v4 := Tryz.zeroValue4
  t5 := Tryz.underlying5
  a5 := Tryz.isAgg5
  z5 := Tryz.sizeOf5
  v5 := Tryz.zeroValue5
  t9 := Tryz.underlying9
  a9 := Tryz.isAgg9
  z9 := Tryz.sizeOf9
  v9 := Tryz.zeroValue9
  t22 := Tryz.underlying61
  a22 := Tryz.isAgg61
  z22 := Tryz.sizeOf61
  v22 := Tryz.zeroValue61
  a24 := Tryz.isAgg39
  z24 := Tryz.sizeOf39
  t25 := Tryz.underlying136
  a25 := Tryz.isAgg136
  z25 := Tryz.sizeOf136
  v25 := Tryz.zeroValue136
  t39 := Tryz.underlying70
  a39 := Tryz.isAgg70
  z39 := Tryz.sizeOf70
  v39 := Tryz.zeroValue70
  t45 := Tryz.underlying156
  a45 := Tryz.isAgg156
  z45 := Tryz.sizeOf156
  v45 := Tryz.zeroValue156
  t46 := Tryz.underlying157
  a46 := Tryz.isAgg157
  z46 := Tryz.sizeOf157
  v46 := Tryz.zeroValue157
  t50 := Tryz.underlying161
  a50 := Tryz.isAgg161
  z50 := Tryz.sizeOf161
  v50 := Tryz.zeroValue161
  t53 := Tryz.underlying152
  a53 := Tryz.isAgg152
  z53 := Tryz.sizeOf152
  v53 := Tryz.zeroValue152
  t55 := Tryz.underlying52
  a55 := Tryz.isAgg52
  z55 := Tryz.sizeOf52
  v55 := Tryz.zeroValue52
  t66 := Tryz.underlying164
  a66 := Tryz.isAgg164
  z66 := Tryz.sizeOf164
  v66 := Tryz.zeroValue164
  t70 := Tryz.underlying168
  a70 := Tryz.isAgg168
  z70 := Tryz.sizeOf168
  v70 := Tryz.zeroValue168
  t76 := Tryz.underlying171
  a76 := Tryz.isAgg171
  z76 := Tryz.sizeOf171
  v76 := Tryz.zeroValue171
  t77 := Tryz.underlying172
  a77 := Tryz.isAgg172
  z77 := Tryz.sizeOf172
  v77 := Tryz.zeroValue172 }
namespace YtpajpjocakhcdaaGreatDoor
open Go.RowKit Go.Sort Go.Lib

theorem Key_any (v : Value) (o : Option RE) (w : World) (h : IsReO w v o) :
    Calls Tryz.prog 68 #[v] w fun e w' => e = .returned (.string ⟨(RE.keyO o).toArray⟩) ∧ w' = w := by
  cases o with
  | none =>
    have hv : v = .pointer none := h
    subst hv
    go_enter Tryz.func68, Tryz.ntmps68
    go_wp2
    go_ret
    exact ⟨rfl, rfl⟩
  | some r =>
    obtain ⟨b, rfl, hb⟩ := h
    obtain ⟨kp1, cap1, bs1, hnode, _, _⟩ := hb.open
    have hc : w.cell? ⟨b, 2 + 3 + 2, none⟩ = some (.string ⟨r.key.toArray⟩) := by rw [cell_of_row _ _ _ _ _ _ hnode]; rfl
    clear hnode hb
    go_enter Tryz.func68, Tryz.ntmps68
    go_wp2
    go_ret
    exact ⟨rfl, rfl⟩
theorem Size_any (v : Value) (o : Option RE) (w : World) (h : IsReO w v o) :
    Calls Tryz.prog 30 #[v] w fun e w' => e = .returned (.int .i64 (RE.sizeO o : Nat)) ∧ w' = w := by
  cases o with
  | none =>
    have hv : v = .pointer none := h
    subst hv
    go_enter Tryz.func30, Tryz.ntmps30
    go_wp2
    go_ret
    exact ⟨rfl, rfl⟩
  | some r =>
    obtain ⟨b, rfl, hb⟩ := h
    obtain ⟨kp1, cap1, bs1, hnode, _, _⟩ := hb.open
    have hc : w.cell? ⟨b, 2 + 3 + 3, none⟩ = some (.int .i64 (r.size : Nat)) := by rw [cell_of_row _ _ _ _ _ _ hnode]; rfl
    clear hnode hb
    go_enter Tryz.func30, Tryz.ntmps30
    go_wp2
    go_ret
    exact ⟨rfl, rfl⟩
theorem Null_asks : Asks 87 RE.null := by
  intro W b r hb
  obtain ⟨kp1, cap1, bs1, hnode, _, _⟩ := hb.open
  have hc : W.cell? ⟨b, 2 + 3 + 1, none⟩ = some (.bool r.null) := by rw [cell_of_row _ _ _ _ _ _ hnode]; rfl
  clear hnode hb
  go_enter Tryz.func87, Tryz.ntmps87
  go_wp2
  go_ret
  exact ⟨rfl, rfl⟩
theorem beq_bytes (l l' : List UInt8) : ((⟨l.toArray⟩ : ByteArray).toList == (⟨l'.toArray⟩ : ByteArray).toList) = decide (l = l') := by
  rw [Lib.toList_data, Lib.toList_data]
  by_cases h : l = l'
  · simp [h]
  · simp [h]
def sameB (o o' : Option RE) : Bool := decide (RE.keyO o = RE.keyO o')
theorem Same_any (v v' : Value) (o o' : Option RE) (w : World) (h : IsReO w v o) (h' : IsReO w v' o') :
    Calls Tryz.prog 32 #[v, v'] w fun e w' => e = .returned (.bool (sameB o o')) ∧ w' = w := by
  have H1 := Lib.hid (Key_any v o w h)
  have H2 := Lib.hid (Key_any v' o' w h')
  have HB : Hid (((⟨(RE.keyO o).toArray⟩ : ByteArray).toList == (⟨(RE.keyO o').toArray⟩ : ByteArray).toList) = sameB o o') := beq_bytes _ _
  generalize (⟨(RE.keyO o).toArray⟩ : ByteArray) = k at *
  generalize (⟨(RE.keyO o').toArray⟩ : ByteArray) = k' at *
  clear h h'
  go_enter Tryz.func32, Tryz.ntmps32
  go_wp2_with fail
  refine H1.out.mono ?_
  rintro e w' ⟨rfl, rfl⟩
  go_wp2_with fail
  refine H2.out.mono ?_
  rintro e w' ⟨rfl, rfl⟩
  go_wp2_with fail
  go_ret
  exact ⟨congrArg (fun b => Ending.returned (.bool b)) HB.out, rfl⟩
theorem isNaN_any (x : ByteArray) (w : World) : Calls Tryz.prog 135 #[.string x] w fun e w' => e = .returned (.bool false) ∧ w' = w := by
  go_enter Tryz.func135, Tryz.ntmps135
  go_wp2
  go_ret
  exact ⟨by simp, rfl⟩
/-- which of two texts comes first -/
def cmpK (x y : List UInt8) : Int := if x < y then -1 else if y < x then 1 else 0
theorem Compare_any (x y : List UInt8) (w : World) : Calls Tryz.prog 123 #[.string ⟨x.toArray⟩, .string ⟨y.toArray⟩] w fun e w' => e = .returned (.int .i64 (cmpK x y)) ∧ w' = w := by
  have hb : Op.bytesLess (⟨x.toArray⟩ : ByteArray).toList (⟨y.toArray⟩ : ByteArray).toList = decide (x < y) := by rw [bytesLess_eq, Lib.toList_data, Lib.toList_data]
  have he := beq_bytes x y
  have HC : Hid (cmpK x y = if x < y then -1 else if y < x then 1 else 0) := rfl
  generalize cmpK x y = c at *
  generalize (⟨x.toArray⟩ : ByteArray) = k at *
  generalize (⟨y.toArray⟩ : ByteArray) = k' at *
  by_cases h1 : x < y
  · have h2 : c = -1 := by rw [HC.out, if_pos h1]
    subst h2
    rw [decide_eq_true h1] at hb
    clear he h1 HC
    go_enter Tryz.func123, Tryz.ntmps123
    go_wp2_with (go_at_call 135; refine (isNaN_any _ _).mono ?_; rintro e w' ⟨rfl, rfl⟩)
    go_ret
    exact ⟨rfl, rfl⟩
  · by_cases h3 : y < x
    · have h2 : c = 1 := by rw [HC.out, if_neg h1, if_pos h3]
      subst h2
      rw [decide_eq_false h1] at hb
      rw [decide_eq_false (fun e => List.lt_irrefl x (by rw [← e] at h3; exact h3))] at he
      clear h1 h3 HC
      go_enter Tryz.func123, Tryz.ntmps123
      go_wp2_with (go_at_call 135; refine (isNaN_any _ _).mono ?_; rintro e w' ⟨rfl, rfl⟩)
      go_ret
      exact ⟨rfl, rfl⟩
    · have h2 : c = 0 := by rw [HC.out, if_neg h1, if_neg h3]
      subst h2
      rw [decide_eq_false h1] at hb
      rw [decide_eq_true (List.le_antisymm (List.not_lt.1 h3) (List.not_lt.1 h1))] at he
      clear h1 h3 HC
      go_enter Tryz.func123, Tryz.ntmps123
      go_wp2_with (go_at_call 135; refine (isNaN_any _ _).mono ?_; rintro e w' ⟨rfl, rfl⟩)
      go_ret
      exact ⟨rfl, rfl⟩
def CmpPost (c : Int) (w : World) (e : Ending) (w' : World) : Prop := e = .returned (.int .i64 c) ∧ ∃ n, w' = w.drewN n
set_option maxHeartbeats 1600000 in
theorem cmpRe_any (b b' : Nat) (r r' : RE) (w : World) (h : IsRe w b r) (h' : IsRe w b' r') :
    Calls Tryz.prog 122 #[ptr b, ptr b'] w (CmpPost (cmpK r.key r'.key) w) := by
  obtain ⟨kp1, cap1, bs1, hnode, _, _⟩ := h.open
  have hc : w.cell? ⟨b, 2 + 3 + 2, none⟩ = some (.string ⟨r.key.toArray⟩) := by rw [cell_of_row _ _ _ _ _ _ hnode]; rfl
  obtain ⟨kp2, cap2, bs2, hnode', _, _⟩ := h'.open
  have hc' : w.cell? ⟨b', 2 + 3 + 2, none⟩ = some (.string ⟨r'.key.toArray⟩) := by rw [cell_of_row _ _ _ _ _ _ hnode']; rfl
  have HC := Lib.hid (fun W => Compare_any r.key r'.key W)
  generalize cmpK r.key r'.key = c at *
  generalize (⟨r.key.toArray⟩ : ByteArray) = k at *
  generalize (⟨r'.key.toArray⟩ : ByteArray) = k' at *
  clear hnode hnode' h h'
  go_enter Tryz.func122, Tryz.ntmps122
  go_wp2_with fail
  go_quiet ((go_at_call 123; exact Calls.quiet_of_same (HC.out _)))
  go_wp2
  go_ret
  exact ⟨rfl, _, rfl⟩
end YtpajpjocakhcdaaGreatDoor
end Go.Proofs
