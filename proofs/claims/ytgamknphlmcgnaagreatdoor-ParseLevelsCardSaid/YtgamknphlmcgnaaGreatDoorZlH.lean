/-
  A text in quotes, read as a token: walked through the program. lex.Name: reserved words, names: walked through the program. TextBytes, walked through the program.
-/
import Derived.Deep.DeepCutAuto
import Derived.Deep.CutBlock
import Derived.BigQuiet
import Derived.Deep.AppendLies
import Derived.Laws.IdiomStrings
import Derived.Laws.BytesArg
import Derived.Test.YtgamknphlmcgnaaGreatDoorZlA
import Derived.Test.YtgamknphlmcgnaaGreatDoorZlB
import Derived.Test.YtgamknphlmcgnaaGreatDoorZlC
import Derived.Test.YtgamknphlmcgnaaGreatDoorZlD
import Derived.Test.YtgamknphlmcgnaaGreatDoorZlE
import Derived.Test.YtgamknphlmcgnaaGreatDoorZlF
import Derived.Test.YtgamknphlmcgnaaGreatDoorZlG
section
set_option linter.unusedSimpArgs false
set_option linter.unusedVariables false
set_option maxRecDepth 100000
set_option linter.unnecessarySimpa false
namespace Go.Proofs.YtgamknphlmcgnaaGreatDoor
open Go.RowKit
abbrev lxCells (s : List UInt8) (a : Nat) : Array Value := #[.string ⟨s.toArray⟩, .int .i64 (a : Nat)]
/-- the lexer in block p -/
def LxAt (w : World) (p : Nat) (s : List UInt8) (a : Nat) : Prop := w.heap[p]? = some (.cells (lxCells s a) 125 (0, 0))
variable {w w' : World} {p a : Nat} {s : List UInt8}
theorem LxAt.lt (h : LxAt w p s a) : p < w.heap.size := (Array.getElem?_eq_some_iff.1 h).1
theorem LxAt.later (h : LxAt w p s a) (hb : Below w.heap.size w w') : LxAt w' p s a := (hb.block p h.lt).trans h
theorem LxAt.cells (h : LxAt w p s a) : w.cell? ⟨p, 0, none⟩ = some (.string ⟨s.toArray⟩) ∧ w.cell? ⟨p, 1, none⟩ = some (.int .i64 (a : Nat)) := ⟨by rw [cell_of_row _ _ _ _ _ _ h]; rfl, by rw [cell_of_row _ _ _ _ _ _ h]; rfl⟩
theorem LxAt.frz (h : LxAt w p s a) (j : Nat) : w.frozen? ⟨p, j, none⟩ = false := frozen_of_row _ _ j _ _ h
theorem LxAt.put (h : LxAt w p s a) (b : Nat) : LxAt (w.setCell ⟨p, 1, none⟩ (.int .i64 (b : Nat))) p s b := by
  unfold LxAt
  rw [heap_setCell_same _ _ _ _ _ _ h]; rfl
theorem LxAt.drew (h : LxAt w p s a) (n : Nat) : LxAt (w.drewN n) p s a := h
theorem IsReO.farL {v : Value} {o : Option RE} (h : IsReO w v o) (hp : LxAt w p s a) (hf : Far p w w') : IsReO w' v o := h.put hp (by decide) (by decide) fun k hk hne => hf.block k hk (fun e => by first | exact hne (Option.some.inj e) | exact hne (Option.some.inj e).symm)
theorem Tab.farL (h : Tab w) (hp : LxAt w p s a) (hf : Far p w w') : Tab w' := fun j hj => by
  have hc := h j hj
  have h0 := h 0 (by omega)
  have hb := World.block_lt_of_cell? w _ hc
  refine (World.cell?_of_block (w := w) (w' := w') (hf.block _ hb fun e => ?_)).trans hc
  have e := Option.some.inj e
  have e : Tryz.lays29_ren.g 1 = p := e
  rw [e, hp.cells.1] at h0
  cases h0
/-- a token in hand -/
abbrev tkV (t : LT) (rv : Value) : Value := .agg #[.int .i64 (t.kind : Nat), .string ⟨t.text.toArray⟩, rv, .int .i64 (t.at_ : Nat)]
/-- what reads a token leaves -/
def TokPost (p : Nat) (s : List UInt8) (w : World) (r : LT × Nat × Nat) (e : Ending) (w' : World) : Prop :=
  ∃ rv, e = .returned (.tuple #[tkV r.1 rv, .int .i64 (r.2.1 : Nat)]) ∧ IsReO w' rv r.1.re ∧ LxAt w' p s r.2.2 ∧ Far p w w'
set_option maxRecDepth 100000 in
theorem letter_any (c : UInt8) (first : Bool) (w : World) : Calls Tryz.prog 125 #[.int .u8 (c.toNat : Nat), .bool first] w fun e w' => e = .returned (.bool (LX.letter c first)) ∧ w' = w := by
  have h1 : (97 ≤ c) = (97 ≤ c.toNat) := by rw [UInt8.le_iff_toNat_le]; rfl
  have h2 : (c ≤ 122) = (c.toNat ≤ 122) := by rw [UInt8.le_iff_toNat_le]; rfl
  have h3 : (48 ≤ c) = (48 ≤ c.toNat) := by rw [UInt8.le_iff_toNat_le]; rfl
  have h4 : (c ≤ 57) = (c.toNat ≤ 57) := by rw [UInt8.le_iff_toNat_le]; rfl
  have h5 : (c == 95) = decide (c.toNat = 95) := by rw [Bool.eq_iff_iff]; simp [← UInt8.toNat_inj]
  have HE : Hid (LX.letter c first = ((decide (97 ≤ c.toNat) && decide (c.toNat ≤ 122)) || decide (c.toNat = 95) || (!first && (decide (48 ≤ c.toNat) && decide (c.toNat ≤ 57))))) := by
    show _ = _
    unfold LX.letter
    rw [h5]
    simp only [h1, h2, h3, h4]
  clear h1 h2 h3 h4 h5
  have hlt := c.toNat_lt
  generalize c.toNat = n at *
  generalize LX.letter c first = L at *
  cases first
  all_goals
    by_cases g1 : 97 ≤ n
    · by_cases g2 : n ≤ 122
      · have g1' : (97 : Int) ≤ (n : Int) := by omega
        have g2' : (n : Int) ≤ 122 := by omega
        go_enter Tryz.func125, Tryz.ntmps125
        go_wp2_with fail
        go_ret
        exact ⟨by rw [HE.out]; simp [g1, g2], rfl⟩
      · have g2' : ¬ (n : Int) ≤ 122 := by omega
        have g1' : (97 : Int) ≤ (n : Int) := by omega
        have g3 : decide (n = 95) = false := decide_eq_false (by omega)
        have g3' : ((n : Int) == 95) = false := by rw [beq_eq_false_iff_ne]; omega
        have g5 : ¬ (n : Int) ≤ 57 := by omega
        have g4 : (48 : Int) ≤ (n : Int) := by omega
        go_enter Tryz.func125, Tryz.ntmps125
        go_wp2_with fail
        go_ret
        exact ⟨by rw [HE.out]; simp [g1, g2, g3]; try omega, rfl⟩
    · have g1' : ¬ (97 : Int) ≤ (n : Int) := by omega
      by_cases g3 : n = 95
      · have g3' : ((n : Int) == 95) = true := by rw [g3]; rfl
        go_enter Tryz.func125, Tryz.ntmps125
        go_wp2_with fail
        go_ret
        exact ⟨by rw [HE.out]; simp [g3], rfl⟩
      · have g3' : ((n : Int) == 95) = false := by rw [beq_eq_false_iff_ne]; omega
        by_cases g4 : 48 ≤ n
        · have g4' : (48 : Int) ≤ (n : Int) := by omega
          by_cases g5 : n ≤ 57
          · have g5' : (n : Int) ≤ 57 := by omega
            go_enter Tryz.func125, Tryz.ntmps125
            go_wp2_with fail
            go_ret
            exact ⟨by rw [HE.out]; simp [g1, g3, g4, g5], rfl⟩
          · have g5' : ¬ (n : Int) ≤ 57 := by omega
            go_enter Tryz.func125, Tryz.ntmps125
            go_wp2_with fail
            go_ret
            exact ⟨by rw [HE.out]; simp [g1, g3, g4, g5], rfl⟩
        · have g4' : ¬ (48 : Int) ≤ (n : Int) := by omega
          go_enter Tryz.func125, Tryz.ntmps125
          go_wp2_with fail
          go_ret
          exact ⟨by rw [HE.out]; simp [g1, g3, g4], rfl⟩
/-- how far, as the program says it -/
def untilI (b : UInt8) (s : List UInt8) (k : Nat) : Int := match LX.untilN b (s.drop k) with | none => -1 | some j => (k : Int) + j
theorem untilI_end (b : UInt8) (s : List UInt8) (k : Nat) (h : s.length ≤ k) : untilI b s k = -1 := by
  unfold untilI; rw [List.drop_eq_nil_of_le h]; rfl
theorem untilI_hit (b : UInt8) (s : List UInt8) (k : Nat) (h : k < s.length) (hb : s.getD k 0 = b) : untilI b s k = k := by
  have hd : s.drop k = b :: s.drop (k + 1) := by
    rw [List.drop_eq_getElem_cons h]; congr 1
    rw [← hb]; simp [List.getD, h]
  unfold untilI
  rw [hd]
  cases hr : s.drop (k + 1) with
  | nil => rw [LX.untilN, if_pos rfl]; simp
  | cons d r => rw [LX.untilN, if_pos rfl]; simp
theorem untilI_esc (b : UInt8) (s : List UInt8) (k : Nat) (h : k < s.length) (hb : s.getD k 0 ≠ b) (h92 : s.getD k 0 = 92) : untilI b s k = untilI b s (k + 2) := by
  have hd : s.drop k = s.getD k 0 :: s.drop (k + 1) := by
    rw [List.drop_eq_getElem_cons h]; congr 1; simp [List.getD, h]
  unfold untilI
  rw [hd]
  cases hr : s.drop (k + 1) with
  | nil =>
    have hl : s.drop (k + 2) = [] := List.drop_eq_nil_of_le (by have := congrArg List.length hr; simp at this; omega)
    have : LX.untilN b [s.getD k 0] = none := by rw [LX.untilN, if_neg hb]
    rw [this, hl]; rfl
  | cons d r =>
    have hl : s.drop (k + 2) = r := by
      have := congrArg List.tail hr
      rw [List.tail_drop] at this
      exact this
    rw [LX.untilN, if_neg hb, if_pos h92, hl]
    cases LX.untilN b r with
    | none => rfl
    | some j => simp; omega
theorem untilI_skip (b : UInt8) (s : List UInt8) (k : Nat) (h : k < s.length) (hb : s.getD k 0 ≠ b) (h92 : s.getD k 0 ≠ 92) : untilI b s k = untilI b s (k + 1) := by
  have hd : s.drop k = s.getD k 0 :: s.drop (k + 1) := by
    rw [List.drop_eq_getElem_cons h]; congr 1; simp [List.getD, h]
  unfold untilI
  rw [hd]
  cases hr : s.drop (k + 1) with
  | nil =>
    have : LX.untilN b [s.getD k 0] = none := by rw [LX.untilN, if_neg hb]
    rw [this]; rfl
  | cons d r =>
    rw [LX.untilN, if_neg hb, if_neg h92]
    cases LX.untilN b (d :: r) with
    | none => rfl
    | some j => simp; omega
def UntAt (w : World) (b : UInt8) (s : List UInt8) (R : Int) (i : Value) (wr : World) : Prop := ∃ k : Nat, k ≤ s.length + 1 ∧ i = .int .i64 k ∧ untilI b s k = R ∧ wr = w
set_option maxRecDepth 100000 in
set_option maxHeartbeats 2000000 in
theorem until_any (b : UInt8) (k : Nat) (hk : k ≤ s.length + 1) (hs : s.length ≤ 65536) (h : LxAt w p s a) :
    Calls Tryz.prog 160 #[ptr p, .int .u8 (b.toNat : Nat), .int .i64 (k : Nat)] w fun e w' => e = .returned (.int .i64 (untilI b s k)) ∧ w' = w := by
  obtain ⟨c0, c1⟩ := h.cells
  have hsz : (⟨s.toArray⟩ : ByteArray).size = s.length := str_size s
  have HU := Lib.hid (untilI_hit b s)
  have HV := Lib.hid (untilI_esc b s)
  have HW := Lib.hid (untilI_skip b s)
  have HX := Lib.hid (untilI_end b s)
  obtain ⟨R, hR⟩ : ∃ R, untilI b s k = R := ⟨_, rfl⟩
  have HR := Lib.hid hR
  rw [hR]
  clear h c1 hR
  go_enter Tryz.func160, Tryz.ntmps160
  go_wp2_with fail
  go_loopw [7] (fun i wr => UntAt w b s R i wr) (fun i _ => s.length + 1 - (intOf i).toNat)
  case atStart => exact ⟨k, hk, rfl, HR.out, rfl⟩
  case round =>
    clear HR hk
    obtain ⟨j, hj, rfl, hgo, rfl⟩ := hrel
    by_cases hlt : j < s.length
    · have hidx := fun W => str_at s j hlt W
      have hlt' : (j : Int) < (s.length : Nat) := by omega
      have HG := Lib.hid hgo
      have HU2 := Lib.hid (HU.out j hlt)
      have HV2 := Lib.hid (HV.out j hlt)
      have HW2 := Lib.hid (HW.out j hlt)
      have hj0 : (0 : Int) ≤ (j : Int) := by omega
      clear hgo
      have e1 : ((((s.getD j 0).toNat : Nat) : Int) == ((b.toNat : Nat) : Int)) = decide (s.getD j 0 = b) := by
        rw [Bool.eq_iff_iff]; simp only [beq_iff_eq, decide_eq_true_eq]
        exact ⟨fun h => UInt8.toNat_inj.1 (by omega), fun h => by rw [h]⟩
      have e2 := byteIs (s.getD j 0) 92 (by omega)
      generalize s.getD j 0 = c at *
      generalize hS : (⟨s.toArray⟩ : ByteArray) = S at *
      by_cases g1 : c = b
      · have HF : Hid (R = j) := by show _ = _; rw [← HG.out]; exact HU2.out g1
        rw [decide_eq_true g1] at e1
        clear e2 g1
        go_wp2_with fail
        go_ret
        exact ⟨by rw [HF.out]; rfl, rfl⟩
      · rw [decide_eq_false g1] at e1
        by_cases g2 : c = 92
        · have HF : Hid (untilI b s (j + 2) = R) := by show _ = _; rw [← HG.out]; exact (HV2.out g1 g2).symm
          have e3 : (((c.toNat : Nat) : Int) == 92) = true := by rw [g2]; rfl
          clear e2 g1 g2
          go_wp2_with fail
          go_roundw
          case rel => exact ⟨j + 2, by omega, by go_num, HF.out, rfl⟩
          case measure => simp [intOf]; omega
        · have HF : Hid (untilI b s (j + 1) = R) := by show _ = _; rw [← HG.out]; exact (HW2.out g1 g2).symm
          have e3 : (((c.toNat : Nat) : Int) == 92) = false := by rw [beq_eq_false_iff_ne]; exact fun h => g2 (UInt8.toNat_inj.1 (by show c.toNat = 92; omega))
          clear e2 g1 g2
          go_wp2_with fail
          go_roundw
          case rel => exact ⟨j + 1, by omega, by go_num, HF.out, rfl⟩
          case measure => simp [intOf]; omega
    · have HF : Hid (R = -1) := by show _ = _; rw [← hgo]; exact HX.out j (by omega)
      have hlt' : ¬ (j : Int) < (s.length : Nat) := by omega
      clear hgo
      generalize hS : (⟨s.toArray⟩ : ByteArray) = S at *
      go_wp2_with fail
      go_ret
      exact ⟨by rw [HF.out]; rfl, rfl⟩
theorem LxAt.put' (h : LxAt w p s a) (b : Nat) (v : Int) (hv : v = (b : Nat)) : LxAt (w.setCell ⟨p, 1, none⟩ (.int .i64 v)) p s b := by rw [hv]; exact h.put b
theorem strBetween (l : List UInt8) (i j : Nat) (h1 : i ≤ j) (h2 : j ≤ l.length) (x y : Int) (hx : x = (i : Nat)) (hy : y = (j : Nat)) (w : World) : (Instr.slice 9 (.string ⟨l.toArray⟩) (some (.int .i64 x)) (some (.int .i64 y)) none).run Tryz.prog w = .ok (.string ⟨((l.drop i).take (j - i)).toArray⟩) w := by
  subst hx hy
  have hs : (⟨l.toArray⟩ : ByteArray).size = l.length := str_size l
  have e : (⟨l.toArray⟩ : ByteArray).extract i j = ⟨((l.drop i).take (j - i)).toArray⟩ := by
    refine ByteArray.ext ?_
    rw [ByteArray.data_extract]
    apply Array.toList_inj.1
    simp [List.take_drop]
  rw [run_slice_string_if _ _ _ _ _ _ _ Tryz.underlying9, if_pos ⟨by omega, by rw [hs]; omega⟩, if_pos ⟨by omega, by omega⟩]
  simp only [Int.toNat_natCast, e]
theorem strBetweenAt (l : List UInt8) (i j : Nat) (h1 : i ≤ j) (h2 : j ≤ l.length) (x y : Int) (hx : x = (i : Nat)) (hy : y = (j : Nat)) (w : World) : (Instr.sliceAt 9 (.string ⟨l.toArray⟩) (some (.int .i64 x)) (some (.int .i64 y)) none).run Tryz.prog w = .ok (.string ⟨((l.drop i).take (j - i)).toArray⟩) w := by
  rw [run_sliceAt_string _ _ _ _ _ _ Tryz.underlying9]; exact strBetween l i j h1 h2 x y hx hy w
/-- an expression's one byte, as the program says it -/
def SingleIs (o : Option RE) (b : Nat) (ok : Bool) : Prop := match LX.single1 o with | some x => b = x ∧ ok = true | none => ok = false
theorem one_ne (s : BS) (h : s.len = 1) : s ≠ BS.none := fun e => by
  rw [e] at h
  revert h
  decide +kernel
set_option maxRecDepth 100000 in
set_option maxHeartbeats 2000000 in
theorem single_any (v : Value) (o : Option RE) (w : World) (hT : Tab w) (h : IsReO w v o) :
    Calls Tryz.prog 161 #[v] w fun e w' => ∃ (b : Nat) (ok : Bool), e = .returned (.tuple #[.int .u8 (b : Nat), .bool ok]) ∧ SingleIs o b ok ∧ Below w.heap.size w w' := by
  cases o with
  | none =>
    have hv : v = .pointer none := h
    subst hv
    go_enter Tryz.func161, Tryz.ntmps161
    go_wp2_with fail
    go_ret2
    exact ⟨0, false, rfl, rfl, Below.refl _ _⟩
  | some r =>
    obtain ⟨b, rfl, hb⟩ := h
    obtain ⟨kp, cap, bs, hnode, _, _⟩ := hb.open
    have hop : w.cell? ⟨b, 0, none⟩ = some (.int .i64 (r.op : Nat)) := by rw [cell_of_row _ _ _ _ _ _ hnode]; rfl
    have c1 : w.cell? ⟨b, 1, none⟩ = some (.int .u64 (wN r.set.a)) := by rw [cell_of_row _ _ _ _ _ _ hnode]; rfl
    have c2 : w.cell? ⟨b, 2, none⟩ = some (.int .u64 (wN r.set.b)) := by rw [cell_of_row _ _ _ _ _ _ hnode]; rfl
    have c3 : w.cell? ⟨b, 3, none⟩ = some (.int .u64 (wN r.set.c)) := by rw [cell_of_row _ _ _ _ _ _ hnode]; rfl
    have c4 : w.cell? ⟨b, 4, none⟩ = some (.int .u64 (wN r.set.d)) := by rw [cell_of_row _ _ _ _ _ _ hnode]; rfl
    have HSI : Hid (∀ b ok, (r.op = 2 ∧ r.set.len = 1 → b = r.set.least ∧ ok = true) → (¬ (r.op = 2 ∧ r.set.len = 1) → ok = false) → SingleIs (some r) b ok) := fun b ok h1 h2 => by
      unfold SingleIs LX.single1
      simp only
      by_cases hc : r.op = 2 ∧ r.set.len = 1
      · rw [if_pos hc]; exact h1 hc
      · rw [if_neg hc]; exact h2 hc
    have hblt := hb.lt
    have HNE := Lib.hid (one_ne r.set)
    have HLEN := Lib.hid (fun W => Len_any r.set.a r.set.b r.set.c r.set.d W)
    have HLST := Lib.hid (fun W (hT : Tab W) => Least_any r.set.a r.set.b r.set.c r.set.d W hT)
    have eS : (⟨r.set.a, r.set.b, r.set.c, r.set.d⟩ : BS) = r.set := rfl
    rw [eS] at HLEN HLST
    have HT := Lib.hid hT
    clear hnode hb hT eS
    obtain ⟨o', ho'⟩ : ∃ o', r.op = o' := ⟨_, rfl⟩
    obtain ⟨ln, hln⟩ : ∃ ln, r.set.len = ln := ⟨_, rfl⟩
    rw [ho'] at hop HSI
    rw [hln] at HSI HLEN HNE
    obtain ⟨ls, hls⟩ : ∃ ls, r.set.least = ls := ⟨_, rfl⟩
    rw [hls] at HSI HLST
    clear ho' hln hls
    generalize wN r.set.a = x0 at *
    generalize wN r.set.b = x1 at *
    generalize wN r.set.c = x2 at *
    generalize wN r.set.d = x3 at *
    generalize r.set = S at *
    by_cases g2 : o' = 2
    · have g2' : ((o' : Int) != 2) = false := by rw [g2]; rfl
      have HB : Hid (Below w.heap.size w (w.alloc (.cells #[.int .u64 x0, .int .u64 x1, .int .u64 x2, .int .u64 x3] 109))) := re_alloc w _
      by_cases g1 : ln = 1
      · have g1' : ((ln : Int) != 1) = false := by rw [g1]; rfl
        have hd : decide (S ≠ BS.none) = true := decide_eq_true (HNE.out g1)
        rw [hd] at HLST
        go_enter Tryz.func161, Tryz.ntmps161
        go_wp2_with fail
        refine (HLEN.out _).mono ?_
        rintro e w1 ⟨rfl, rfl⟩
        go_wp2_with fail
        refine (HLST.out _ (HT.out.later HB.out)).mono ?_
        rintro e w2 ⟨rfl, hb2⟩
        have HB2 := Lib.hid (ext_step HB.out hb2)
        clear hb2
        go_wp2_with fail
        go_ret2
        exact ⟨ls, true, rfl, HSI.out _ _ (fun _ => ⟨rfl, rfl⟩) (fun h => absurd ⟨g2, g1⟩ h), HB2.out⟩
      · have g1' : ((ln : Int) != 1) = true := by simpa using fun h => g1 (by omega)
        go_enter Tryz.func161, Tryz.ntmps161
        go_wp2_with fail
        refine (HLEN.out _).mono ?_
        rintro e w1 ⟨rfl, rfl⟩
        go_wp2_with fail
        go_ret2
        exact ⟨0, false, rfl, HSI.out _ _ (fun h => absurd h.2 g1) (fun _ => rfl), HB.out⟩
    · have g2' : ((o' : Int) != 2) = true := by simpa using fun h => g2 (by omega)
      go_enter Tryz.func161, Tryz.ntmps161
      go_wp2_with fail
      go_ret2
      exact ⟨0, false, rfl, HSI.out _ _ (fun h => absurd h.1 g2) (fun _ => rfl), Below.refl _ _⟩
end Go.Proofs.YtgamknphlmcgnaaGreatDoor
namespace Go.Proofs.YtgamknphlmcgnaaGreatDoor
open Go.RowKit
theorem untilI_eq (b : UInt8) (s : List UInt8) (k : Nat) : untilI b s k = match LX.untilN b (s.drop k) with | none => -1 | some j => ((k + j : Nat) : Int) := by
  unfold untilI
  cases LX.untilN b (s.drop k) with
  | none => rfl
  | some j => simp
theorem heap_in {w w' : World} {k : Nat} {o : Obj} (h : w.heap[k]? = some o) (hb : Below w.heap.size w w') : w'.heap[k]? = some o := (hb.block k (Array.getElem?_eq_some_iff.1 h).1).trans h
/-- a token that is being read: the lexer, two tokens in blocks of their own, an expression -/
structure TkW (w : World) (p : Nat) (s : List UInt8) (a : Nat) (rv : Value) (ro : Option RE) (W : World) : Prop where
  pl : p < w.heap.size
  lx : LxAt W p s a
  far : Far p w W
  t0 : ∃ cs, W.heap[w.heap.size]? = some (.cells cs 47 (0, 0))
  t1 : ∃ cs, W.heap[w.heap.size + 1]? = some (.cells cs 47 (0, 0))
  re : IsReO W rv ro
section
variable {w W W' : World} {p a : Nat} {s : List UInt8} {rv : Value} {ro : Option RE}
theorem Far.setNew {c : Nat} (h : Far p w W) (hc : w.heap.size ≤ c) (j : Nat) (v : Value) : Far p w (W.setCell ⟨c, j, none⟩ v) :=
  ⟨h.os, h.tape, h.output, by simpa using h.size, fun k hk hne => (Below.heap_setCell _ _ _ _ (by show k ≠ c; omega)).trans (h.block k hk hne)⟩
theorem reO_putT {W : World} {c j : Nat} {cs : Array Value} {x : Value} (h : W.heap[c]? = some (.cells cs 47 (0, 0))) {u : Value} {o : Option RE} (hu : IsReO W u o) : IsReO (W.setCell ⟨c, j, none⟩ x) u o :=
  hu.put h (by decide) (by decide) fun k _ hk => Below.heap_setCell _ _ _ _ hk
theorem TkW.later (h : TkW w p s a rv ro W) (hb : Below W.heap.size W W') : TkW w p s a rv ro W' :=
  ⟨h.pl, h.lx.later hb, h.far.trans (Far.below hb), by obtain ⟨cs, hc⟩ := h.t0; exact ⟨cs, heap_in hc hb⟩, by obtain ⟨cs, hc⟩ := h.t1; exact ⟨cs, heap_in hc hb⟩, h.re.later hb⟩
theorem TkW.with {rv' : Value} {ro' : Option RE} (h : TkW w p s a rv ro W) (hr : IsReO W rv' ro') : TkW w p s a rv' ro' W := ⟨h.pl, h.lx, h.far, h.t0, h.t1, hr⟩
theorem TkW.tok0 (h : TkW w p s a rv ro W) (j : Nat) (v : Value) : TkW w p s a rv ro (W.setCell ⟨w.heap.size, j, none⟩ v) := by
  obtain ⟨cs, hc⟩ := h.t0
  obtain ⟨ds, hd⟩ := h.t1
  have hp := h.pl
  exact ⟨hp, (Below.heap_setCell _ _ _ _ (by show p ≠ w.heap.size; omega)).trans h.lx, h.far.setNew (Nat.le_refl _) j v, ⟨_, heap_setCell_same _ _ _ _ _ _ hc⟩, ⟨ds, (Below.heap_setCell _ _ _ _ (by show w.heap.size + 1 ≠ w.heap.size; omega)).trans hd⟩, reO_putT hc h.re⟩
theorem TkW.tok1 (h : TkW w p s a rv ro W) (j : Nat) (v : Value) : TkW w p s a rv ro (W.setCell ⟨w.heap.size + 1, j, none⟩ v) := by
  obtain ⟨cs, hc⟩ := h.t0
  obtain ⟨ds, hd⟩ := h.t1
  have hp := h.pl
  exact ⟨hp, (Below.heap_setCell _ _ _ _ (by show p ≠ w.heap.size + 1; omega)).trans h.lx, h.far.setNew (Nat.le_succ _) j v, ⟨cs, (Below.heap_setCell _ _ _ _ (by show w.heap.size ≠ w.heap.size + 1; omega)).trans hc⟩, ⟨_, heap_setCell_same _ _ _ _ _ _ hd⟩, reO_putT hd h.re⟩
theorem TkW.pos (h : TkW w p s a rv ro W) (b : Nat) (v : Int) (hv : v = (b : Nat)) : TkW w p s b rv ro (W.setCell ⟨p, 1, none⟩ (.int .i64 v)) := by
  obtain ⟨cs, hc⟩ := h.t0
  obtain ⟨ds, hd⟩ := h.t1
  have hp := h.pl
  exact ⟨hp, h.lx.put' b v hv, h.far.set 1 _, ⟨cs, (Below.heap_setCell _ _ _ _ (by show w.heap.size ≠ p; omega)).trans hc⟩, ⟨ds, (Below.heap_setCell _ _ _ _ (by show w.heap.size + 1 ≠ p; omega)).trans hd⟩, h.re.farL h.lx ((Far.refl p W).set 1 _)⟩
theorem TkW.first (h : LxAt w p s a) (cs ds : Array Value) : TkW w p s a (.pointer none) none ((w.alloc (.cells cs 47)).alloc (.cells ds 47)) := by
  have e1 : (w.alloc (.cells cs 47)).heap.size = w.heap.size + 1 := by simp
  have h4 := heap_alloc_last (w.alloc (.cells cs 47)) (.cells ds 47)
  rw [e1] at h4
  exact ⟨h.lt, h.later (ext_alloc (re_alloc w _) _), Far.below (ext_alloc (re_alloc w _) _), ⟨cs, heap_in (heap_alloc_last w _) (re_alloc _ _)⟩, ⟨ds, h4⟩, rfl⟩
end
set_option maxRecDepth 100000 in
set_option maxHeartbeats 4000000 in
theorem lxExpr_any (w : World) (p a : Nat) (s : List UInt8) (ha : a < s.length) (hs : s.length ≤ 65536) (h : LxAt w p s a) :
    Calls Tryz.prog 128 #[ptr p] w (TokPost p s w (LX.expr s a (s.drop (a + 1)))) := by
  obtain ⟨c0, c1⟩ := h.cells
  have hpl := h.lt
  have hsz : (⟨s.toArray⟩ : ByteArray).size = s.length := str_size s
  have HL := Lib.hid h
  have f1 := h.frz 1
  have HUN := Lib.hid (fun W (h : LxAt W p s a) => until_any (w := W) 47 (a + 1) (by omega) hs h)
  have hcast : ((a + 1 : Nat) : Int) = (a : Int) + 1 := by omega
  rw [hcast, untilI_eq] at HUN
  have HE : Hid (LX.expr s a (s.drop (a + 1)) = match LX.untilN 47 (s.drop (a + 1)) with
    | none => (⟨4, [], none, a⟩, 2, s.length)
    | some k => if (readW ((s.drop (a + 1)).take k)).2.1 = 0 then (⟨4, [], (readW ((s.drop (a + 1)).take k)).1, a⟩, 0, a + k + 2) else (⟨4, [], none, a⟩, (readW ((s.drop (a + 1)).take k)).2.1, a + 1 + (readW ((s.drop (a + 1)).take k)).2.2)) := rfl
  have HLTK := Lib.hid (fun k (hk : LX.untilN 47 (s.drop (a + 1)) = some k) => (LX.untilN_lt _ _ k (Nat.le_refl _) hk).1)
  generalize LX.expr s a (s.drop (a + 1)) = OUT at *
  have hx1 := re_alloc w (.cells #[.int .i64 0, .string ⟨#[]⟩, .pointer none, .int .i64 0] 47)
  have hx2 := ext_alloc hx1 (.cells #[.int .i64 4, .string ⟨#[]⟩, .pointer none, .int .i64 (a : Nat)] 47)
  have HX2 := Lib.hid hx2
  have HLX := Lib.hid (h.later hx2)
  clear hx1 hx2 h hcast
  obtain ⟨U, hU⟩ : ∃ U, LX.untilN 47 (s.drop (a + 1)) = U := ⟨_, rfl⟩
  rw [hU] at HE HUN
  have HU := Lib.hid hU
  clear hU
  cases U with
  | none =>
    simp only at HE HUN
    have HO := Lib.hid HE.out
    generalize hS : (⟨s.toArray⟩ : ByteArray) = S at *
    go_enter Tryz.func128, Tryz.ntmps128
    go_wp2_with fail
    refine (HUN.out _ HLX.out).mono ?_
    rintro e w1 ⟨rfl, rfl⟩
    go_wp2_with fail
    refine bodyPost_ret (v := .tuple #[.agg #[.int .i64 4, .string ⟨#[]⟩, .pointer none, .int .i64 (a : Nat)], .int .i64 2]) (by simp [results, Tryz.results128, go_sem]) rfl ?_
    rw [HO.out]
    exact ⟨.pointer none, rfl, rfl, (HL.out.put' s.length _ rfl).later (ext_alloc (re_alloc _ _) _), ((Far.refl p w).set 1 _).trans (Far.below (ext_alloc (re_alloc _ _) _))⟩
  | some k =>
    simp only at HE HUN
    have hk := HLTK.out k HU.out
    rw [List.length_drop] at hk
    have hE : ((a + 1 + k : Nat) : Int) = (a : Int) + 1 + (k : Int) := by omega
    have hrd := Read_any ((s.drop (a + 1)).take k) (by rw [List.length_take, List.length_drop]; omega)
    have hsl := fun W => strBetweenAt s (a + 1) (a + 1 + k) (by omega) (by omega) ((a : Int) + 1) ((a : Int) + 1 + (k : Int)) (by omega) (by omega) W
    have hsl2 := fun W => strBetween s (a + 1) (a + 1 + k) (by omega) (by omega) ((a : Int) + 1) ((a : Int) + 1 + (k : Int)) (by omega) (by omega) W
    rw [show a + 1 + k - (a + 1) = k by omega] at hsl hsl2
    have hout := readW_out ((s.drop (a + 1)).take k)
    have hlen : ((s.drop (a + 1)).take k).length ≤ 65536 := by rw [List.length_take, List.length_drop]; omega
    generalize (s.drop (a + 1)).take k = T at *
    rw [hE] at HUN
    have h0 : ¬ ((a : Int) + 1 + (k : Int) < 0) := by omega
    have hle : (a : Int) + 1 + (k : Int) ≤ 65536 := by omega
    have HRD := Lib.hid hrd
    have hTs : (⟨T.toArray⟩ : ByteArray).size = T.length := str_size T
    clear hrd
    rcases hout with ⟨r, hr⟩ | ⟨e, q, hr, he, hq⟩
    · rw [hr] at HRD HE
      have HO : Hid (OUT = (⟨4, [], some r, a⟩, 0, a + k + 2)) := by show _ = _; rw [HE.out]; simp
      generalize hS : (⟨s.toArray⟩ : ByteArray) = S at *
      generalize hT : (⟨T.toArray⟩ : ByteArray) = TT at *
      clear HE hr hT
      go_enter Tryz.func128, Tryz.ntmps128
      go_wp2_with fail
      refine (HUN.out _ HLX.out).mono ?_
      rintro e w1 ⟨rfl, rfl⟩
      go_wp2_with fail
      refine (HRD.out _).mono ?_
      rintro e w2 ⟨v, rfl, hre, hb⟩
      have HRE := Lib.hid hre
      have HBR := Lib.hid hb
      obtain ⟨vb, rfl, _⟩ := hre
      have hh2 := heap_in (heap_in (heap_alloc_last w (.cells #[.int .i64 0, .string ⟨#[]⟩, .pointer none, .int .i64 0] 47)) (re_alloc _ (.cells #[.int .i64 4, .string ⟨#[]⟩, .pointer none, .int .i64 (a : Nat)] 47))) hb
      have hh4 := heap_in (heap_alloc_last (w.alloc (.cells #[.int .i64 0, .string ⟨#[]⟩, .pointer none, .int .i64 0] 47)) (.cells #[.int .i64 4, .string ⟨#[]⟩, .pointer none, .int .i64 (a : Nat)] 47)) hb
      have e1 : (w.alloc (.cells #[.int .i64 0, .string ⟨#[]⟩, .pointer none, .int .i64 0] 47)).heap.size = w.heap.size + 1 := by simp
      rw [e1] at hh4
      have HH2 := Lib.hid hh2
      have HH4 := Lib.hid hh4
      have HL2 := Lib.hid (HLX.out.later hb)
      have HB2 := Lib.hid (ext_step HX2.out hb)
      obtain ⟨d0, d1⟩ := HL2.out.cells
      have g1 := HL2.out.frz 1
      have k0 : w2.cell? ⟨w.heap.size + 1, 0, none⟩ = some (.int .i64 4) := by rw [cell_of_row _ _ _ _ _ _ hh4]; rfl
      have k1 : w2.cell? ⟨w.heap.size + 1, 1, none⟩ = some (.string ⟨#[]⟩) := by rw [cell_of_row _ _ _ _ _ _ hh4]; rfl
      have k2 : w2.cell? ⟨w.heap.size + 1, 2, none⟩ = some (.pointer none) := by rw [cell_of_row _ _ _ _ _ _ hh4]; rfl
      have k3 : w2.cell? ⟨w.heap.size + 1, 3, none⟩ = some (.int .i64 (a : Nat)) := by rw [cell_of_row _ _ _ _ _ _ hh4]; rfl
      have kf : ∀ j, w2.frozen? ⟨w.heap.size + 1, j, none⟩ = false := fun j => frozen_of_row _ _ j _ _ hh4
      have q0 : w2.cell? ⟨w.heap.size, 0, none⟩ = some (.int .i64 0) := by rw [cell_of_row _ _ _ _ _ _ hh2]; rfl
      have q1 : w2.cell? ⟨w.heap.size, 1, none⟩ = some (.string ⟨#[]⟩) := by rw [cell_of_row _ _ _ _ _ _ hh2]; rfl
      have q2 : w2.cell? ⟨w.heap.size, 2, none⟩ = some (.pointer none) := by rw [cell_of_row _ _ _ _ _ _ hh2]; rfl
      have q3 : w2.cell? ⟨w.heap.size, 3, none⟩ = some (.int .i64 0) := by rw [cell_of_row _ _ _ _ _ _ hh2]; rfl
      have qf : ∀ j, w2.frozen? ⟨w.heap.size, j, none⟩ = false := fun j => frozen_of_row _ _ j _ _ hh2
      have hne1 : p ≠ w.heap.size := by omega
      have hne2 : p ≠ w.heap.size + 1 := by omega
      clear hb hh2 hh4 e1 c0 c1 f1
      have HTK : Hid (TkW w p s a (ptr vb) (some r) w2) := ((TkW.first HL.out _ _).later HBR.out).with HRE.out
      go_wp2_with fail
      refine bodyPost_ret (v := .tuple #[.agg #[.int .i64 4, .string ⟨#[]⟩, ptr vb, .int .i64 (a : Nat)], .int .i64 0]) (by simp [results, Tryz.results128, go_sem, q0, q1, q2, q3, k0, k1, k2, k3, d1, hne1, hne2, Ne.symm hne1, Ne.symm hne2]) rfl ?_
      rw [HO.out]
      have hfin := (((((HTK.out.tok1 2 (ptr vb)).pos (a + k + 2) ((a : Int) + 1 + (k : Int) + 1) (by omega)).tok0 0 (.int .i64 4)).tok0 1 (.string ⟨#[]⟩)).tok0 2 (ptr vb)).tok0 3 (.int .i64 (a : Nat))
      exact ⟨ptr vb, rfl, hfin.re, hfin.lx, hfin.far⟩
    · rw [hr] at HRD HE
      have HO : Hid (OUT = (⟨4, [], none, a⟩, e, a + 1 + q)) := by show _ = _; rw [HE.out]; simp only; rw [if_neg (by omega)]
      have he0 : (((e : Nat) : Int) != 0) = true := by simp; omega
      have hq1 : q ≤ 65536 := by omega
      generalize hS : (⟨s.toArray⟩ : ByteArray) = S at *
      generalize hT : (⟨T.toArray⟩ : ByteArray) = TT at *
      clear HE hr hT
      go_enter Tryz.func128, Tryz.ntmps128
      go_wp2_with fail
      refine (HUN.out _ HLX.out).mono ?_
      rintro e w1 ⟨rfl, rfl⟩
      go_wp2_with fail
      refine (HRD.out _).mono ?_
      rintro e' w2 ⟨v, rfl, hre, hb⟩
      obtain rfl : v = .pointer none := hre
      have HBR := Lib.hid hb
      have hh2 := heap_in (heap_in (heap_alloc_last w (.cells #[.int .i64 0, .string ⟨#[]⟩, .pointer none, .int .i64 0] 47)) (re_alloc _ (.cells #[.int .i64 4, .string ⟨#[]⟩, .pointer none, .int .i64 (a : Nat)] 47))) hb
      have hh4 := heap_in (heap_alloc_last (w.alloc (.cells #[.int .i64 0, .string ⟨#[]⟩, .pointer none, .int .i64 0] 47)) (.cells #[.int .i64 4, .string ⟨#[]⟩, .pointer none, .int .i64 (a : Nat)] 47)) hb
      have e1 : (w.alloc (.cells #[.int .i64 0, .string ⟨#[]⟩, .pointer none, .int .i64 0] 47)).heap.size = w.heap.size + 1 := by simp
      rw [e1] at hh4
      have HH2 := Lib.hid hh2
      have HH4 := Lib.hid hh4
      have HL2 := Lib.hid (HLX.out.later hb)
      have HB2 := Lib.hid (ext_step HX2.out hb)
      obtain ⟨d0, d1⟩ := HL2.out.cells
      have g1 := HL2.out.frz 1
      have k0 : w2.cell? ⟨w.heap.size + 1, 0, none⟩ = some (.int .i64 4) := by rw [cell_of_row _ _ _ _ _ _ hh4]; rfl
      have k1 : w2.cell? ⟨w.heap.size + 1, 1, none⟩ = some (.string ⟨#[]⟩) := by rw [cell_of_row _ _ _ _ _ _ hh4]; rfl
      have k2 : w2.cell? ⟨w.heap.size + 1, 2, none⟩ = some (.pointer none) := by rw [cell_of_row _ _ _ _ _ _ hh4]; rfl
      have k3 : w2.cell? ⟨w.heap.size + 1, 3, none⟩ = some (.int .i64 (a : Nat)) := by rw [cell_of_row _ _ _ _ _ _ hh4]; rfl
      have kf : ∀ j, w2.frozen? ⟨w.heap.size + 1, j, none⟩ = false := fun j => frozen_of_row _ _ j _ _ hh4
      have q0 : w2.cell? ⟨w.heap.size, 0, none⟩ = some (.int .i64 0) := by rw [cell_of_row _ _ _ _ _ _ hh2]; rfl
      have q1 : w2.cell? ⟨w.heap.size, 1, none⟩ = some (.string ⟨#[]⟩) := by rw [cell_of_row _ _ _ _ _ _ hh2]; rfl
      have q2 : w2.cell? ⟨w.heap.size, 2, none⟩ = some (.pointer none) := by rw [cell_of_row _ _ _ _ _ _ hh2]; rfl
      have q3 : w2.cell? ⟨w.heap.size, 3, none⟩ = some (.int .i64 0) := by rw [cell_of_row _ _ _ _ _ _ hh2]; rfl
      have qf : ∀ j, w2.frozen? ⟨w.heap.size, j, none⟩ = false := fun j => frozen_of_row _ _ j _ _ hh2
      have hne1 : p ≠ w.heap.size := by omega
      have hne2 : p ≠ w.heap.size + 1 := by omega
      clear hb hh2 hh4 e1 c0 c1 f1
      have HTK : Hid (TkW w p s a (.pointer none) none w2) := (TkW.first HL.out _ _).later HBR.out
      go_wp2_with fail
      refine bodyPost_ret (v := .tuple #[.agg #[.int .i64 4, .string ⟨#[]⟩, .pointer none, .int .i64 (a : Nat)], .int .i64 (e : Nat)]) (by simp [results, Tryz.results128, go_sem, q0, q1, q2, q3, k0, k1, k2, k3, d1, hne1, hne2, Ne.symm hne1, Ne.symm hne2]) rfl ?_
      rw [HO.out]
      have hfin := ((((HTK.out.pos (a + 1 + q) ((a : Int) + 1 + (q : Int)) (by omega)).tok0 0 (.int .i64 4)).tok0 1 (.string ⟨#[]⟩)).tok0 2 (.pointer none)).tok0 3 (.int .i64 (a : Nat))
      exact ⟨.pointer none, rfl, rfl, hfin.lx, hfin.far⟩
end Go.Proofs.YtgamknphlmcgnaaGreatDoor
namespace Go.Proofs.YtgamknphlmcgnaaGreatDoor
open Go.RowKit
theorem infoU8 : (Tryz.prog.info? 5).map (fun i => (i.zero, i.size, i.bytes)) = some (some (.int .u8 0), 1, 1) := by kernel_rfl
def byV (c : UInt8) : Value := .int .u8 (c.toNat : Nat)
/-- bytes in a row of one's own -/
def BytAt (w : World) (v : Value) (out : List UInt8) (W : World) : Prop := W.ownsRow (w.heap.size + 2) 5 1 v out.length (out.map byV)
theorem BytAt.conv {w W : World} {v : Value} {out : List UInt8} (h : BytAt w v out W) : (convert 139 9 v).run Tryz.prog W = .ok (.string ⟨out.toArray⟩) W := by
  rcases h.2 with ⟨rfl, h0⟩ | ⟨g, cap, cur, rfl, hb, hg, hrest⟩
  · have : out = [] := List.length_eq_zero_iff.1 h0
    subst this
    rw [run_convert_bytes_nil W 139 5 Tryz.underlying139 Tryz.underlying5 0 0 9 Tryz.underlying9]
    rfl
  · refine run_convert_bytes_back W 139 9 5 ⟨g, 0, none⟩ cap out Tryz.underlying139 Tryz.underlying5 Tryz.underlying9 fun j hj => ?_
    exact World.ownsRow.cells h (g := g) rfl j (.int .u8 (out[j].toNat : Int)) (by simp [hj, byV])
theorem BytAt.kept {w W W' : World} {v : Value} {out : List UInt8} (h : BytAt w v out W) (hb : Below W.heap.size W W') : BytAt w v out W' :=
  World.ownsRow.kept h (re_grownBy hb) (by cases v.ownBlock <;> simp)
theorem TkW.grown {w W W' : World} {p a : Nat} {s : List UInt8} {row : Option Nat} (h : TkW w p s a (.pointer none) none W) (hg : W.grownBy W' row) (hrow : ∀ g, row = some g → w.heap.size + 2 ≤ g) : TkW w p s a (.pointer none) none W' := by
  obtain ⟨cs, hc⟩ := h.t0
  obtain ⟨ds, hd⟩ := h.t1
  have hp := h.pl
  have keep : ∀ k, k < w.heap.size + 2 → k < W.heap.size → W'.heap[k]? = W.heap[k]? := fun k hk hl => hg.block k hl fun e => by
    have h2 := fun g (hg : row = some g) => hrow g hg
    first
      | (have := h2 k e; omega)
      | (have := h2 k e.symm; omega)
  have hsz := h.far.size
  exact ⟨hp, (keep p (by omega) (by omega)).trans h.lx, ⟨hg.os.trans h.far.os, hg.tape.trans h.far.tape, hg.output.trans h.far.output, Nat.le_trans hsz hg.size, fun k hk hne => (keep k (by omega) (by omega)).trans (h.far.block k hk hne)⟩,
    ⟨cs, (keep _ (by omega) (Array.getElem?_eq_some_iff.1 hc).1).trans hc⟩, ⟨ds, (keep _ (by omega) (Array.getElem?_eq_some_iff.1 hd).1).trans hd⟩, rfl⟩
theorem BytAt.low {w W : World} {v : Value} {out : List UInt8} (h : BytAt w v out W) : ∀ g, v.ownBlock = some g → w.heap.size + 2 ≤ g := fun g hg => (World.ownsRow.lt h g hg).1
/-- what is left between two places -/
def part (s : List UInt8) (i E : Nat) : List UInt8 := (s.drop i).take (E - i)
theorem part_nil (s : List UInt8) (i E : Nat) (h : E ≤ i) : part s i E = [] := by unfold part; rw [Nat.sub_eq_zero_of_le h]; rfl
theorem part_cons (s : List UInt8) (i E : Nat) (h : i < E) (hE : E ≤ s.length) : part s i E = s.getD i 0 :: part s (i + 1) E := by
  unfold part
  rw [List.drop_eq_getElem_cons (by omega : i < s.length), show E - i = (E - (i + 1)) + 1 by omega, List.take_succ_cons]
  congr 1
  simp [List.getD, (by omega : i < s.length)]
theorem part_drop (s : List UInt8) (i E n : Nat) : (part s i E).drop n = part s (i + n) E := by
  unfold part
  rw [List.drop_take, List.drop_drop]
  congr 1
  omega
theorem part_take (s : List UInt8) (i E n J : Nat) (hJ : J = min (i + n) E) (h : i ≤ E) : (part s i E).take n = (s.drop i).take (J - i) := by
  unfold part
  rw [List.take_take]
  congr 1
  omega
theorem part_len (s : List UInt8) (i E : Nat) : (part s i E).length ≤ E - i := by unfold part; rw [List.length_take]; omega
theorem part_head (s : List UInt8) (i E : Nat) (hE : E ≤ s.length) : (part s i E).head? = if i < E then some (s.getD i 0) else none := by
  by_cases h : i < E
  · rw [part_cons s i E h hE, if_pos h]; rfl
  · rw [part_nil s i E (by omega), if_neg h]; rfl
theorem qGo_step (f : Nat) (c : UInt8) (r : List UInt8) (i : Nat) (out : List UInt8) (hnp : ¬ (c ≠ 92 ∧ LX.plainQ.contains c = true)) (n : Nat) (hn : LX.qStep c r = n) :
    (LX.single1 (readW ((c :: r).take n)).1 = none → LX.qGo (f + 1) (c :: r) i out = (out, some i)) ∧ ∀ b, LX.single1 (readW ((c :: r).take n)).1 = some b → LX.qGo (f + 1) (c :: r) i out = LX.qGo f ((c :: r).drop n) (i + n) (out ++ [b.toUInt8]) := by
  subst hn
  rw [LX.qGo, if_neg hnp]
  generalize readW ((c :: r).take (LX.qStep c r)) = x
  have e : LX.single x = LX.single1 x.1 := rfl
  rw [e]
  exact ⟨fun h => by rw [h], fun b h => by rw [h]⟩
theorem SingleIs.split {o : Option RE} {b : Nat} {ok : Bool} (h : SingleIs o b ok) : (∃ x, LX.single1 o = some x ∧ b = x ∧ ok = true) ∨ (LX.single1 o = none ∧ ok = false) := by
  unfold SingleIs at h
  generalize LX.single1 o = q at *
  cases q with
  | none => exact .inr ⟨rfl, h⟩
  | some x => exact .inl ⟨x, rfl, h⟩
theorem single_lt {o : Option RE} {b : Nat} (h : LX.single1 o = some b) : b < 256 ∧ o ≠ none := by
  cases o with
  | none => cases h
  | some r =>
    unfold LX.single1 at h
    simp only at h
    split at h
    · cases h; exact ⟨r.set.least_lt, by simp⟩
    · cases h
theorem readW_ok0 (s : List UInt8) (h : (readW s).1 ≠ none) : (readW s).2.1 = 0 := by
  rcases readW_out s with ⟨r, hr⟩ | ⟨e, q, hr, _⟩
  · rw [hr]
  · rw [hr] at h; exact absurd rfl h
def QAt (w : World) (p : Nat) (s : List UInt8) (a E : Nat) (R : List UInt8 × Option Nat) (v i : Value) (wr : World) : Prop :=
  ∃ (f j : Nat) (out : List UInt8), i = .int .i64 (j : Nat) ∧ a + 1 ≤ j ∧ j ≤ E + 4 ∧ LX.qGo f (part s j E) j out = R ∧ E - j < f ∧ out.length ≤ j ∧ BytAt w v out wr ∧ TkW w p s a (.pointer none) none wr ∧ ∃ ds, wr.heap[w.heap.size + 1]? = some (.cells #[.int .i64 3, .string ⟨#[]⟩, .pointer none, .int .i64 (a : Nat)] 47 (0, 0)) ∧ wr.heap[w.heap.size]? = some (.cells #[.int .i64 0, .string ⟨#[]⟩, .pointer none, .int .i64 0] 47 (0, 0)) ∧ ds = 0
set_option maxRecDepth 100000 in
set_option maxHeartbeats 16000000 in
theorem lxQuoted_any (w : World) (p a : Nat) (s : List UInt8) (ha : a < s.length) (hs : s.length ≤ 65536) (h : LxAt w p s a) (hT : Tab w) :
    Calls Tryz.prog 127 #[ptr p] w (TokPost p s w (LX.quoted s a (s.drop (a + 1)))) := by
  obtain ⟨c0, c1⟩ := h.cells
  have hpl := h.lt
  have f1 := h.frz 1
  have hsz : (⟨s.toArray⟩ : ByteArray).size = s.length := str_size s
  have HT := Lib.hid hT
  have HL0 := Lib.hid h
  have HUN := Lib.hid (fun W (h : LxAt W p s a) => until_any (w := W) 34 (a + 1) (by omega) hs h)
  have hcast : ((a + 1 : Nat) : Int) = (a : Int) + 1 := by omega
  rw [hcast, untilI_eq] at HUN
  have HE : Hid (LX.quoted s a (s.drop (a + 1)) = match LX.untilN 34 (s.drop (a + 1)) with
    | none => (⟨3, [], none, a⟩, 2, s.length)
    | some k => match LX.qGo (k + 1) ((s.drop (a + 1)).take k) (a + 1) [] with
      | (out, none) => (⟨3, out, none, a⟩, 0, a + k + 2)
      | (_, some i) => (⟨3, [], none, a⟩, 2, i)) := rfl
  have HLTK := Lib.hid (fun k (hk : LX.untilN 34 (s.drop (a + 1)) = some k) => (LX.untilN_lt _ _ k (Nat.le_refl _) hk).1)
  generalize LX.quoted s a (s.drop (a + 1)) = OUT at *
  have hx2 := ext_alloc (re_alloc w (.cells #[.int .i64 0, .string ⟨#[]⟩, .pointer none, .int .i64 0] 47)) (.cells #[.int .i64 3, .string ⟨#[]⟩, .pointer none, .int .i64 (a : Nat)] 47)
  have HLX := Lib.hid (h.later hx2)
  clear hx2 hcast hT h
  obtain ⟨U, hU⟩ : ∃ U, LX.untilN 34 (s.drop (a + 1)) = U := ⟨_, rfl⟩
  rw [hU] at HE HUN
  have HU := Lib.hid hU
  clear hU
  cases U with
  | none =>
    simp only at HE HUN
    have HO := Lib.hid HE.out
    generalize hS : (⟨s.toArray⟩ : ByteArray) = S at *
    go_enter Tryz.func127, Tryz.ntmps127
    go_wp2_with fail
    refine (HUN.out _ HLX.out).mono ?_
    rintro e w1 ⟨rfl, rfl⟩
    go_wp2_with fail
    refine bodyPost_ret (v := .tuple #[.agg #[.int .i64 3, .string ⟨#[]⟩, .pointer none, .int .i64 (a : Nat)], .int .i64 2]) (by simp [results, Tryz.results127, go_sem]) rfl ?_
    rw [HO.out]
    exact ⟨.pointer none, rfl, rfl, (HL0.out.put' s.length _ rfl).later (ext_alloc (re_alloc _ _) _), ((Far.refl p w).set 1 _).trans (Far.below (ext_alloc (re_alloc _ _) _))⟩
  | some k =>
    simp only at HE HUN
    have hk := HLTK.out k HU.out
    rw [List.length_drop] at hk
    obtain ⟨E, hE⟩ : ∃ E, a + 1 + k = E := ⟨_, rfl⟩
    have hEi : ((a + 1 + k : Nat) : Int) = (E : Nat) := by omega
    have hEl : E < s.length := by omega
    have hpt : (s.drop (a + 1)).take k = part s (a + 1) E := by unfold part; congr 1; omega
    rw [hpt] at HE
    rw [hEi] at HUN
    obtain ⟨R, hR⟩ : ∃ R, LX.qGo (k + 1) (part s (a + 1) E) (a + 1) [] = R := ⟨_, rfl⟩
    rw [hR] at HE
    have HR := Lib.hid hR
    have HOUT := Lib.hid HE.out
    have hk2 : a + k + 2 = E + 1 := by omega
    rw [hk2] at HOUT
    have h0 : ¬ ((E : Int) < 0) := by omega
    have hfst : QAt w p s a E R (.slice none 0 0) (.int .i64 ((a : Int) + 1)) ((w.alloc (.cells #[.int .i64 0, .string ⟨#[]⟩, .pointer none, .int .i64 0] 47)).alloc (.cells #[.int .i64 3, .string ⟨#[]⟩, .pointer none, .int .i64 (a : Nat)] 47)) := by
      have e1 : (w.alloc (.cells #[.int .i64 0, .string ⟨#[]⟩, .pointer none, .int .i64 0] 47)).heap.size = w.heap.size + 1 := by simp
      have h4 := heap_alloc_last (w.alloc (.cells #[.int .i64 0, .string ⟨#[]⟩, .pointer none, .int .i64 0] 47)) (.cells #[.int .i64 3, .string ⟨#[]⟩, .pointer none, .int .i64 (a : Nat)] 47)
      rw [e1] at h4
      exact ⟨k + 1, a + 1, [], by congr 1, Nat.le_refl _, by omega, HR.out, by omega, Nat.zero_le _, World.ownsRow_nil _ _ _ _, TkW.first HL0.out _ _, 0, h4, heap_in (heap_alloc_last w _) (re_alloc _ _), rfl⟩
    have HFST := Lib.hid hfst
    have HIX := Lib.hid (fun (c : Int) W => IndexByte_any ⟨#[40, 41, 91, 93, 124, 38, 45, 42, 43, 63, 46, 32]⟩ c W)
    obtain ⟨i0, hi, hz0, hz1, hz2⟩ := info_parts infoU8
    have HI := Lib.hid hi; have HZ0 := Lib.hid hz0; have HZ1 := Lib.hid hz1; have HZ2 := Lib.hid hz2
    have hne1 : p ≠ w.heap.size := by omega
    have hne2 : p ≠ w.heap.size + 1 := by omega
    clear hR hpt hk2 hfst hi hz0 hz1 hz2 HE hEi
    go_enter Tryz.func127, Tryz.ntmps127
    go_wp2_with fail
    refine (HUN.out _ HLX.out).mono ?_
    rintro e w1 ⟨rfl, rfl⟩
    go_wp2_with fail
    go_loopw [7, 8] (fun v i wr => QAt w p s a E R v i wr) (fun _ i _ => E + 5 - (intOf i).toNat)
    case atStart => exact HFST.out
    case round =>
      clear HFST HR
      obtain ⟨f, j, out, rfl, hj1, hj2, hgo, hf, hol, hby, htk, ds, hh4, hh2, hds⟩ := hrel
      obtain ⟨f', rfl⟩ : ∃ g, f = g + 1 := ⟨f - 1, by omega⟩
      have HGO := Lib.hid hgo
      have HBY := Lib.hid hby
      have HTK := Lib.hid htk
      have HH4 := Lib.hid hh4
      have HH2 := Lib.hid hh2
      obtain ⟨c0, c1⟩ := htk.lx.cells
      clear hgo hby htk hds
      by_cases hlt : j < E
      · have hlt' : (j : Int) < (E : Int) := by omega
        have hjs : j < s.length := by omega
        have hidx := fun W => str_at s j hjs W
        have hpc := part_cons s j E hlt (by omega)
        have HPC := Lib.hid hpc
        have hph := part_head s (j + 1) E (by omega)
        have HPH := Lib.hid hph
        have hjn : j ≤ 65536 := by omega
        have e2 := byteIs (s.getD j 0) 92 (by omega)
        have HST0 : Hid (∀ r, LX.qStep (s.getD j 0) r = if s.getD j 0 = 92 then (if r.head? = some 120 then 4 else 2) else 1) := fun r => rfl
        have hge := index_ge LX.plainQ (s.getD j 0)
        clear hpc hph
        by_cases g92 : s.getD j 0 = 92
        · have e3 : ((((s.getD j 0).toNat : Nat) : Int) == 92) = true := by rw [g92]; rfl
          have HNP : Hid (¬ (s.getD j 0 ≠ 92 ∧ LX.plainQ.contains (s.getD j 0) = true)) := fun h => h.1 g92
          clear e2 hge
          by_cases hx1 : j + 1 < E
          · have hx1' : (j : Int) + 1 < (E : Int) := by omega
            have hidx1 := fun W => str_at s (j + 1) (by omega) W
            have hcj : ((j + 1 : Nat) : Int) = (j : Int) + 1 := by omega
            rw [hcj] at hidx1
            by_cases g120 : s.getD (j + 1) 0 = 120
            · have e4 : ((((s.getD (j + 1) 0).toNat : Nat) : Int) == 120) = true := by rw [g120]; rfl
              have HST : Hid (LX.qStep (s.getD j 0) (part s (j + 1) E) = 4) := by
                show _ = _
                rw [HST0.out, if_pos g92, HPH.out, if_pos hx1, g120, if_pos rfl]
              clear g120 g92 hcj
              generalize s.getD (j + 1) 0 = c' at *
              by_cases hle : j + 4 ≤ E
              · have hmin : min ((j : Int) + 4) (E : Int) = (j : Int) + 4 := by omega
                have htk := part_take s j E 4 (j + 4) (by omega) (by omega)
                have hsl := fun W => strBetweenAt s j (j + 4) (by omega) (by omega) (j : Int) ((j : Int) + 4) (by omega) (by omega) W
                have hsl2 := fun W => strBetween s j (j + 4) (by omega) (by omega) (j : Int) ((j : Int) + 4) (by omega) (by omega) W
                rw [← htk] at hsl hsl2
                have hrd := Read_any ((part s j E).take 4) (by rw [List.length_take]; have := part_len s j E; omega)
                have hqs := qGo_step f' (s.getD j 0) (part s (j + 1) E) j out HNP.out 4 HST.out
                rw [← HPC.out, HGO.out, part_drop s j E 4] at hqs
                have HQS := Lib.hid hqs
                clear hqs
                generalize (part s j E).take 4 = T at *
                have HRD := Lib.hid hrd
                have HSG := Lib.hid (fun W v (hT : Tab W) (h : IsReO W v (readW T).1) => single_any v (readW T).1 W hT h)
                have HOK := Lib.hid (readW_ok0 T)
                clear hrd htk
                generalize hS : (⟨s.toArray⟩ : ByteArray) = S at *
                generalize hTT : (⟨T.toArray⟩ : ByteArray) = TT at *
                clear hS hTT
                generalize s.getD j 0 = ch at *
                go_wp2_with fail
                refine (HRD.out _).mono ?_
                rintro e w2 ⟨v, rfl, hre, hb⟩
                have HRE := Lib.hid hre
                have HB2 := Lib.hid hb
                have HTK2 := Lib.hid (HTK.out.later hb)
                have HBY2 := Lib.hid (HBY.out.kept hb)
                have HH42 := Lib.hid (heap_in HH4.out hb)
                have HH22 := Lib.hid (heap_in HH2.out hb)
                have HT2 := Lib.hid (HT.out.farL HL0.out HTK2.out.far)
                have hvp := hre.ptr
                clear hre hb
                obtain ⟨qv, rfl⟩ := hvp
                go_wp2_with fail
                refine (HSG.out _ _ HT2.out HRE.out).mono ?_
                rintro e w3 ⟨b, ok, rfl, hsi, hb⟩
                have HSM := Lib.hid hsi.split
                have HTK3 := Lib.hid (HTK2.out.later hb)
                have HBY3 := Lib.hid (HBY2.out.kept hb)
                have hh4 := heap_in HH42.out hb
                have hh2 := heap_in HH22.out hb
                have HH43 := Lib.hid hh4
                have HH23 := Lib.hid hh2
                clear hb hsi
                obtain ⟨d0, d1⟩ := HTK3.out.lx.cells
                have g1 := HTK3.out.lx.frz 1
                have k0 : w3.cell? ⟨w.heap.size + 1, 0, none⟩ = some (.int .i64 3) := by rw [cell_of_row _ _ _ _ _ _ hh4]; rfl
                have k1 : w3.cell? ⟨w.heap.size + 1, 1, none⟩ = some (.string ⟨#[]⟩) := by rw [cell_of_row _ _ _ _ _ _ hh4]; rfl
                have k2 : w3.cell? ⟨w.heap.size + 1, 2, none⟩ = some (.pointer none) := by rw [cell_of_row _ _ _ _ _ _ hh4]; rfl
                have k3 : w3.cell? ⟨w.heap.size + 1, 3, none⟩ = some (.int .i64 (a : Nat)) := by rw [cell_of_row _ _ _ _ _ _ hh4]; rfl
                have kf : ∀ j, w3.frozen? ⟨w.heap.size + 1, j, none⟩ = false := fun j => frozen_of_row _ _ j _ _ hh4
                have q0 : w3.cell? ⟨w.heap.size, 0, none⟩ = some (.int .i64 0) := by rw [cell_of_row _ _ _ _ _ _ hh2]; rfl
                have q1 : w3.cell? ⟨w.heap.size, 1, none⟩ = some (.string ⟨#[]⟩) := by rw [cell_of_row _ _ _ _ _ _ hh2]; rfl
                have q2 : w3.cell? ⟨w.heap.size, 2, none⟩ = some (.pointer none) := by rw [cell_of_row _ _ _ _ _ _ hh2]; rfl
                have q3 : w3.cell? ⟨w.heap.size, 3, none⟩ = some (.int .i64 0) := by rw [cell_of_row _ _ _ _ _ _ hh2]; rfl
                have qf : ∀ j, w3.frozen? ⟨w.heap.size, j, none⟩ = false := fun j => frozen_of_row _ _ j _ _ hh2
                clear hh4 hh2
                obtain ⟨en, HEN⟩ : ∃ en, Hid ((readW T).2.1 = en) := ⟨_, rfl⟩
                rw [HEN.out]
                rcases HSM.out with ⟨x, hx, rfl, rfl⟩ | ⟨hx, rfl⟩
                · have HQ : Hid (LX.qGo f' (part s (j + 4) E) (j + 4) (out ++ [b.toUInt8]) = R) := (HQS.out.2 b hx).symm
                  obtain ⟨hb256, hnn⟩ := single_lt hx
                  have he : en = 0 := by rw [← HEN.out]; exact HOK.out hnn
                  have HBV : Hid (byV b.toUInt8 = .int .u8 (b : Nat)) := by
                    show _ = _
                    unfold byV
                    rw [show b.toUInt8.toNat = b by rw [Nat.toUInt8_eq, UInt8.toNat_ofNat']; omega]
                  clear hx hnn HEN
                  subst he
                  go_wp2_with (at_builtin; refine wpList_append_lies _ rfl _ _ _ rfl (w.heap.size + 2) 5 i0 _ 1 1 Tryz.underlying139 HI.out HZ0.out HZ1.out HZ2.out rfl (by omega) _ out.length (out.map byV) rfl (World.ownsRow.alloc HBY3.out _) ⟨w3.heap.size, 0, none⟩ 1 1 [byV b.toUInt8] rfl rfl (by rw [HBV.out]; exact World.news_of_block (cs := #[.int .u8 (b : Nat)]) (t := 5) (fr := (0, 0)) (heap_alloc_last w3 _)) (by intro u hu; rw [List.mem_singleton.1 hu]; rfl) (by omega) (by unfold maxLen; omega) (by omega) (by have := HTK3.out.t1; obtain ⟨cs, hc⟩ := this; have := (Array.getElem?_eq_some_iff.1 hc).1; simp; omega) (w3.heap.size + 1) (by simp) ?_; intro g5 cp5 W9 hown9 hg9 hat9 hlt9)
                  have HTK9 : Hid (TkW w p s a (.pointer none) none W9) := (HTK3.out.later (re_alloc w3 _)).grown hg9 HBY3.out.low
                  have HBY9 : Hid (BytAt w (.slice (some ⟨g5, 0, none⟩) (out.length + 1) cp5) (out ++ [b.toUInt8]) W9) := by
                    show World.ownsRow _ _ _ _ _ _ _
                    rw [List.length_append, List.length_singleton, List.map_append]; exact hown9
                  have HKP : Hid (∀ c o, c < w.heap.size + 2 → w3.heap[c]? = some o → W9.heap[c]? = some o) := fun c o hc ho => by
                    refine (hg9.block c (by simp; have := (Array.getElem?_eq_some_iff.1 ho).1; omega) fun e => ?_).trans (heap_in ho (re_alloc w3 _))
                    first
                      | (have := HBY3.out.low c e; omega)
                      | (have := HBY3.out.low c e.symm; omega)
                  have H49 := Lib.hid (HKP.out _ _ (by omega) HH43.out)
                  have H29 := Lib.hid (HKP.out _ _ (by omega) HH23.out)
                  clear hown9 hg9 hat9 hlt9
                  go_wp2_with fail
                  go_roundw
                  case rel => exact ⟨f', j + 4, out ++ [b.toUInt8], by go_num, by omega, by omega, HQ.out, by omega, by simp; omega, HBY9.out, HTK9.out, 0, H49.out, H29.out, rfl⟩
                  case measure => simp [intOf]; omega
                · have HR : Hid (R = (out, some j)) := HQS.out.1 hx
                  have HO : Hid (OUT = (⟨3, [], none, a⟩, 2, j)) := by
                    show _ = _
                    rw [HOUT.out, HR.out]
                  clear hx HEN
                  by_cases he0 : en = 0
                  · subst he0
                    go_wp2_with fail
                    refine bodyPost_ret (v := .tuple #[.agg #[.int .i64 3, .string ⟨#[]⟩, .pointer none, .int .i64 (a : Nat)], .int .i64 2]) (by simp [results, Tryz.results127, go_sem, q0, q1, q2, q3, k0, k1, k2, k3, d1, hne1, hne2, Ne.symm hne1, Ne.symm hne2]) rfl ?_
                    rw [HO.out]
                    have hfin := ((((HTK3.out.pos j (j : Int) rfl).tok0 0 (.int .i64 3)).tok0 1 (.string ⟨#[]⟩)).tok0 2 (.pointer none)).tok0 3 (.int .i64 (a : Nat))
                    exact ⟨.pointer none, rfl, rfl, hfin.lx, hfin.far⟩
                  · have hen : (((en : Nat) : Int) != 0) = true := by simp; omega
                    go_wp2_with fail
                    refine bodyPost_ret (v := .tuple #[.agg #[.int .i64 3, .string ⟨#[]⟩, .pointer none, .int .i64 (a : Nat)], .int .i64 2]) (by simp [results, Tryz.results127, go_sem, q0, q1, q2, q3, k0, k1, k2, k3, d1, hne1, hne2, Ne.symm hne1, Ne.symm hne2]) rfl ?_
                    rw [HO.out]
                    have hfin := ((((HTK3.out.pos j (j : Int) rfl).tok0 0 (.int .i64 3)).tok0 1 (.string ⟨#[]⟩)).tok0 2 (.pointer none)).tok0 3 (.int .i64 (a : Nat))
                    exact ⟨.pointer none, rfl, rfl, hfin.lx, hfin.far⟩
              · have hmin : min ((j : Int) + 4) (E : Int) = (E : Int) := by omega
                have htk := part_take s j E 4 (E) (by omega) (by omega)
                have hsl := fun W => strBetweenAt s j (E) (by omega) (by omega) (j : Int) ((E : Int)) (by omega) (by omega) W
                have hsl2 := fun W => strBetween s j (E) (by omega) (by omega) (j : Int) ((E : Int)) (by omega) (by omega) W
                rw [← htk] at hsl hsl2
                have hrd := Read_any ((part s j E).take 4) (by rw [List.length_take]; have := part_len s j E; omega)
                have hqs := qGo_step f' (s.getD j 0) (part s (j + 1) E) j out HNP.out 4 HST.out
                rw [← HPC.out, HGO.out, part_drop s j E 4] at hqs
                have HQS := Lib.hid hqs
                clear hqs
                generalize (part s j E).take 4 = T at *
                have HRD := Lib.hid hrd
                have HSG := Lib.hid (fun W v (hT : Tab W) (h : IsReO W v (readW T).1) => single_any v (readW T).1 W hT h)
                have HOK := Lib.hid (readW_ok0 T)
                clear hrd htk
                generalize hS : (⟨s.toArray⟩ : ByteArray) = S at *
                generalize hTT : (⟨T.toArray⟩ : ByteArray) = TT at *
                clear hS hTT
                generalize s.getD j 0 = ch at *
                go_wp2_with fail
                refine (HRD.out _).mono ?_
                rintro e w2 ⟨v, rfl, hre, hb⟩
                have HRE := Lib.hid hre
                have HB2 := Lib.hid hb
                have HTK2 := Lib.hid (HTK.out.later hb)
                have HBY2 := Lib.hid (HBY.out.kept hb)
                have HH42 := Lib.hid (heap_in HH4.out hb)
                have HH22 := Lib.hid (heap_in HH2.out hb)
                have HT2 := Lib.hid (HT.out.farL HL0.out HTK2.out.far)
                have hvp := hre.ptr
                clear hre hb
                obtain ⟨qv, rfl⟩ := hvp
                go_wp2_with fail
                refine (HSG.out _ _ HT2.out HRE.out).mono ?_
                rintro e w3 ⟨b, ok, rfl, hsi, hb⟩
                have HSM := Lib.hid hsi.split
                have HTK3 := Lib.hid (HTK2.out.later hb)
                have HBY3 := Lib.hid (HBY2.out.kept hb)
                have hh4 := heap_in HH42.out hb
                have hh2 := heap_in HH22.out hb
                have HH43 := Lib.hid hh4
                have HH23 := Lib.hid hh2
                clear hb hsi
                obtain ⟨d0, d1⟩ := HTK3.out.lx.cells
                have g1 := HTK3.out.lx.frz 1
                have k0 : w3.cell? ⟨w.heap.size + 1, 0, none⟩ = some (.int .i64 3) := by rw [cell_of_row _ _ _ _ _ _ hh4]; rfl
                have k1 : w3.cell? ⟨w.heap.size + 1, 1, none⟩ = some (.string ⟨#[]⟩) := by rw [cell_of_row _ _ _ _ _ _ hh4]; rfl
                have k2 : w3.cell? ⟨w.heap.size + 1, 2, none⟩ = some (.pointer none) := by rw [cell_of_row _ _ _ _ _ _ hh4]; rfl
                have k3 : w3.cell? ⟨w.heap.size + 1, 3, none⟩ = some (.int .i64 (a : Nat)) := by rw [cell_of_row _ _ _ _ _ _ hh4]; rfl
                have kf : ∀ j, w3.frozen? ⟨w.heap.size + 1, j, none⟩ = false := fun j => frozen_of_row _ _ j _ _ hh4
                have q0 : w3.cell? ⟨w.heap.size, 0, none⟩ = some (.int .i64 0) := by rw [cell_of_row _ _ _ _ _ _ hh2]; rfl
                have q1 : w3.cell? ⟨w.heap.size, 1, none⟩ = some (.string ⟨#[]⟩) := by rw [cell_of_row _ _ _ _ _ _ hh2]; rfl
                have q2 : w3.cell? ⟨w.heap.size, 2, none⟩ = some (.pointer none) := by rw [cell_of_row _ _ _ _ _ _ hh2]; rfl
                have q3 : w3.cell? ⟨w.heap.size, 3, none⟩ = some (.int .i64 0) := by rw [cell_of_row _ _ _ _ _ _ hh2]; rfl
                have qf : ∀ j, w3.frozen? ⟨w.heap.size, j, none⟩ = false := fun j => frozen_of_row _ _ j _ _ hh2
                clear hh4 hh2
                obtain ⟨en, HEN⟩ : ∃ en, Hid ((readW T).2.1 = en) := ⟨_, rfl⟩
                rw [HEN.out]
                rcases HSM.out with ⟨x, hx, rfl, rfl⟩ | ⟨hx, rfl⟩
                · have HQ : Hid (LX.qGo f' (part s (j + 4) E) (j + 4) (out ++ [b.toUInt8]) = R) := (HQS.out.2 b hx).symm
                  obtain ⟨hb256, hnn⟩ := single_lt hx
                  have he : en = 0 := by rw [← HEN.out]; exact HOK.out hnn
                  have HBV : Hid (byV b.toUInt8 = .int .u8 (b : Nat)) := by
                    show _ = _
                    unfold byV
                    rw [show b.toUInt8.toNat = b by rw [Nat.toUInt8_eq, UInt8.toNat_ofNat']; omega]
                  clear hx hnn HEN
                  subst he
                  go_wp2_with (at_builtin; refine wpList_append_lies _ rfl _ _ _ rfl (w.heap.size + 2) 5 i0 _ 1 1 Tryz.underlying139 HI.out HZ0.out HZ1.out HZ2.out rfl (by omega) _ out.length (out.map byV) rfl (World.ownsRow.alloc HBY3.out _) ⟨w3.heap.size, 0, none⟩ 1 1 [byV b.toUInt8] rfl rfl (by rw [HBV.out]; exact World.news_of_block (cs := #[.int .u8 (b : Nat)]) (t := 5) (fr := (0, 0)) (heap_alloc_last w3 _)) (by intro u hu; rw [List.mem_singleton.1 hu]; rfl) (by omega) (by unfold maxLen; omega) (by omega) (by have := HTK3.out.t1; obtain ⟨cs, hc⟩ := this; have := (Array.getElem?_eq_some_iff.1 hc).1; simp; omega) (w3.heap.size + 1) (by simp) ?_; intro g5 cp5 W9 hown9 hg9 hat9 hlt9)
                  have HTK9 : Hid (TkW w p s a (.pointer none) none W9) := (HTK3.out.later (re_alloc w3 _)).grown hg9 HBY3.out.low
                  have HBY9 : Hid (BytAt w (.slice (some ⟨g5, 0, none⟩) (out.length + 1) cp5) (out ++ [b.toUInt8]) W9) := by
                    show World.ownsRow _ _ _ _ _ _ _
                    rw [List.length_append, List.length_singleton, List.map_append]; exact hown9
                  have HKP : Hid (∀ c o, c < w.heap.size + 2 → w3.heap[c]? = some o → W9.heap[c]? = some o) := fun c o hc ho => by
                    refine (hg9.block c (by simp; have := (Array.getElem?_eq_some_iff.1 ho).1; omega) fun e => ?_).trans (heap_in ho (re_alloc w3 _))
                    first
                      | (have := HBY3.out.low c e; omega)
                      | (have := HBY3.out.low c e.symm; omega)
                  have H49 := Lib.hid (HKP.out _ _ (by omega) HH43.out)
                  have H29 := Lib.hid (HKP.out _ _ (by omega) HH23.out)
                  clear hown9 hg9 hat9 hlt9
                  go_wp2_with fail
                  go_roundw
                  case rel => exact ⟨f', j + 4, out ++ [b.toUInt8], by go_num, by omega, by omega, HQ.out, by omega, by simp; omega, HBY9.out, HTK9.out, 0, H49.out, H29.out, rfl⟩
                  case measure => simp [intOf]; omega
                · have HR : Hid (R = (out, some j)) := HQS.out.1 hx
                  have HO : Hid (OUT = (⟨3, [], none, a⟩, 2, j)) := by
                    show _ = _
                    rw [HOUT.out, HR.out]
                  clear hx HEN
                  by_cases he0 : en = 0
                  · subst he0
                    go_wp2_with fail
                    refine bodyPost_ret (v := .tuple #[.agg #[.int .i64 3, .string ⟨#[]⟩, .pointer none, .int .i64 (a : Nat)], .int .i64 2]) (by simp [results, Tryz.results127, go_sem, q0, q1, q2, q3, k0, k1, k2, k3, d1, hne1, hne2, Ne.symm hne1, Ne.symm hne2]) rfl ?_
                    rw [HO.out]
                    have hfin := ((((HTK3.out.pos j (j : Int) rfl).tok0 0 (.int .i64 3)).tok0 1 (.string ⟨#[]⟩)).tok0 2 (.pointer none)).tok0 3 (.int .i64 (a : Nat))
                    exact ⟨.pointer none, rfl, rfl, hfin.lx, hfin.far⟩
                  · have hen : (((en : Nat) : Int) != 0) = true := by simp; omega
                    go_wp2_with fail
                    refine bodyPost_ret (v := .tuple #[.agg #[.int .i64 3, .string ⟨#[]⟩, .pointer none, .int .i64 (a : Nat)], .int .i64 2]) (by simp [results, Tryz.results127, go_sem, q0, q1, q2, q3, k0, k1, k2, k3, d1, hne1, hne2, Ne.symm hne1, Ne.symm hne2]) rfl ?_
                    rw [HO.out]
                    have hfin := ((((HTK3.out.pos j (j : Int) rfl).tok0 0 (.int .i64 3)).tok0 1 (.string ⟨#[]⟩)).tok0 2 (.pointer none)).tok0 3 (.int .i64 (a : Nat))
                    exact ⟨.pointer none, rfl, rfl, hfin.lx, hfin.far⟩
            · have e4 : ((((s.getD (j + 1) 0).toNat : Nat) : Int) == 120) = false := by rw [beq_eq_false_iff_ne]; exact fun h => g120 (UInt8.toNat_inj.1 (by show (s.getD (j + 1) 0).toNat = 120; omega))
              have HST : Hid (LX.qStep (s.getD j 0) (part s (j + 1) E) = 2) := by
                show _ = _
                rw [HST0.out, if_pos g92, HPH.out, if_pos hx1, if_neg (fun h => g120 (Option.some.inj h))]
              clear g120 g92 hcj
              generalize s.getD (j + 1) 0 = c' at *
              have hmin : min ((j : Int) + 2) (E : Int) = (j : Int) + 2 := by omega
              have htk := part_take s j E 2 (j + 2) (by omega) (by omega)
              have hsl := fun W => strBetweenAt s j (j + 2) (by omega) (by omega) (j : Int) ((j : Int) + 2) (by omega) (by omega) W
              have hsl2 := fun W => strBetween s j (j + 2) (by omega) (by omega) (j : Int) ((j : Int) + 2) (by omega) (by omega) W
              rw [← htk] at hsl hsl2
              have hrd := Read_any ((part s j E).take 2) (by rw [List.length_take]; have := part_len s j E; omega)
              have hqs := qGo_step f' (s.getD j 0) (part s (j + 1) E) j out HNP.out 2 HST.out
              rw [← HPC.out, HGO.out, part_drop s j E 2] at hqs
              have HQS := Lib.hid hqs
              clear hqs
              generalize (part s j E).take 2 = T at *
              have HRD := Lib.hid hrd
              have HSG := Lib.hid (fun W v (hT : Tab W) (h : IsReO W v (readW T).1) => single_any v (readW T).1 W hT h)
              have HOK := Lib.hid (readW_ok0 T)
              clear hrd htk
              generalize hS : (⟨s.toArray⟩ : ByteArray) = S at *
              generalize hTT : (⟨T.toArray⟩ : ByteArray) = TT at *
              clear hS hTT
              generalize s.getD j 0 = ch at *
              go_wp2_with fail
              refine (HRD.out _).mono ?_
              rintro e w2 ⟨v, rfl, hre, hb⟩
              have HRE := Lib.hid hre
              have HB2 := Lib.hid hb
              have HTK2 := Lib.hid (HTK.out.later hb)
              have HBY2 := Lib.hid (HBY.out.kept hb)
              have HH42 := Lib.hid (heap_in HH4.out hb)
              have HH22 := Lib.hid (heap_in HH2.out hb)
              have HT2 := Lib.hid (HT.out.farL HL0.out HTK2.out.far)
              have hvp := hre.ptr
              clear hre hb
              obtain ⟨qv, rfl⟩ := hvp
              go_wp2_with fail
              refine (HSG.out _ _ HT2.out HRE.out).mono ?_
              rintro e w3 ⟨b, ok, rfl, hsi, hb⟩
              have HSM := Lib.hid hsi.split
              have HTK3 := Lib.hid (HTK2.out.later hb)
              have HBY3 := Lib.hid (HBY2.out.kept hb)
              have hh4 := heap_in HH42.out hb
              have hh2 := heap_in HH22.out hb
              have HH43 := Lib.hid hh4
              have HH23 := Lib.hid hh2
              clear hb hsi
              obtain ⟨d0, d1⟩ := HTK3.out.lx.cells
              have g1 := HTK3.out.lx.frz 1
              have k0 : w3.cell? ⟨w.heap.size + 1, 0, none⟩ = some (.int .i64 3) := by rw [cell_of_row _ _ _ _ _ _ hh4]; rfl
              have k1 : w3.cell? ⟨w.heap.size + 1, 1, none⟩ = some (.string ⟨#[]⟩) := by rw [cell_of_row _ _ _ _ _ _ hh4]; rfl
              have k2 : w3.cell? ⟨w.heap.size + 1, 2, none⟩ = some (.pointer none) := by rw [cell_of_row _ _ _ _ _ _ hh4]; rfl
              have k3 : w3.cell? ⟨w.heap.size + 1, 3, none⟩ = some (.int .i64 (a : Nat)) := by rw [cell_of_row _ _ _ _ _ _ hh4]; rfl
              have kf : ∀ j, w3.frozen? ⟨w.heap.size + 1, j, none⟩ = false := fun j => frozen_of_row _ _ j _ _ hh4
              have q0 : w3.cell? ⟨w.heap.size, 0, none⟩ = some (.int .i64 0) := by rw [cell_of_row _ _ _ _ _ _ hh2]; rfl
              have q1 : w3.cell? ⟨w.heap.size, 1, none⟩ = some (.string ⟨#[]⟩) := by rw [cell_of_row _ _ _ _ _ _ hh2]; rfl
              have q2 : w3.cell? ⟨w.heap.size, 2, none⟩ = some (.pointer none) := by rw [cell_of_row _ _ _ _ _ _ hh2]; rfl
              have q3 : w3.cell? ⟨w.heap.size, 3, none⟩ = some (.int .i64 0) := by rw [cell_of_row _ _ _ _ _ _ hh2]; rfl
              have qf : ∀ j, w3.frozen? ⟨w.heap.size, j, none⟩ = false := fun j => frozen_of_row _ _ j _ _ hh2
              clear hh4 hh2
              obtain ⟨en, HEN⟩ : ∃ en, Hid ((readW T).2.1 = en) := ⟨_, rfl⟩
              rw [HEN.out]
              rcases HSM.out with ⟨x, hx, rfl, rfl⟩ | ⟨hx, rfl⟩
              · have HQ : Hid (LX.qGo f' (part s (j + 2) E) (j + 2) (out ++ [b.toUInt8]) = R) := (HQS.out.2 b hx).symm
                obtain ⟨hb256, hnn⟩ := single_lt hx
                have he : en = 0 := by rw [← HEN.out]; exact HOK.out hnn
                have HBV : Hid (byV b.toUInt8 = .int .u8 (b : Nat)) := by
                  show _ = _
                  unfold byV
                  rw [show b.toUInt8.toNat = b by rw [Nat.toUInt8_eq, UInt8.toNat_ofNat']; omega]
                clear hx hnn HEN
                subst he
                go_wp2_with (at_builtin; refine wpList_append_lies _ rfl _ _ _ rfl (w.heap.size + 2) 5 i0 _ 1 1 Tryz.underlying139 HI.out HZ0.out HZ1.out HZ2.out rfl (by omega) _ out.length (out.map byV) rfl (World.ownsRow.alloc HBY3.out _) ⟨w3.heap.size, 0, none⟩ 1 1 [byV b.toUInt8] rfl rfl (by rw [HBV.out]; exact World.news_of_block (cs := #[.int .u8 (b : Nat)]) (t := 5) (fr := (0, 0)) (heap_alloc_last w3 _)) (by intro u hu; rw [List.mem_singleton.1 hu]; rfl) (by omega) (by unfold maxLen; omega) (by omega) (by have := HTK3.out.t1; obtain ⟨cs, hc⟩ := this; have := (Array.getElem?_eq_some_iff.1 hc).1; simp; omega) (w3.heap.size + 1) (by simp) ?_; intro g5 cp5 W9 hown9 hg9 hat9 hlt9)
                have HTK9 : Hid (TkW w p s a (.pointer none) none W9) := (HTK3.out.later (re_alloc w3 _)).grown hg9 HBY3.out.low
                have HBY9 : Hid (BytAt w (.slice (some ⟨g5, 0, none⟩) (out.length + 1) cp5) (out ++ [b.toUInt8]) W9) := by
                  show World.ownsRow _ _ _ _ _ _ _
                  rw [List.length_append, List.length_singleton, List.map_append]; exact hown9
                have HKP : Hid (∀ c o, c < w.heap.size + 2 → w3.heap[c]? = some o → W9.heap[c]? = some o) := fun c o hc ho => by
                  refine (hg9.block c (by simp; have := (Array.getElem?_eq_some_iff.1 ho).1; omega) fun e => ?_).trans (heap_in ho (re_alloc w3 _))
                  first
                    | (have := HBY3.out.low c e; omega)
                    | (have := HBY3.out.low c e.symm; omega)
                have H49 := Lib.hid (HKP.out _ _ (by omega) HH43.out)
                have H29 := Lib.hid (HKP.out _ _ (by omega) HH23.out)
                clear hown9 hg9 hat9 hlt9
                go_wp2_with fail
                go_roundw
                case rel => exact ⟨f', j + 2, out ++ [b.toUInt8], by go_num, by omega, by omega, HQ.out, by omega, by simp; omega, HBY9.out, HTK9.out, 0, H49.out, H29.out, rfl⟩
                case measure => simp [intOf]; omega
              · have HR : Hid (R = (out, some j)) := HQS.out.1 hx
                have HO : Hid (OUT = (⟨3, [], none, a⟩, 2, j)) := by
                  show _ = _
                  rw [HOUT.out, HR.out]
                clear hx HEN
                by_cases he0 : en = 0
                · subst he0
                  go_wp2_with fail
                  refine bodyPost_ret (v := .tuple #[.agg #[.int .i64 3, .string ⟨#[]⟩, .pointer none, .int .i64 (a : Nat)], .int .i64 2]) (by simp [results, Tryz.results127, go_sem, q0, q1, q2, q3, k0, k1, k2, k3, d1, hne1, hne2, Ne.symm hne1, Ne.symm hne2]) rfl ?_
                  rw [HO.out]
                  have hfin := ((((HTK3.out.pos j (j : Int) rfl).tok0 0 (.int .i64 3)).tok0 1 (.string ⟨#[]⟩)).tok0 2 (.pointer none)).tok0 3 (.int .i64 (a : Nat))
                  exact ⟨.pointer none, rfl, rfl, hfin.lx, hfin.far⟩
                · have hen : (((en : Nat) : Int) != 0) = true := by simp; omega
                  go_wp2_with fail
                  refine bodyPost_ret (v := .tuple #[.agg #[.int .i64 3, .string ⟨#[]⟩, .pointer none, .int .i64 (a : Nat)], .int .i64 2]) (by simp [results, Tryz.results127, go_sem, q0, q1, q2, q3, k0, k1, k2, k3, d1, hne1, hne2, Ne.symm hne1, Ne.symm hne2]) rfl ?_
                  rw [HO.out]
                  have hfin := ((((HTK3.out.pos j (j : Int) rfl).tok0 0 (.int .i64 3)).tok0 1 (.string ⟨#[]⟩)).tok0 2 (.pointer none)).tok0 3 (.int .i64 (a : Nat))
                  exact ⟨.pointer none, rfl, rfl, hfin.lx, hfin.far⟩
          · have hx1' : ¬ (j : Int) + 1 < (E : Int) := by omega
            have HST : Hid (LX.qStep (s.getD j 0) (part s (j + 1) E) = 2) := by
              show _ = _
              rw [HST0.out, if_pos g92, HPH.out, if_neg hx1, if_neg (by simp)]
            clear g92
            have hmin : min ((j : Int) + 2) (E : Int) = (E : Int) := by omega
            have htk := part_take s j E 2 (E) (by omega) (by omega)
            have hsl := fun W => strBetweenAt s j (E) (by omega) (by omega) (j : Int) ((E : Int)) (by omega) (by omega) W
            have hsl2 := fun W => strBetween s j (E) (by omega) (by omega) (j : Int) ((E : Int)) (by omega) (by omega) W
            rw [← htk] at hsl hsl2
            have hrd := Read_any ((part s j E).take 2) (by rw [List.length_take]; have := part_len s j E; omega)
            have hqs := qGo_step f' (s.getD j 0) (part s (j + 1) E) j out HNP.out 2 HST.out
            rw [← HPC.out, HGO.out, part_drop s j E 2] at hqs
            have HQS := Lib.hid hqs
            clear hqs
            generalize (part s j E).take 2 = T at *
            have HRD := Lib.hid hrd
            have HSG := Lib.hid (fun W v (hT : Tab W) (h : IsReO W v (readW T).1) => single_any v (readW T).1 W hT h)
            have HOK := Lib.hid (readW_ok0 T)
            clear hrd htk
            generalize hS : (⟨s.toArray⟩ : ByteArray) = S at *
            generalize hTT : (⟨T.toArray⟩ : ByteArray) = TT at *
            clear hS hTT
            generalize s.getD j 0 = ch at *
            go_wp2_with fail
            refine (HRD.out _).mono ?_
            rintro e w2 ⟨v, rfl, hre, hb⟩
            have HRE := Lib.hid hre
            have HB2 := Lib.hid hb
            have HTK2 := Lib.hid (HTK.out.later hb)
            have HBY2 := Lib.hid (HBY.out.kept hb)
            have HH42 := Lib.hid (heap_in HH4.out hb)
            have HH22 := Lib.hid (heap_in HH2.out hb)
            have HT2 := Lib.hid (HT.out.farL HL0.out HTK2.out.far)
            have hvp := hre.ptr
            clear hre hb
            obtain ⟨qv, rfl⟩ := hvp
            go_wp2_with fail
            refine (HSG.out _ _ HT2.out HRE.out).mono ?_
            rintro e w3 ⟨b, ok, rfl, hsi, hb⟩
            have HSM := Lib.hid hsi.split
            have HTK3 := Lib.hid (HTK2.out.later hb)
            have HBY3 := Lib.hid (HBY2.out.kept hb)
            have hh4 := heap_in HH42.out hb
            have hh2 := heap_in HH22.out hb
            have HH43 := Lib.hid hh4
            have HH23 := Lib.hid hh2
            clear hb hsi
            obtain ⟨d0, d1⟩ := HTK3.out.lx.cells
            have g1 := HTK3.out.lx.frz 1
            have k0 : w3.cell? ⟨w.heap.size + 1, 0, none⟩ = some (.int .i64 3) := by rw [cell_of_row _ _ _ _ _ _ hh4]; rfl
            have k1 : w3.cell? ⟨w.heap.size + 1, 1, none⟩ = some (.string ⟨#[]⟩) := by rw [cell_of_row _ _ _ _ _ _ hh4]; rfl
            have k2 : w3.cell? ⟨w.heap.size + 1, 2, none⟩ = some (.pointer none) := by rw [cell_of_row _ _ _ _ _ _ hh4]; rfl
            have k3 : w3.cell? ⟨w.heap.size + 1, 3, none⟩ = some (.int .i64 (a : Nat)) := by rw [cell_of_row _ _ _ _ _ _ hh4]; rfl
            have kf : ∀ j, w3.frozen? ⟨w.heap.size + 1, j, none⟩ = false := fun j => frozen_of_row _ _ j _ _ hh4
            have q0 : w3.cell? ⟨w.heap.size, 0, none⟩ = some (.int .i64 0) := by rw [cell_of_row _ _ _ _ _ _ hh2]; rfl
            have q1 : w3.cell? ⟨w.heap.size, 1, none⟩ = some (.string ⟨#[]⟩) := by rw [cell_of_row _ _ _ _ _ _ hh2]; rfl
            have q2 : w3.cell? ⟨w.heap.size, 2, none⟩ = some (.pointer none) := by rw [cell_of_row _ _ _ _ _ _ hh2]; rfl
            have q3 : w3.cell? ⟨w.heap.size, 3, none⟩ = some (.int .i64 0) := by rw [cell_of_row _ _ _ _ _ _ hh2]; rfl
            have qf : ∀ j, w3.frozen? ⟨w.heap.size, j, none⟩ = false := fun j => frozen_of_row _ _ j _ _ hh2
            clear hh4 hh2
            obtain ⟨en, HEN⟩ : ∃ en, Hid ((readW T).2.1 = en) := ⟨_, rfl⟩
            rw [HEN.out]
            rcases HSM.out with ⟨x, hx, rfl, rfl⟩ | ⟨hx, rfl⟩
            · have HQ : Hid (LX.qGo f' (part s (j + 2) E) (j + 2) (out ++ [b.toUInt8]) = R) := (HQS.out.2 b hx).symm
              obtain ⟨hb256, hnn⟩ := single_lt hx
              have he : en = 0 := by rw [← HEN.out]; exact HOK.out hnn
              have HBV : Hid (byV b.toUInt8 = .int .u8 (b : Nat)) := by
                show _ = _
                unfold byV
                rw [show b.toUInt8.toNat = b by rw [Nat.toUInt8_eq, UInt8.toNat_ofNat']; omega]
              clear hx hnn HEN
              subst he
              go_wp2_with (at_builtin; refine wpList_append_lies _ rfl _ _ _ rfl (w.heap.size + 2) 5 i0 _ 1 1 Tryz.underlying139 HI.out HZ0.out HZ1.out HZ2.out rfl (by omega) _ out.length (out.map byV) rfl (World.ownsRow.alloc HBY3.out _) ⟨w3.heap.size, 0, none⟩ 1 1 [byV b.toUInt8] rfl rfl (by rw [HBV.out]; exact World.news_of_block (cs := #[.int .u8 (b : Nat)]) (t := 5) (fr := (0, 0)) (heap_alloc_last w3 _)) (by intro u hu; rw [List.mem_singleton.1 hu]; rfl) (by omega) (by unfold maxLen; omega) (by omega) (by have := HTK3.out.t1; obtain ⟨cs, hc⟩ := this; have := (Array.getElem?_eq_some_iff.1 hc).1; simp; omega) (w3.heap.size + 1) (by simp) ?_; intro g5 cp5 W9 hown9 hg9 hat9 hlt9)
              have HTK9 : Hid (TkW w p s a (.pointer none) none W9) := (HTK3.out.later (re_alloc w3 _)).grown hg9 HBY3.out.low
              have HBY9 : Hid (BytAt w (.slice (some ⟨g5, 0, none⟩) (out.length + 1) cp5) (out ++ [b.toUInt8]) W9) := by
                show World.ownsRow _ _ _ _ _ _ _
                rw [List.length_append, List.length_singleton, List.map_append]; exact hown9
              have HKP : Hid (∀ c o, c < w.heap.size + 2 → w3.heap[c]? = some o → W9.heap[c]? = some o) := fun c o hc ho => by
                refine (hg9.block c (by simp; have := (Array.getElem?_eq_some_iff.1 ho).1; omega) fun e => ?_).trans (heap_in ho (re_alloc w3 _))
                first
                  | (have := HBY3.out.low c e; omega)
                  | (have := HBY3.out.low c e.symm; omega)
              have H49 := Lib.hid (HKP.out _ _ (by omega) HH43.out)
              have H29 := Lib.hid (HKP.out _ _ (by omega) HH23.out)
              clear hown9 hg9 hat9 hlt9
              go_wp2_with fail
              go_roundw
              case rel => exact ⟨f', j + 2, out ++ [b.toUInt8], by go_num, by omega, by omega, HQ.out, by omega, by simp; omega, HBY9.out, HTK9.out, 0, H49.out, H29.out, rfl⟩
              case measure => simp [intOf]; omega
            · have HR : Hid (R = (out, some j)) := HQS.out.1 hx
              have HO : Hid (OUT = (⟨3, [], none, a⟩, 2, j)) := by
                show _ = _
                rw [HOUT.out, HR.out]
              clear hx HEN
              by_cases he0 : en = 0
              · subst he0
                go_wp2_with fail
                refine bodyPost_ret (v := .tuple #[.agg #[.int .i64 3, .string ⟨#[]⟩, .pointer none, .int .i64 (a : Nat)], .int .i64 2]) (by simp [results, Tryz.results127, go_sem, q0, q1, q2, q3, k0, k1, k2, k3, d1, hne1, hne2, Ne.symm hne1, Ne.symm hne2]) rfl ?_
                rw [HO.out]
                have hfin := ((((HTK3.out.pos j (j : Int) rfl).tok0 0 (.int .i64 3)).tok0 1 (.string ⟨#[]⟩)).tok0 2 (.pointer none)).tok0 3 (.int .i64 (a : Nat))
                exact ⟨.pointer none, rfl, rfl, hfin.lx, hfin.far⟩
              · have hen : (((en : Nat) : Int) != 0) = true := by simp; omega
                go_wp2_with fail
                refine bodyPost_ret (v := .tuple #[.agg #[.int .i64 3, .string ⟨#[]⟩, .pointer none, .int .i64 (a : Nat)], .int .i64 2]) (by simp [results, Tryz.results127, go_sem, q0, q1, q2, q3, k0, k1, k2, k3, d1, hne1, hne2, Ne.symm hne1, Ne.symm hne2]) rfl ?_
                rw [HO.out]
                have hfin := ((((HTK3.out.pos j (j : Int) rfl).tok0 0 (.int .i64 3)).tok0 1 (.string ⟨#[]⟩)).tok0 2 (.pointer none)).tok0 3 (.int .i64 (a : Nat))
                exact ⟨.pointer none, rfl, rfl, hfin.lx, hfin.far⟩
        · have e3 : ((((s.getD j 0).toNat : Nat) : Int) == 92) = false := by rw [beq_eq_false_iff_ne]; exact fun h => g92 (UInt8.toNat_inj.1 (by show (s.getD j 0).toNat = 92; omega))
          clear e2
          have hixe : ∀ W, Calls Tryz.prog 126 #[.string ⟨#[40, 41, 91, 93, 124, 38, 45, 42, 43, 63, 46, 32]⟩, .int .u8 ((s.getD j 0).toNat : Nat)] W fun e w' => e = .returned (.int .i64 (Lib.indexByte LX.plainQ (s.getD j 0))) ∧ w' = W := fun W => by
            have := HIX.out (((s.getD j 0).toNat : Nat) : Int) W
            simpa [LX.plainQ] using this
          have HIX2 := Lib.hid hixe
          clear hixe
          by_cases gpl : LX.plainQ.contains (s.getD j 0) = true
          · have hge2 : 0 ≤ Lib.indexByte LX.plainQ (s.getD j 0) := of_decide_eq_true (hge.trans gpl)
            have HQ : Hid (LX.qGo f' (part s (j + 1) E) (j + 1) (out ++ [s.getD j 0]) = R) := by
              show _ = _
              rw [← HGO.out, HPC.out, LX.qGo, if_pos ⟨g92, gpl⟩]
            have HBV : Hid (byV (s.getD j 0) = .int .u8 ((s.getD j 0).toNat : Nat)) := rfl
            clear hge gpl g92
            generalize Lib.indexByte LX.plainQ (s.getD j 0) = ix at *
            generalize s.getD j 0 = c at *
            generalize hS : (⟨s.toArray⟩ : ByteArray) = S at *
            clear hS
            go_wp2_with fail
            refine (HIX2.out _).mono ?_
            rintro e w' ⟨rfl, rfl⟩
            have hbyx := HBY.out
            go_wp2_with (at_builtin; refine wpList_append_lies _ rfl _ _ _ rfl (w.heap.size + 2) 5 i0 _ 1 1 Tryz.underlying139 HI.out HZ0.out HZ1.out HZ2.out rfl (by omega) _ out.length (out.map byV) rfl (World.ownsRow.alloc HBY.out _) ⟨w'.heap.size, 0, none⟩ 1 1 [byV c] rfl rfl (by rw [HBV.out]; exact World.news_of_block (cs := #[.int .u8 (c.toNat : Nat)]) (t := 5) (fr := (0, 0)) (heap_alloc_last w' _)) (by intro u hu; rw [List.mem_singleton.1 hu]; rfl) (by omega) (by unfold maxLen; omega) (by omega) (by have := HTK.out.t1; obtain ⟨cs, hc⟩ := this; have := (Array.getElem?_eq_some_iff.1 hc).1; simp; omega) (w'.heap.size + 1) (by simp) ?_; intro g5 cp5 W9 hown9 hg9 hat9 hlt9)
            have HTK9 : Hid (TkW w p s a (.pointer none) none W9) := (HTK.out.later (re_alloc w' _)).grown hg9 HBY.out.low
            have HBY9 : Hid (BytAt w (.slice (some ⟨g5, 0, none⟩) (out.length + 1) cp5) (out ++ [c]) W9) := by
              show World.ownsRow _ _ _ _ _ _ _
              rw [List.length_append, List.length_singleton, List.map_append]; exact hown9
            have HKP : Hid (∀ c o, c < w.heap.size + 2 → w'.heap[c]? = some o → W9.heap[c]? = some o) := fun c o hc ho => by
              refine (hg9.block c (by simp; have := (Array.getElem?_eq_some_iff.1 ho).1; omega) fun e => ?_).trans (heap_in ho (re_alloc w' _))
              first
                | (have := HBY.out.low c e; omega)
                | (have := HBY.out.low c e.symm; omega)
            have H49 := Lib.hid (HKP.out _ _ (by omega) HH4.out)
            have H29 := Lib.hid (HKP.out _ _ (by omega) HH2.out)
            clear hown9 hg9 hat9 hlt9
            go_wp2_with fail
            go_roundw
            case rel => exact ⟨f', j + 1, out ++ [c], by go_num, by omega, by omega, HQ.out, by omega, by simp; omega, HBY9.out, HTK9.out, 0, H49.out, H29.out, rfl⟩
            case measure => simp [intOf]; omega
          · have gpl' : LX.plainQ.contains (s.getD j 0) = false := by simpa using gpl
            have hge2 : ¬ 0 ≤ Lib.indexByte LX.plainQ (s.getD j 0) := of_decide_eq_false (hge.trans gpl')
            have HNP : Hid (¬ (s.getD j 0 ≠ 92 ∧ LX.plainQ.contains (s.getD j 0) = true)) := fun h => gpl h.2
            have HST : Hid (LX.qStep (s.getD j 0) (part s (j + 1) E) = 1) := by
              show _ = _
              rw [HST0.out, if_neg g92]
            clear hge gpl gpl' g92 HIX
            have HIX := HIX2
            generalize Lib.indexByte LX.plainQ (s.getD j 0) = ix at *
            have hmin : min ((j : Int) + 1) (E : Int) = (j : Int) + 1 := by omega
            have htk := part_take s j E 1 (j + 1) (by omega) (by omega)
            have hsl := fun W => strBetweenAt s j (j + 1) (by omega) (by omega) (j : Int) ((j : Int) + 1) (by omega) (by omega) W
            have hsl2 := fun W => strBetween s j (j + 1) (by omega) (by omega) (j : Int) ((j : Int) + 1) (by omega) (by omega) W
            rw [← htk] at hsl hsl2
            have hrd := Read_any ((part s j E).take 1) (by rw [List.length_take]; have := part_len s j E; omega)
            have hqs := qGo_step f' (s.getD j 0) (part s (j + 1) E) j out HNP.out 1 HST.out
            rw [← HPC.out, HGO.out, part_drop s j E 1] at hqs
            have HQS := Lib.hid hqs
            clear hqs
            generalize (part s j E).take 1 = T at *
            have HRD := Lib.hid hrd
            have HSG := Lib.hid (fun W v (hT : Tab W) (h : IsReO W v (readW T).1) => single_any v (readW T).1 W hT h)
            have HOK := Lib.hid (readW_ok0 T)
            clear hrd htk
            generalize hS : (⟨s.toArray⟩ : ByteArray) = S at *
            generalize hTT : (⟨T.toArray⟩ : ByteArray) = TT at *
            clear hS hTT
            generalize s.getD j 0 = ch at *
            go_wp2_with fail
            refine (HIX.out _).mono ?_
            rintro e w1 ⟨rfl, rfl⟩
            go_wp2_with fail
            refine (HRD.out _).mono ?_
            rintro e w2 ⟨v, rfl, hre, hb⟩
            have HRE := Lib.hid hre
            have HB2 := Lib.hid hb
            have HTK2 := Lib.hid (HTK.out.later hb)
            have HBY2 := Lib.hid (HBY.out.kept hb)
            have HH42 := Lib.hid (heap_in HH4.out hb)
            have HH22 := Lib.hid (heap_in HH2.out hb)
            have HT2 := Lib.hid (HT.out.farL HL0.out HTK2.out.far)
            have hvp := hre.ptr
            clear hre hb
            obtain ⟨qv, rfl⟩ := hvp
            go_wp2_with fail
            refine (HSG.out _ _ HT2.out HRE.out).mono ?_
            rintro e w3 ⟨b, ok, rfl, hsi, hb⟩
            have HSM := Lib.hid hsi.split
            have HTK3 := Lib.hid (HTK2.out.later hb)
            have HBY3 := Lib.hid (HBY2.out.kept hb)
            have hh4 := heap_in HH42.out hb
            have hh2 := heap_in HH22.out hb
            have HH43 := Lib.hid hh4
            have HH23 := Lib.hid hh2
            clear hb hsi
            obtain ⟨d0, d1⟩ := HTK3.out.lx.cells
            have g1 := HTK3.out.lx.frz 1
            have k0 : w3.cell? ⟨w.heap.size + 1, 0, none⟩ = some (.int .i64 3) := by rw [cell_of_row _ _ _ _ _ _ hh4]; rfl
            have k1 : w3.cell? ⟨w.heap.size + 1, 1, none⟩ = some (.string ⟨#[]⟩) := by rw [cell_of_row _ _ _ _ _ _ hh4]; rfl
            have k2 : w3.cell? ⟨w.heap.size + 1, 2, none⟩ = some (.pointer none) := by rw [cell_of_row _ _ _ _ _ _ hh4]; rfl
            have k3 : w3.cell? ⟨w.heap.size + 1, 3, none⟩ = some (.int .i64 (a : Nat)) := by rw [cell_of_row _ _ _ _ _ _ hh4]; rfl
            have kf : ∀ j, w3.frozen? ⟨w.heap.size + 1, j, none⟩ = false := fun j => frozen_of_row _ _ j _ _ hh4
            have q0 : w3.cell? ⟨w.heap.size, 0, none⟩ = some (.int .i64 0) := by rw [cell_of_row _ _ _ _ _ _ hh2]; rfl
            have q1 : w3.cell? ⟨w.heap.size, 1, none⟩ = some (.string ⟨#[]⟩) := by rw [cell_of_row _ _ _ _ _ _ hh2]; rfl
            have q2 : w3.cell? ⟨w.heap.size, 2, none⟩ = some (.pointer none) := by rw [cell_of_row _ _ _ _ _ _ hh2]; rfl
            have q3 : w3.cell? ⟨w.heap.size, 3, none⟩ = some (.int .i64 0) := by rw [cell_of_row _ _ _ _ _ _ hh2]; rfl
            have qf : ∀ j, w3.frozen? ⟨w.heap.size, j, none⟩ = false := fun j => frozen_of_row _ _ j _ _ hh2
            clear hh4 hh2
            obtain ⟨en, HEN⟩ : ∃ en, Hid ((readW T).2.1 = en) := ⟨_, rfl⟩
            rw [HEN.out]
            rcases HSM.out with ⟨x, hx, rfl, rfl⟩ | ⟨hx, rfl⟩
            · have HQ : Hid (LX.qGo f' (part s (j + 1) E) (j + 1) (out ++ [b.toUInt8]) = R) := (HQS.out.2 b hx).symm
              obtain ⟨hb256, hnn⟩ := single_lt hx
              have he : en = 0 := by rw [← HEN.out]; exact HOK.out hnn
              have HBV : Hid (byV b.toUInt8 = .int .u8 (b : Nat)) := by
                show _ = _
                unfold byV
                rw [show b.toUInt8.toNat = b by rw [Nat.toUInt8_eq, UInt8.toNat_ofNat']; omega]
              clear hx hnn HEN
              subst he
              go_wp2_with (at_builtin; refine wpList_append_lies _ rfl _ _ _ rfl (w.heap.size + 2) 5 i0 _ 1 1 Tryz.underlying139 HI.out HZ0.out HZ1.out HZ2.out rfl (by omega) _ out.length (out.map byV) rfl (World.ownsRow.alloc HBY3.out _) ⟨w3.heap.size, 0, none⟩ 1 1 [byV b.toUInt8] rfl rfl (by rw [HBV.out]; exact World.news_of_block (cs := #[.int .u8 (b : Nat)]) (t := 5) (fr := (0, 0)) (heap_alloc_last w3 _)) (by intro u hu; rw [List.mem_singleton.1 hu]; rfl) (by omega) (by unfold maxLen; omega) (by omega) (by have := HTK3.out.t1; obtain ⟨cs, hc⟩ := this; have := (Array.getElem?_eq_some_iff.1 hc).1; simp; omega) (w3.heap.size + 1) (by simp) ?_; intro g5 cp5 W9 hown9 hg9 hat9 hlt9)
              have HTK9 : Hid (TkW w p s a (.pointer none) none W9) := (HTK3.out.later (re_alloc w3 _)).grown hg9 HBY3.out.low
              have HBY9 : Hid (BytAt w (.slice (some ⟨g5, 0, none⟩) (out.length + 1) cp5) (out ++ [b.toUInt8]) W9) := by
                show World.ownsRow _ _ _ _ _ _ _
                rw [List.length_append, List.length_singleton, List.map_append]; exact hown9
              have HKP : Hid (∀ c o, c < w.heap.size + 2 → w3.heap[c]? = some o → W9.heap[c]? = some o) := fun c o hc ho => by
                refine (hg9.block c (by simp; have := (Array.getElem?_eq_some_iff.1 ho).1; omega) fun e => ?_).trans (heap_in ho (re_alloc w3 _))
                first
                  | (have := HBY3.out.low c e; omega)
                  | (have := HBY3.out.low c e.symm; omega)
              have H49 := Lib.hid (HKP.out _ _ (by omega) HH43.out)
              have H29 := Lib.hid (HKP.out _ _ (by omega) HH23.out)
              clear hown9 hg9 hat9 hlt9
              go_wp2_with fail
              go_roundw
              case rel => exact ⟨f', j + 1, out ++ [b.toUInt8], by go_num, by omega, by omega, HQ.out, by omega, by simp; omega, HBY9.out, HTK9.out, 0, H49.out, H29.out, rfl⟩
              case measure => simp [intOf]; omega
            · have HR : Hid (R = (out, some j)) := HQS.out.1 hx
              have HO : Hid (OUT = (⟨3, [], none, a⟩, 2, j)) := by
                show _ = _
                rw [HOUT.out, HR.out]
              clear hx HEN
              by_cases he0 : en = 0
              · subst he0
                go_wp2_with fail
                refine bodyPost_ret (v := .tuple #[.agg #[.int .i64 3, .string ⟨#[]⟩, .pointer none, .int .i64 (a : Nat)], .int .i64 2]) (by simp [results, Tryz.results127, go_sem, q0, q1, q2, q3, k0, k1, k2, k3, d1, hne1, hne2, Ne.symm hne1, Ne.symm hne2]) rfl ?_
                rw [HO.out]
                have hfin := ((((HTK3.out.pos j (j : Int) rfl).tok0 0 (.int .i64 3)).tok0 1 (.string ⟨#[]⟩)).tok0 2 (.pointer none)).tok0 3 (.int .i64 (a : Nat))
                exact ⟨.pointer none, rfl, rfl, hfin.lx, hfin.far⟩
              · have hen : (((en : Nat) : Int) != 0) = true := by simp; omega
                go_wp2_with fail
                refine bodyPost_ret (v := .tuple #[.agg #[.int .i64 3, .string ⟨#[]⟩, .pointer none, .int .i64 (a : Nat)], .int .i64 2]) (by simp [results, Tryz.results127, go_sem, q0, q1, q2, q3, k0, k1, k2, k3, d1, hne1, hne2, Ne.symm hne1, Ne.symm hne2]) rfl ?_
                rw [HO.out]
                have hfin := ((((HTK3.out.pos j (j : Int) rfl).tok0 0 (.int .i64 3)).tok0 1 (.string ⟨#[]⟩)).tok0 2 (.pointer none)).tok0 3 (.int .i64 (a : Nat))
                exact ⟨.pointer none, rfl, rfl, hfin.lx, hfin.far⟩
      · have hlt' : ¬ (j : Int) < (E : Int) := by omega
        have hcv := HBY.out.conv
        have HR : Hid (R = (out, none)) := by
          show _ = _
          rw [← HGO.out, part_nil s j E (by omega), LX.qGo]
        have HO : Hid (OUT = (⟨3, out, none, a⟩, 0, E + 1)) := by show _ = _; rw [HOUT.out, HR.out]
        obtain ⟨d0, d1⟩ := HTK.out.lx.cells
        have g1 := HTK.out.lx.frz 1
        have k0 : wr.cell? ⟨w.heap.size + 1, 0, none⟩ = some (.int .i64 3) := by rw [cell_of_row _ _ _ _ _ _ hh4]; rfl
        have k1 : wr.cell? ⟨w.heap.size + 1, 1, none⟩ = some (.string ⟨#[]⟩) := by rw [cell_of_row _ _ _ _ _ _ hh4]; rfl
        have k2 : wr.cell? ⟨w.heap.size + 1, 2, none⟩ = some (.pointer none) := by rw [cell_of_row _ _ _ _ _ _ hh4]; rfl
        have k3 : wr.cell? ⟨w.heap.size + 1, 3, none⟩ = some (.int .i64 (a : Nat)) := by rw [cell_of_row _ _ _ _ _ _ hh4]; rfl
        have kf : ∀ j, wr.frozen? ⟨w.heap.size + 1, j, none⟩ = false := fun j => frozen_of_row _ _ j _ _ hh4
        have q0 : wr.cell? ⟨w.heap.size, 0, none⟩ = some (.int .i64 0) := by rw [cell_of_row _ _ _ _ _ _ hh2]; rfl
        have q1 : wr.cell? ⟨w.heap.size, 1, none⟩ = some (.string ⟨#[]⟩) := by rw [cell_of_row _ _ _ _ _ _ hh2]; rfl
        have q2 : wr.cell? ⟨w.heap.size, 2, none⟩ = some (.pointer none) := by rw [cell_of_row _ _ _ _ _ _ hh2]; rfl
        have q3 : wr.cell? ⟨w.heap.size, 3, none⟩ = some (.int .i64 0) := by rw [cell_of_row _ _ _ _ _ _ hh2]; rfl
        have qf : ∀ j, wr.frozen? ⟨w.heap.size, j, none⟩ = false := fun j => frozen_of_row _ _ j _ _ hh2
        have hos : (⟨out.toArray⟩ : ByteArray).size = out.length := str_size out
        clear hh4 hh2 c0 c1
        generalize hOS : (⟨out.toArray⟩ : ByteArray) = OS at *
        go_wp2_with fail
        refine bodyPost_ret (v := .tuple #[.agg #[.int .i64 3, .string OS, .pointer none, .int .i64 (a : Nat)], .int .i64 0]) (by simp [results, Tryz.results127, go_sem, q0, q1, q2, q3, k0, k1, k2, k3, d1, hne1, hne2, Ne.symm hne1, Ne.symm hne2]) rfl ?_
        rw [HO.out]
        have hfin := (((((HTK.out.tok1 1 (.string OS)).pos (E + 1) ((E : Int) + 1) (by omega)).tok0 0 (.int .i64 3)).tok0 1 (.string OS)).tok0 2 (.pointer none)).tok0 3 (.int .i64 (a : Nat))
        exact ⟨.pointer none, by rw [← hOS]; rfl, rfl, hfin.lx, hfin.far⟩
end Go.Proofs.YtgamknphlmcgnaaGreatDoor
end
section
set_option linter.unusedSimpArgs false
set_option linter.unusedVariables false
set_option maxRecDepth 100000
set_option linter.unnecessarySimpa false
namespace Go.Proofs.YtgamknphlmcgnaaGreatDoor
open Go.RowKit
namespace LX
def resW : List (List UInt8) := [[108, 101, 116], [105, 110], [99, 111, 112, 121], [107, 101, 121], [99, 111, 110, 115, 116], [100, 101, 108], [105, 110, 115], [115, 119, 97, 112], [105, 110, 118], [100, 105, 99, 116], [108, 101, 102, 116], [114, 105, 103, 104, 116], [107, 101, 101, 112], [110, 111, 114, 109]]
def resB (s : List UInt8) : Bool := resW.any fun x => s == x
/-- a text's bytes are those of a name, from the first on, or from a later one on -/
def nameF : Bool → List UInt8 → Bool
  | _, [] => true
  | b, c :: r => letter c b && nameF false r
def nameB (s : List UInt8) : Bool := !(s == []) && decide (s.length ≤ 30) && !resB s && nameF true s
end LX
set_option maxRecDepth 100000 in
theorem reserved_any (s : List UInt8) (w : World) : Calls Tryz.prog 167 #[.string ⟨s.toArray⟩] w fun e w' => e = .returned (.bool (LX.resB s)) ∧ w' = w := by
  have hb : ∀ x : List UInt8, ((⟨s.toArray⟩ : ByteArray).toList == x) = (s == x) := fun x => by rw [ByteArray.toList_mk]
  have HB := Lib.hid hb
  clear hb
  generalize hS : (⟨s.toArray⟩ : ByteArray) = S at *
  have HR : Hid (LX.resB s = LX.resW.any fun x => S.toList == x) := by show _ = _; unfold LX.resB; congr 1; funext x; exact (HB.out x).symm
  rw [HR.out]
  clear hS HB HR
  go_enter Tryz.func167, Tryz.ntmps167
  go_wp2_with fail
  all_goals go_ret
  all_goals exact ⟨by simp_all [LX.resW], rfl⟩
def NmAt (s : List UInt8) (R : Bool) (w : World) (i : Value) (wr : World) : Prop := ∃ j : Nat, j ≤ s.length ∧ i = .int .i64 j ∧ Hid (LX.nameF (j == 0) (s.drop j) = R) ∧ wr = w
theorem nameF_at (s : List UInt8) (j : Nat) (h : j < s.length) : LX.nameF (j == 0) (s.drop j) = (LX.letter (s.getD j 0) (j == 0) && LX.nameF (j + 1 == 0) (s.drop (j + 1))) := by
  have e : s.drop j = s.getD j 0 :: s.drop (j + 1) := by rw [List.drop_eq_getElem_cons h]; congr 1; simp [List.getD, h]
  rw [e]; rfl
set_option maxRecDepth 100000 in
set_option maxHeartbeats 1600000 in
theorem Name_any (s : List UInt8) (w : World) (hs : s.length ≤ 9223372036854775807) : Calls Tryz.prog 140 #[.string ⟨s.toArray⟩] w fun e w' => e = .returned (.bool (LX.nameB s)) ∧ w' = w := by
  have hsz : (⟨s.toArray⟩ : ByteArray).size = s.length := str_size s
  have HRS := Lib.hid (fun W => reserved_any s W)
  have hb : ((⟨s.toArray⟩ : ByteArray).toList == []) = (s == []) := by rw [ByteArray.toList_mk]
  have HIDX := Lib.hid (fun i (h : i < s.length) W => str_at s i h W)
  have HLET := Lib.hid (fun c first W => letter_any c first W)
  have HN : Hid (LX.nameB s = (!(s == []) && decide (s.length ≤ 30) && !LX.resB s && LX.nameF true s)) := rfl
  rw [HN.out]
  clear HN
  generalize hS : (⟨s.toArray⟩ : ByteArray) = S at *
  clear hS
  obtain ⟨R, hR⟩ : ∃ R, LX.nameF true s = R := ⟨_, rfl⟩
  have HR : Hid (LX.nameF ((0 : Nat) == 0) (s.drop 0) = R) := hR
  rw [hR]
  clear hR
  generalize LX.resB s = rb at *
  by_cases h0 : (s == []) = true
  · rw [h0] at hb ⊢
    go_enter Tryz.func140, Tryz.ntmps140
    go_wp2_with fail
    go_ret
    exact ⟨rfl, rfl⟩
  · rw [Bool.not_eq_true] at h0
    rw [h0] at hb ⊢
    clear h0
    by_cases h30 : s.length ≤ 30
    · have h30' : ¬ (30 : Int) < (s.length : Nat) := by omega
      have h30'' : decide ((30 : Int) < (s.length : Nat)) = false := decide_eq_false h30'
      have h30n : decide (30 < s.length) = false := decide_eq_false (by omega)
      rw [decide_eq_true h30]
      cases rb with
      | true =>
        go_enter Tryz.func140, Tryz.ntmps140
        go_wp2_with fail
        refine (HRS.out _).mono ?_
        rintro e w1 ⟨rfl, rfl⟩
        go_wp2_with fail
        go_ret
        exact ⟨rfl, rfl⟩
      | false =>
        go_enter Tryz.func140, Tryz.ntmps140
        go_wp2_with fail
        refine (HRS.out _).mono ?_
        rintro e w1 ⟨rfl, rfl⟩
        go_wp2_with fail
        go_loopw [17] (fun i wr => NmAt s R w1 i wr) (fun i _ => s.length - (intOf i).toNat)
        case atStart => exact ⟨0, Nat.zero_le _, rfl, HR.out, rfl⟩
        case round =>
          obtain ⟨j, hj, rfl, hgo, rfl⟩ := hrel
          by_cases hlt : j < s.length
          · have hidx := HIDX.out j hlt
            have hst := nameF_at s j hlt
            have hjj : ((j : Int) == 0) = (j == 0) := by rw [Bool.eq_iff_iff]; simp
            have HST : Hid (R = (LX.letter (s.getD j 0) (j == 0) && LX.nameF (j + 1 == 0) (s.drop (j + 1)))) := by show _ = _; rw [← hgo.out]; exact hst
            clear hst hgo
            generalize s.getD j 0 = c at *
            generalize hjz : (j == 0) = jz at *
            have HL := Lib.hid (fun W => HLET.out c jz W)
            obtain ⟨L, hL⟩ : ∃ L, LX.letter c jz = L := ⟨_, rfl⟩
            rw [hL] at HST HL
            clear hL hjz
            cases L with
            | true =>
              go_wp2_with fail
              refine (HL.out _).mono ?_
              rintro e w1 ⟨rfl, rfl⟩
              go_wp2_with fail
              go_roundw
              case rel => exact ⟨j + 1, by omega, by go_num, by show _ = _; rw [HST.out]; simp, rfl⟩
              case measure => simp [intOf]; omega
            | false =>
              go_wp2_with fail
              refine (HL.out _).mono ?_
              rintro e w1 ⟨rfl, rfl⟩
              go_wp2_with fail
              go_ret
              exact ⟨by rw [HST.out]; rfl, rfl⟩
          · obtain rfl : j = s.length := by omega
            have HE : Hid (R = true) := by show _ = _; rw [← hgo.out, List.drop_length]; cases (s.length == 0) <;> rfl
            clear hgo
            go_wp2_with fail
            go_ret
            exact ⟨by rw [HE.out]; rfl, rfl⟩
    · have h30' : (30 : Int) < (s.length : Nat) := by omega
      have h30'' : decide ((30 : Int) < (s.length : Nat)) = true := decide_eq_true h30'
      have h30n : decide (30 < s.length) = true := decide_eq_true (by omega)
      rw [decide_eq_false h30]
      go_enter Tryz.func140, Tryz.ntmps140
      go_wp2_with fail
      go_ret
      exact ⟨rfl, rfl⟩
end Go.Proofs.YtgamknphlmcgnaaGreatDoor
end
section
set_option linter.unusedSimpArgs false
set_option linter.unusedVariables false
set_option maxRecDepth 100000
set_option linter.unnecessarySimpa false
namespace Go.Proofs.YtgamknphlmcgnaaGreatDoor
open RE (nf size)
namespace PS
end PS
theorem one_size' (s : BS) : (RE.one s).size = 1 := by unfold RE.one; split <;> simp [RE.nothing, RE.size, RE.sizes]
end Go.Proofs.YtgamknphlmcgnaaGreatDoor
namespace Go.Proofs.YtgamknphlmcgnaaGreatDoor
open Go.RowKit
end Go.Proofs.YtgamknphlmcgnaaGreatDoor
end
