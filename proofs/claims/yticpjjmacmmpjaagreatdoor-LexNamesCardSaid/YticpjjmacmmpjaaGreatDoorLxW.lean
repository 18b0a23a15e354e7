/-
  The lexer in memory; letters, how far a byte stands, an expression's one byte, an expression between slashes: walked through the program.
-/
import Derived.Test.YticpjjmacmmpjaaGreatDoorLxM
import Derived.Test.YticpjjmacmmpjaaGreatDoorPsR
import Derived.Test.YticpjjmacmmpjaaGreatDoorSetT
import Derived.Test.YticpjjmacmmpjaaGreatDoorTxW
import Derived.Deep.DeepCutAuto
import Derived.Deep.CutBlock
import Derived.BigQuiet
set_option linter.unusedSimpArgs false
set_option linter.unusedVariables false
set_option maxRecDepth 100000
set_option linter.unnecessarySimpa false
namespace Go.Proofs.YticpjjmacmmpjaaGreatDoor
open Go.RowKit
abbrev lxCells (s : List UInt8) (a : Nat) : Array Value := #[.string ⟨s.toArray⟩, .int .i64 (a : Nat)]
/-- the lexer in block p -/
def LxAt (w : World) (p : Nat) (s : List UInt8) (a : Nat) : Prop := w.heap[p]? = some (.cells (lxCells s a) 103 (0, 0))
variable {w w' : World} {p a : Nat} {s : List UInt8}
theorem LxAt.lt (h : LxAt w p s a) : p < w.heap.size := (Array.getElem?_eq_some_iff.1 h).1
theorem LxAt.later (h : LxAt w p s a) (hb : Below w.heap.size w w') : LxAt w' p s a := (hb.block p h.lt).trans h
theorem LxAt.cells (h : LxAt w p s a) : w.cell? ⟨p, 0, none⟩ = some (.string ⟨s.toArray⟩) ∧ w.cell? ⟨p, 1, none⟩ = some (.int .i64 (a : Nat)) := ⟨by rw [cell_of_row _ _ _ _ _ _ h]; rfl, by rw [cell_of_row _ _ _ _ _ _ h]; rfl⟩
theorem LxAt.frz (h : LxAt w p s a) (j : Nat) : w.frozen? ⟨p, j, none⟩ = false := frozen_of_row _ _ j _ _ h
theorem LxAt.put (h : LxAt w p s a) (b : Nat) : LxAt (w.setCell ⟨p, 1, none⟩ (.int .i64 (b : Nat))) p s b := by
  unfold LxAt
  rw [heap_setCell_same _ _ _ _ _ _ h]; rfl
theorem LxAt.drew (h : LxAt w p s a) (n : Nat) : LxAt (w.drewN n) p s a := h
theorem IsReO.farL {v : Value} {o : Option RE} (h : IsReO w v o) (hp : LxAt w p s a) (hf : Far p w w') : IsReO w' v o := h.put hp (by decide) (by decide) fun k hk hne => hf.block k hk (fun e => by first | exact hne (Option.some.inj e) | exact hne (Option.some.inj e).symm)
theorem Tab.farL (h : Tab w) (hp : LxAt w p s a) (hf : Far p w w') : Tab w' := fun j hj => by
  have hc := h j hj
  have h0 := h 0 (by omega)
  have hb := World.block_lt_of_cell? w _ hc
  refine (World.cell?_of_block (w := w) (w' := w') (hf.block _ hb fun e => ?_)).trans hc
  have e := Option.some.inj e
  have e : Tryz.lays29_ren.g 1 = p := e
  rw [e, hp.cells.1] at h0
  cases h0
/-- a token in hand -/
abbrev tkV (t : LT) (rv : Value) : Value := .agg #[.int .i64 (t.kind : Nat), .string ⟨t.text.toArray⟩, rv, .int .i64 (t.at_ : Nat)]
/-- what reads a token leaves -/
def TokPost (p : Nat) (s : List UInt8) (w : World) (r : LT × Nat × Nat) (e : Ending) (w' : World) : Prop :=
  ∃ rv, e = .returned (.tuple #[tkV r.1 rv, .int .i64 (r.2.1 : Nat)]) ∧ IsReO w' rv r.1.re ∧ LxAt w' p s r.2.2 ∧ Far p w w'
set_option maxRecDepth 100000 in
theorem letter_any (c : UInt8) (first : Bool) (w : World) : Calls Tryz.prog 17 #[.int .u8 (c.toNat : Nat), .bool first] w fun e w' => e = .returned (.bool (LX.letter c first)) ∧ w' = w := by
  have h1 : (97 ≤ c) = (97 ≤ c.toNat) := by rw [UInt8.le_iff_toNat_le]; rfl
  have h2 : (c ≤ 122) = (c.toNat ≤ 122) := by rw [UInt8.le_iff_toNat_le]; rfl
  have h3 : (48 ≤ c) = (48 ≤ c.toNat) := by rw [UInt8.le_iff_toNat_le]; rfl
  have h4 : (c ≤ 57) = (c.toNat ≤ 57) := by rw [UInt8.le_iff_toNat_le]; rfl
  have h5 : (c == 95) = decide (c.toNat = 95) := by rw [Bool.eq_iff_iff]; simp [← UInt8.toNat_inj]
  have HE : Hid (LX.letter c first = ((decide (97 ≤ c.toNat) && decide (c.toNat ≤ 122)) || decide (c.toNat = 95) || (!first && (decide (48 ≤ c.toNat) && decide (c.toNat ≤ 57))))) := by
    show _ = _
    unfold LX.letter
    rw [h5]
    simp only [h1, h2, h3, h4]
  clear h1 h2 h3 h4 h5
  have hlt := c.toNat_lt
  generalize c.toNat = n at *
  generalize LX.letter c first = L at *
  cases first
  all_goals
    by_cases g1 : 97 ≤ n
    · by_cases g2 : n ≤ 122
      · have g1' : (97 : Int) ≤ (n : Int) := by omega
        have g2' : (n : Int) ≤ 122 := by omega
        go_enter Tryz.func17, Tryz.ntmps17
        go_wp2_with fail
        go_ret
        exact ⟨by rw [HE.out]; simp [g1, g2], rfl⟩
      · have g2' : ¬ (n : Int) ≤ 122 := by omega
        have g1' : (97 : Int) ≤ (n : Int) := by omega
        have g3 : decide (n = 95) = false := decide_eq_false (by omega)
        have g3' : ((n : Int) == 95) = false := by rw [beq_eq_false_iff_ne]; omega
        have g5 : ¬ (n : Int) ≤ 57 := by omega
        have g4 : (48 : Int) ≤ (n : Int) := by omega
        go_enter Tryz.func17, Tryz.ntmps17
        go_wp2_with fail
        go_ret
        exact ⟨by rw [HE.out]; simp [g1, g2, g3]; try omega, rfl⟩
    · have g1' : ¬ (97 : Int) ≤ (n : Int) := by omega
      by_cases g3 : n = 95
      · have g3' : ((n : Int) == 95) = true := by rw [g3]; rfl
        go_enter Tryz.func17, Tryz.ntmps17
        go_wp2_with fail
        go_ret
        exact ⟨by rw [HE.out]; simp [g3], rfl⟩
      · have g3' : ((n : Int) == 95) = false := by rw [beq_eq_false_iff_ne]; omega
        by_cases g4 : 48 ≤ n
        · have g4' : (48 : Int) ≤ (n : Int) := by omega
          by_cases g5 : n ≤ 57
          · have g5' : (n : Int) ≤ 57 := by omega
            go_enter Tryz.func17, Tryz.ntmps17
            go_wp2_with fail
            go_ret
            exact ⟨by rw [HE.out]; simp [g1, g3, g4, g5], rfl⟩
          · have g5' : ¬ (n : Int) ≤ 57 := by omega
            go_enter Tryz.func17, Tryz.ntmps17
            go_wp2_with fail
            go_ret
            exact ⟨by rw [HE.out]; simp [g1, g3, g4, g5], rfl⟩
        · have g4' : ¬ (48 : Int) ≤ (n : Int) := by omega
          go_enter Tryz.func17, Tryz.ntmps17
          go_wp2_with fail
          go_ret
          exact ⟨by rw [HE.out]; simp [g1, g3, g4], rfl⟩
/-- how far, as the program says it -/
def untilI (b : UInt8) (s : List UInt8) (k : Nat) : Int := match LX.untilN b (s.drop k) with | none => -1 | some j => (k : Int) + j
theorem untilI_end (b : UInt8) (s : List UInt8) (k : Nat) (h : s.length ≤ k) : untilI b s k = -1 := by
  unfold untilI; rw [List.drop_eq_nil_of_le h]; rfl
theorem untilI_hit (b : UInt8) (s : List UInt8) (k : Nat) (h : k < s.length) (hb : s.getD k 0 = b) : untilI b s k = k := by
  have hd : s.drop k = b :: s.drop (k + 1) := by
    rw [List.drop_eq_getElem_cons h]; congr 1
    rw [← hb]; simp [List.getD, h]
  unfold untilI
  rw [hd]
  cases hr : s.drop (k + 1) with
  | nil => rw [LX.untilN, if_pos rfl]; simp
  | cons d r => rw [LX.untilN, if_pos rfl]; simp
theorem untilI_esc (b : UInt8) (s : List UInt8) (k : Nat) (h : k < s.length) (hb : s.getD k 0 ≠ b) (h92 : s.getD k 0 = 92) : untilI b s k = untilI b s (k + 2) := by
  have hd : s.drop k = s.getD k 0 :: s.drop (k + 1) := by
    rw [List.drop_eq_getElem_cons h]; congr 1; simp [List.getD, h]
  unfold untilI
  rw [hd]
  cases hr : s.drop (k + 1) with
  | nil =>
    have hl : s.drop (k + 2) = [] := List.drop_eq_nil_of_le (by have := congrArg List.length hr; simp at this; omega)
    have : LX.untilN b [s.getD k 0] = none := by rw [LX.untilN, if_neg hb]
    rw [this, hl]; rfl
  | cons d r =>
    have hl : s.drop (k + 2) = r := by
      have := congrArg List.tail hr
      rw [List.tail_drop] at this
      exact this
    rw [LX.untilN, if_neg hb, if_pos h92, hl]
    cases LX.untilN b r with
    | none => rfl
    | some j => simp; omega
theorem untilI_skip (b : UInt8) (s : List UInt8) (k : Nat) (h : k < s.length) (hb : s.getD k 0 ≠ b) (h92 : s.getD k 0 ≠ 92) : untilI b s k = untilI b s (k + 1) := by
  have hd : s.drop k = s.getD k 0 :: s.drop (k + 1) := by
    rw [List.drop_eq_getElem_cons h]; congr 1; simp [List.getD, h]
  unfold untilI
  rw [hd]
  cases hr : s.drop (k + 1) with
  | nil =>
    have : LX.untilN b [s.getD k 0] = none := by rw [LX.untilN, if_neg hb]
    rw [this]; rfl
  | cons d r =>
    rw [LX.untilN, if_neg hb, if_neg h92]
    cases LX.untilN b (d :: r) with
    | none => rfl
    | some j => simp; omega
def UntAt (w : World) (b : UInt8) (s : List UInt8) (R : Int) (i : Value) (wr : World) : Prop := ∃ k : Nat, k ≤ s.length + 1 ∧ i = .int .i64 k ∧ untilI b s k = R ∧ wr = w
set_option maxRecDepth 100000 in
set_option maxHeartbeats 2000000 in
theorem until_any (b : UInt8) (k : Nat) (hk : k ≤ s.length + 1) (hs : s.length ≤ 65536) (h : LxAt w p s a) :
    Calls Tryz.prog 133 #[ptr p, .int .u8 (b.toNat : Nat), .int .i64 (k : Nat)] w fun e w' => e = .returned (.int .i64 (untilI b s k)) ∧ w' = w := by
  obtain ⟨c0, c1⟩ := h.cells
  have hsz : (⟨s.toArray⟩ : ByteArray).size = s.length := str_size s
  have HU := Lib.hid (untilI_hit b s)
  have HV := Lib.hid (untilI_esc b s)
  have HW := Lib.hid (untilI_skip b s)
  have HX := Lib.hid (untilI_end b s)
  obtain ⟨R, hR⟩ : ∃ R, untilI b s k = R := ⟨_, rfl⟩
  have HR := Lib.hid hR
  rw [hR]
  clear h c1 hR
  go_enter Tryz.func133, Tryz.ntmps133
  go_wp2_with fail
  go_loopw [7] (fun i wr => UntAt w b s R i wr) (fun i _ => s.length + 1 - (intOf i).toNat)
  case atStart => exact ⟨k, hk, rfl, HR.out, rfl⟩
  case round =>
    clear HR hk
    obtain ⟨j, hj, rfl, hgo, rfl⟩ := hrel
    by_cases hlt : j < s.length
    · have hidx := fun W => str_at s j hlt W
      have hlt' : (j : Int) < (s.length : Nat) := by omega
      have HG := Lib.hid hgo
      have HU2 := Lib.hid (HU.out j hlt)
      have HV2 := Lib.hid (HV.out j hlt)
      have HW2 := Lib.hid (HW.out j hlt)
      have hj0 : (0 : Int) ≤ (j : Int) := by omega
      clear hgo
      have e1 : ((((s.getD j 0).toNat : Nat) : Int) == ((b.toNat : Nat) : Int)) = decide (s.getD j 0 = b) := by
        rw [Bool.eq_iff_iff]; simp only [beq_iff_eq, decide_eq_true_eq]
        exact ⟨fun h => UInt8.toNat_inj.1 (by omega), fun h => by rw [h]⟩
      have e2 := byteIs (s.getD j 0) 92 (by omega)
      generalize s.getD j 0 = c at *
      generalize hS : (⟨s.toArray⟩ : ByteArray) = S at *
      by_cases g1 : c = b
      · have HF : Hid (R = j) := by show _ = _; rw [← HG.out]; exact HU2.out g1
        rw [decide_eq_true g1] at e1
        clear e2 g1
        go_wp2_with fail
        go_ret
        exact ⟨by rw [HF.out]; rfl, rfl⟩
      · rw [decide_eq_false g1] at e1
        by_cases g2 : c = 92
        · have HF : Hid (untilI b s (j + 2) = R) := by show _ = _; rw [← HG.out]; exact (HV2.out g1 g2).symm
          have e3 : (((c.toNat : Nat) : Int) == 92) = true := by rw [g2]; rfl
          clear e2 g1 g2
          go_wp2_with fail
          go_roundw
          case rel => exact ⟨j + 2, by omega, by go_num, HF.out, rfl⟩
          case measure => simp [intOf]; omega
        · have HF : Hid (untilI b s (j + 1) = R) := by show _ = _; rw [← HG.out]; exact (HW2.out g1 g2).symm
          have e3 : (((c.toNat : Nat) : Int) == 92) = false := by rw [beq_eq_false_iff_ne]; exact fun h => g2 (UInt8.toNat_inj.1 (by show c.toNat = 92; omega))
          clear e2 g1 g2
          go_wp2_with fail
          go_roundw
          case rel => exact ⟨j + 1, by omega, by go_num, HF.out, rfl⟩
          case measure => simp [intOf]; omega
    · have HF : Hid (R = -1) := by show _ = _; rw [← hgo]; exact HX.out j (by omega)
      have hlt' : ¬ (j : Int) < (s.length : Nat) := by omega
      clear hgo
      generalize hS : (⟨s.toArray⟩ : ByteArray) = S at *
      go_wp2_with fail
      go_ret
      exact ⟨by rw [HF.out]; rfl, rfl⟩
theorem LxAt.put' (h : LxAt w p s a) (b : Nat) (v : Int) (hv : v = (b : Nat)) : LxAt (w.setCell ⟨p, 1, none⟩ (.int .i64 v)) p s b := by rw [hv]; exact h.put b
theorem strBetween (l : List UInt8) (i j : Nat) (h1 : i ≤ j) (h2 : j ≤ l.length) (x y : Int) (hx : x = (i : Nat)) (hy : y = (j : Nat)) (w : World) : (Instr.slice 9 (.string ⟨l.toArray⟩) (some (.int .i64 x)) (some (.int .i64 y)) none).run Tryz.prog w = .ok (.string ⟨((l.drop i).take (j - i)).toArray⟩) w := by
  subst hx hy
  have hs : (⟨l.toArray⟩ : ByteArray).size = l.length := str_size l
  have e : (⟨l.toArray⟩ : ByteArray).extract i j = ⟨((l.drop i).take (j - i)).toArray⟩ := by
    refine ByteArray.ext ?_
    rw [ByteArray.data_extract]
    apply Array.toList_inj.1
    simp [List.take_drop]
  rw [run_slice_string_if _ _ _ _ _ _ _ Tryz.underlying9, if_pos ⟨by omega, by rw [hs]; omega⟩, if_pos ⟨by omega, by omega⟩]
  simp only [Int.toNat_natCast, e]
theorem strBetweenAt (l : List UInt8) (i j : Nat) (h1 : i ≤ j) (h2 : j ≤ l.length) (x y : Int) (hx : x = (i : Nat)) (hy : y = (j : Nat)) (w : World) : (Instr.sliceAt 9 (.string ⟨l.toArray⟩) (some (.int .i64 x)) (some (.int .i64 y)) none).run Tryz.prog w = .ok (.string ⟨((l.drop i).take (j - i)).toArray⟩) w := by
  rw [run_sliceAt_string _ _ _ _ _ _ Tryz.underlying9]; exact strBetween l i j h1 h2 x y hx hy w
/-- an expression's one byte, as the program says it -/
def SingleIs (o : Option RE) (b : Nat) (ok : Bool) : Prop := match LX.single1 o with | some x => b = x ∧ ok = true | none => ok = false
theorem one_ne (s : BS) (h : s.len = 1) : s ≠ BS.none := fun e => by
  rw [e] at h
  revert h
  decide +kernel
set_option maxRecDepth 100000 in
set_option maxHeartbeats 2000000 in
theorem single_any (v : Value) (o : Option RE) (w : World) (hT : Tab w) (h : IsReO w v o) :
    Calls Tryz.prog 134 #[v] w fun e w' => ∃ (b : Nat) (ok : Bool), e = .returned (.tuple #[.int .u8 (b : Nat), .bool ok]) ∧ SingleIs o b ok ∧ Below w.heap.size w w' := by
  cases o with
  | none =>
    have hv : v = .pointer none := h
    subst hv
    go_enter Tryz.func134, Tryz.ntmps134
    go_wp2_with fail
    go_ret2
    exact ⟨0, false, rfl, rfl, Below.refl _ _⟩
  | some r =>
    obtain ⟨b, rfl, hb⟩ := h
    obtain ⟨kp, cap, bs, hnode, _, _⟩ := hb.open
    have hop : w.cell? ⟨b, 0, none⟩ = some (.int .i64 (r.op : Nat)) := by rw [cell_of_row _ _ _ _ _ _ hnode]; rfl
    have c1 : w.cell? ⟨b, 1, none⟩ = some (.int .u64 (wN r.set.a)) := by rw [cell_of_row _ _ _ _ _ _ hnode]; rfl
    have c2 : w.cell? ⟨b, 2, none⟩ = some (.int .u64 (wN r.set.b)) := by rw [cell_of_row _ _ _ _ _ _ hnode]; rfl
    have c3 : w.cell? ⟨b, 3, none⟩ = some (.int .u64 (wN r.set.c)) := by rw [cell_of_row _ _ _ _ _ _ hnode]; rfl
    have c4 : w.cell? ⟨b, 4, none⟩ = some (.int .u64 (wN r.set.d)) := by rw [cell_of_row _ _ _ _ _ _ hnode]; rfl
    have HSI : Hid (∀ b ok, (r.op = 2 ∧ r.set.len = 1 → b = r.set.least ∧ ok = true) → (¬ (r.op = 2 ∧ r.set.len = 1) → ok = false) → SingleIs (some r) b ok) := fun b ok h1 h2 => by
      unfold SingleIs LX.single1
      simp only
      by_cases hc : r.op = 2 ∧ r.set.len = 1
      · rw [if_pos hc]; exact h1 hc
      · rw [if_neg hc]; exact h2 hc
    have hblt := hb.lt
    have HNE := Lib.hid (one_ne r.set)
    have HLEN := Lib.hid (fun W => Len_any r.set.a r.set.b r.set.c r.set.d W)
    have HLST := Lib.hid (fun W (hT : Tab W) => Least_any r.set.a r.set.b r.set.c r.set.d W hT)
    have eS : (⟨r.set.a, r.set.b, r.set.c, r.set.d⟩ : BS) = r.set := rfl
    rw [eS] at HLEN HLST
    have HT := Lib.hid hT
    clear hnode hb hT eS
    obtain ⟨o', ho'⟩ : ∃ o', r.op = o' := ⟨_, rfl⟩
    obtain ⟨ln, hln⟩ : ∃ ln, r.set.len = ln := ⟨_, rfl⟩
    rw [ho'] at hop HSI
    rw [hln] at HSI HLEN HNE
    obtain ⟨ls, hls⟩ : ∃ ls, r.set.least = ls := ⟨_, rfl⟩
    rw [hls] at HSI HLST
    clear ho' hln hls
    generalize wN r.set.a = x0 at *
    generalize wN r.set.b = x1 at *
    generalize wN r.set.c = x2 at *
    generalize wN r.set.d = x3 at *
    generalize r.set = S at *
    by_cases g2 : o' = 2
    · have g2' : ((o' : Int) != 2) = false := by rw [g2]; rfl
      have HB : Hid (Below w.heap.size w (w.alloc (.cells #[.int .u64 x0, .int .u64 x1, .int .u64 x2, .int .u64 x3] 112))) := re_alloc w _
      by_cases g1 : ln = 1
      · have g1' : ((ln : Int) != 1) = false := by rw [g1]; rfl
        have hd : decide (S ≠ BS.none) = true := decide_eq_true (HNE.out g1)
        rw [hd] at HLST
        go_enter Tryz.func134, Tryz.ntmps134
        go_wp2_with fail
        refine (HLEN.out _).mono ?_
        rintro e w1 ⟨rfl, rfl⟩
        go_wp2_with fail
        refine (HLST.out _ (HT.out.later HB.out)).mono ?_
        rintro e w2 ⟨rfl, hb2⟩
        have HB2 := Lib.hid (ext_step HB.out hb2)
        clear hb2
        go_wp2_with fail
        go_ret2
        exact ⟨ls, true, rfl, HSI.out _ _ (fun _ => ⟨rfl, rfl⟩) (fun h => absurd ⟨g2, g1⟩ h), HB2.out⟩
      · have g1' : ((ln : Int) != 1) = true := by simpa using fun h => g1 (by omega)
        go_enter Tryz.func134, Tryz.ntmps134
        go_wp2_with fail
        refine (HLEN.out _).mono ?_
        rintro e w1 ⟨rfl, rfl⟩
        go_wp2_with fail
        go_ret2
        exact ⟨0, false, rfl, HSI.out _ _ (fun h => absurd h.2 g1) (fun _ => rfl), HB.out⟩
    · have g2' : ((o' : Int) != 2) = true := by simpa using fun h => g2 (by omega)
      go_enter Tryz.func134, Tryz.ntmps134
      go_wp2_with fail
      go_ret2
      exact ⟨0, false, rfl, HSI.out _ _ (fun h => absurd h.1 g2) (fun _ => rfl), Below.refl _ _⟩
end Go.Proofs.YticpjjmacmmpjaaGreatDoor
