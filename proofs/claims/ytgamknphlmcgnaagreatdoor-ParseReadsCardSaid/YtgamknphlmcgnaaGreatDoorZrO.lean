/-
  Terms made of plans, walked through the program: whatever plan. Terms as they are written, whatever terms; their size; a nil term. How deep the parentheses of a term's text lie in one another; plain. A term's blocks aside: its text, its size, what it weighs. Texts made of tokens, one behind the other, with gaps between: what the lexer makes of them, plain. Names with signs between, parsed, plain; ParseDeep, plain. Tokens that make a term, by the grammar: what the parser makes of them, whatever is behind; plain. Texts that are tokens, one by one: gaps, signs, names, texts in quotes, expressions; plain.
-/

import Derived.Test.YtgamknphlmcgnaaGreatDoorZrA
import Derived.Test.YtgamknphlmcgnaaGreatDoorZrB
import Derived.Test.YtgamknphlmcgnaaGreatDoorZrC
import Derived.Test.YtgamknphlmcgnaaGreatDoorZrD
import Derived.Test.YtgamknphlmcgnaaGreatDoorZrE
import Derived.Test.YtgamknphlmcgnaaGreatDoorZrF
import Derived.Test.YtgamknphlmcgnaaGreatDoorZrG
import Derived.Test.YtgamknphlmcgnaaGreatDoorZrH
import Derived.Test.YtgamknphlmcgnaaGreatDoorZrI
import Derived.Test.YtgamknphlmcgnaaGreatDoorZrJ
import Derived.Test.YtgamknphlmcgnaaGreatDoorZrK
import Derived.Test.YtgamknphlmcgnaaGreatDoorZrL
import Derived.Test.YtgamknphlmcgnaaGreatDoorZrM
import Derived.Test.YtgamknphlmcgnaaGreatDoorZrN
section
set_option linter.unusedSimpArgs false
set_option linter.unusedVariables false
set_option maxRecDepth 100000
set_option linter.unnecessarySimpa false
namespace Go.Proofs.YtgamknphlmcgnaaGreatDoor
open Go.RowKit
/-- what is left of a number as one without a sign -/
def uMod (n : Int) (m : Nat) : Nat := ((IntKind.u64.wrap n).tmod (m : Int)).toNat
def textL : List (List UInt8) := [[], [97], [98], [97, 98], [120, 59, 121], [34, 113, 34], [10]]
def textN (n : Int) : List UInt8 := textL.getD (uMod n 7) []
namespace RE
def exA : RE := wordL [97]
def exB : RE := wordL [98]
/-- one of few expressions -/
def exprN : Nat → RE
  | 0 => exA
  | 1 => exB
  | 2 => wordL [97, 98]
  | 3 => many (some exA)
  | 4 => anyL [some exA, some exB]
  | 5 => many (some (anyL [some exA, some exB]))
  | 6 => thenL [some exA, some (many (some exB))]
  | 7 => empty
  | _ => wordL [59]
end RE
end Go.Proofs.YtgamknphlmcgnaaGreatDoor
namespace Go.Proofs.YtgamknphlmcgnaaGreatDoor
open Go.RowKit
namespace PL
mutual
def sz : PL → Nat | node _ _ _ ks => 1 + szs ks
def szs : List PL → Nat | [] => 0 | k :: ks => sz k + szs ks
end
end PL
/-- what is left of a number, of two -/
def bit1 (n : Int) : Nat := if bits .and .i64 n 1 = 0 then 0 else 1
def nameN (n : Int) : List UInt8 := if bit1 n = 0 then [107] else [99, 111, 108, 111, 114]
namespace PL
/-- a copy of the one letter -/
def cA : TA := TA.node 0 2 0 [] (some RE.exA) [] [] []
def mkTop (o : Nat) (w n : Int) (l : List TA) : TA :=
  TA.node 0 o 0 (if o = 3 then nameN n else []) (if o = 2 ∨ o = 16 ∨ o = 3 ∨ o = 4 ∨ o = 5 ∨ o = 17 then some (RE.exprN (uMod w 9)) else Option.none)
    (if o = 4 ∨ o = 6 ∨ o = 17 then textN n else []) (if o = 4 then textN (wrap64 (n.tdiv 7)) else if o = 5 then textN n else [])
    (if o = 7 ∨ o = 8 ∨ o = 11 ∨ o = 10 ∨ o = 14 ∨ o = 15 then [l.getD 0 cA, l.getD 1 cA] else if o = 9 ∨ o = 12 ∨ o = 13 then [l.getD 0 cA] else [])
mutual
def mk : PL → TA | node o w n ks => mkTop (2 + uMod o 16) w n (mks ks)
def mks : List PL → List TA | [] => [] | k :: ks => mk k :: mks ks
end
end PL
end Go.Proofs.YtgamknphlmcgnaaGreatDoor
namespace Go.Proofs.YtgamknphlmcgnaaGreatDoor
open Go.RowKit
theorem tmlevel_any (b o : Nat) (ho : o < 18) (w : World) (hc : w.cell? ⟨b, 0, none⟩ = some (.int .i64 (o : Nat))) : Calls Tryz.prog 133 #[ptr b] w fun e w' => e = .returned (.int .i64 (TA.lvl o : Nat)) ∧ w' = w := by
  have h : o = 7 ∨ o = 8 ∨ o = 11 ∨ o = 9 ∨ (¬ o = 7 ∧ ¬ o = 8 ∧ ¬ o = 11 ∧ ¬ o = 9) := by omega
  rcases h with rfl | rfl | rfl | rfl | ⟨h7, h8, h11, h9⟩
  any_goals
    go_enter Tryz.func133, Tryz.ntmps133
    go_wp2
    go_ret
    exact ⟨rfl, rfl⟩
  have HL : Hid (TA.lvl o = 4) := by show _ = _; simp [TA.lvl, h7, h8, h11, h9]
  have g7 : ((o : Int) == 7) = false := by rw [beq_eq_false_iff_ne]; omega
  have g8 : ((o : Int) == 8) = false := by rw [beq_eq_false_iff_ne]; omega
  have g11 : ((o : Int) == 11) = false := by rw [beq_eq_false_iff_ne]; omega
  have g9 : ((o : Int) == 9) = false := by rw [beq_eq_false_iff_ne]; omega
  generalize TA.lvl o = l at *
  clear h7 h8 h11 h9
  go_enter Tryz.func133, Tryz.ntmps133
  go_wp2
  go_ret
  exact ⟨by rw [HL.out]; rfl, rfl⟩
set_option maxRecDepth 100000 in
set_option maxHeartbeats 2000000 in
theorem tmin_any (t : TA) (l : Nat) (hl : l ≤ 4) (hok : t.ok) (hwt : t.wt ≤ 1099511627776) (w : World) (ht : IsTa w t) (hS : ∀ W, Below w.heap.size w W → Calls Tryz.prog 46 #[ptr t.b] W (StrPost t.str W)) :
    Calls Tryz.prog 89 #[ptr t.b, .int .i64 l] w (StrPost (TA.inn l t) w) := by
  obtain ⟨⟨rv, kp, cap, hn⟩, _⟩ := ht.open
  have HL := Lib.hid (tmlevel_any t.b t.op (TA.ok_top hok).1 w hn.cells.1)
  have HO := Lib.hid (hS w (Below.refl _ _))
  have HI : Hid (TA.inn l t = if TA.lvl t.op < l then [40] ++ t.str ++ [41] else t.str) := rfl
  have hlen := t.str_len
  clear hn ht hS hok
  generalize t.str = s at *
  generalize TA.inn l t = out at *
  generalize TA.lvl t.op = lv at *
  generalize t.wt = wt at *
  by_cases hlt : lv < l
  · have HE : Hid (out = [40] ++ s ++ [41]) := by show _ = _; rw [HI.out, if_pos hlt]
    have hlt' : (lv : Int) < (l : Int) := by omega
    go_enter Tryz.func89, Tryz.ntmps89
    go_wp2_with fail
    refine HL.out.mono ?_
    rintro e w' ⟨rfl, rfl⟩
    go_wp2_with fail
    refine HO.out.mono ?_
    rintro e w1 ⟨rfl, hb⟩
    go_wp2_with fail
    go_ret
    exact ⟨congrArg (fun s => Ending.returned (.string s)) (ByteArray.ext (by rw [HE.out]; simp)), hb⟩
  · have HE : Hid (out = s) := by show _ = _; rw [HI.out, if_neg hlt]
    have hlt' : ¬ (lv : Int) < (l : Int) := by omega
    go_enter Tryz.func89, Tryz.ntmps89
    go_wp2_with fail
    refine HL.out.mono ?_
    rintro e w' ⟨rfl, rfl⟩
    go_wp2_with fail
    refine HO.out.mono ?_
    rintro e w1 ⟨rfl, hb⟩
    go_wp2_with fail
    go_ret
    exact ⟨by rw [HE.out]; rfl, hb⟩
/-- what holds of the terms of a call: each is written so, in whatever world behind -/
def Strs (w : World) (ks : List TA) : Prop := ∀ k ∈ ks, ∀ W, Below w.heap.size w W → Calls Tryz.prog 46 #[ptr k.b] W (StrPost k.str W)
set_option maxRecDepth 100000 in
set_option maxHeartbeats 2000000 in
theorem tmarg_any (t : TA) (hok : t.ok) (hwt : t.wt ≤ 1099511627776) (w : World) (hT : Tab w) (ht : IsTa w t) (hS : Strs w t.kids) :
    Calls Tryz.prog 87 #[ptr t.b] w (StrPost (TA.arg t.re t.kids) w) := by
  obtain ⟨⟨rv, kp, cap, hn⟩, _⟩ := ht.open
  obtain ⟨c0, c1, c2, c3, c4, c5, c6⟩ := hn.cells
  have hre := hn.2.1
  have hrow := hn.2.2
  have hwe := t.wt_eq
  have hnf := (TA.ok_top hok).2.1
  clear c0 c1 c2 c4 c5 hn ht hok
  by_cases h1 : t.kids.length = 1
  · obtain ⟨k, hk⟩ : ∃ k, t.kids = [k] := List.length_eq_one_iff.1 h1
    rw [hk] at hrow hS c6
    obtain ⟨kb, ko, rfl, hc⟩ := hrow.at (by simp)
    have hp : w.cell? ⟨kb, ko, none⟩ = some (.pointer (some ⟨k.b, 0, none⟩)) := by have := hc 0 (by simp); simpa using this
    have HO := Lib.hid (hS k (by simp) w (Below.refl _ _))
    have HE : Hid (TA.arg t.re t.kids = k.str) := by show _ = _; rw [hk]; rfl
    generalize TA.arg t.re t.kids = out at *
    generalize t.b = b at *
    generalize k.b = kb' at *
    generalize k.str = s at *
    clear hre hS hc h1 hk hwe hnf hrow
    go_enter Tryz.func87, Tryz.ntmps87
    go_wp2_with fail
    refine HO.out.mono ?_
    rintro e w1 ⟨rfl, hb⟩
    go_wp2_with fail
    go_ret
    exact ⟨by rw [HE.out]; rfl, hb⟩
  · have HE : Hid (TA.arg t.re t.kids = [47] ++ RE.ofO t.re ++ [47]) := by
      show _ = _
      match t.kids, h1 with
      | [], _ => rfl
      | _ :: _ :: _, _ => rfl
    have h1' : ((t.kids.length : Int) == 1) = false := by rw [beq_eq_false_iff_ne]; omega
    have hsz : RE.sizeO t.re ≤ 1073741824 := by omega
    have HO := Lib.hid (Of_text rv t.re w hT hre hnf hsz)
    have hlen : (RE.ofO t.re).length ≤ 2404 * (1 + RE.sizeO t.re) := by
      cases t.re with
      | none => simp [RE.ofO]; omega
      | some x => have := RE.ofW_len x; simp only [RE.ofO, RE.sizeO]; omega
    generalize TA.arg t.re t.kids = out at *
    generalize RE.ofO t.re = s at *
    generalize RE.sizeO t.re = z at *
    generalize t.kids.length = n at *
    generalize t.b = b at *
    clear hre hS hrow h1 hnf
    go_enter Tryz.func87, Tryz.ntmps87
    go_wp2_with fail
    refine HO.out.mono ?_
    rintro e w1 ⟨rfl, hb⟩
    go_wp2_with fail
    go_ret
    exact ⟨congrArg (fun s => Ending.returned (.string s)) (ByteArray.ext (by rw [HE.out]; simp)), hb⟩
set_option maxRecDepth 100000 in
set_option maxHeartbeats 4000000 in
theorem tmpair_any (t : TA) (sign : List UInt8) (l : Nat) (hsl : sign.length ≤ 3) (hl : l = 0 ∨ l = 1 ∨ l = 2) (hok : t.ok) (hwt : t.wt ≤ 1099511627776) (w : World) (ht : IsTa w t) (hS : Strs w t.kids) :
    Calls Tryz.prog 88 #[ptr t.b, .string ⟨sign.toArray⟩, .int .i64 l] w (StrPost (TA.pair sign l t.kids) w) := by
  obtain ⟨⟨rv, kp, cap, hn⟩, hkt⟩ := ht.open
  obtain ⟨c0, c1, c2, c3, c4, c5, c6⟩ := hn.cells
  have hrow := hn.2.2
  have hwe := t.wt_eq
  have hko := TA.ok_kids hok
  clear c0 c1 c2 c3 c4 c5 hn ht hok
  by_cases h2 : t.kids.length = 2
  · obtain ⟨x, y, hk⟩ : ∃ x y, t.kids = [x, y] := by
      match hk : t.kids, h2 with
      | [x, y], _ => exact ⟨x, y, rfl⟩
    rw [hk] at hrow hS c6 hkt hko hwe
    obtain ⟨kb, ko, rfl, hc⟩ := hrow.at (by simp)
    have hp0 : w.cell? ⟨kb, ko, none⟩ = some (.pointer (some ⟨x.b, 0, none⟩)) := by have := hc 0 (by simp); simpa using this
    have hp1 : w.cell? ⟨kb, ko + 1, none⟩ = some (.pointer (some ⟨y.b, 0, none⟩)) := hc 1 (by simp)
    have hwx : x.wt + y.wt ≤ 1099511627776 := by simp only [TA.wts] at hwe; omega
    have HI0 : Hid (∀ W, Below w.heap.size w W → Calls Tryz.prog 89 #[ptr x.b, .int .i64 l] W (StrPost (TA.inn l x) W)) := fun W hb =>
      tmin_any x l (by omega) (hko x (by simp)) (by omega) W (IsTa.later hb x (hkt x (by simp))) fun W' hb' => hS x (by simp) W' (ext_step hb hb')
    have HI1 : Hid (∀ W, Below w.heap.size w W → Calls Tryz.prog 89 #[ptr y.b, .int .i64 ((l + 1 : Nat) : Int)] W (StrPost (TA.inn (l + 1) y) W)) := fun W hb =>
      tmin_any y (l + 1) (by omega) (hko y (by simp)) (by omega) W (IsTa.later hb y (hkt y (by simp))) fun W' hb' => hS y (by simp) W' (ext_step hb hb')
    have HE : Hid (TA.pair sign l t.kids = TA.inn l x ++ sign ++ TA.inn (l + 1) y) := by show _ = _; rw [hk]; rfl
    have hlx : (TA.inn l x).length ≤ x.wt := by have := x.str_len; unfold TA.inn; split <;> (try simp only [List.length_append, List.length_cons, List.length_nil]) <;> omega
    have hly : (TA.inn (l + 1) y).length ≤ y.wt := by have := y.str_len; unfold TA.inn; split <;> (try simp only [List.length_append, List.length_cons, List.length_nil]) <;> omega
    generalize TA.pair sign l t.kids = out at *
    generalize t.b = b at *
    generalize x.b = b0 at *
    generalize y.b = b1 at *
    generalize TA.inn l x = l0 at *
    generalize TA.inn (l + 1) y = l1 at *
    generalize x.wt = wx at *
    generalize y.wt = wy at *
    obtain ⟨S, hS2⟩ : ∃ S : World → Prop, ∀ W', S W' ↔ Below w.heap.size w W' := ⟨_, fun _ => Iff.rfl⟩
    have HS := Lib.hid hS2
    have cs : ∀ p : InC S, p.w.cell? ⟨b, 6, none⟩ = some (.slice (some ⟨kb, ko, none⟩) 2 cap) ∧ p.w.cell? ⟨kb, ko, none⟩ = some (.pointer (some ⟨b0, 0, none⟩)) ∧ p.w.cell? ⟨kb, ko + 1, none⟩ = some (.pointer (some ⟨b1, 0, none⟩)) := fun p => by
      have hb := (hS2 p.w).1 p.h
      exact ⟨by rw [hb.cell (p := ⟨b, 6, none⟩) (World.block_lt_of_cell? w _ c6)]; exact c6, by rw [hb.cell (p := ⟨kb, ko, none⟩) (World.block_lt_of_cell? w _ hp0)]; exact hp0, by rw [hb.cell (p := ⟨kb, ko + 1, none⟩) (World.block_lt_of_cell? w _ hp1)]; exact hp1⟩
    have hS0 : S w.drew := (hS2 _).2 (Below.refl _ _).drew
    have hne : Nonempty (InC S) := ⟨⟨_, hS0⟩⟩
    have HC0 : Hid (∀ (p : InC S) (li : Int), li = (l : Int) → Calls Tryz.prog 89 #[.pointer (some ⟨b0, 0, none⟩), .int .i64 li] p.w fun e w' => e = .returned (.string ⟨l0.toArray⟩) ∧ ∃ q : InC S, w' = q.w) := fun p li hli => by
      subst hli
      exact (HI0.out p.w ((hS2 _).1 p.h)).mono fun e w' ⟨he, hb⟩ => ⟨he, ⟨w', (hS2 _).2 (ext_step ((hS2 _).1 p.h) hb)⟩, rfl⟩
    have HC1 : Hid (∀ (p : InC S) (li : Int), li = ((l + 1 : Nat) : Int) → Calls Tryz.prog 89 #[.pointer (some ⟨b1, 0, none⟩), .int .i64 li] p.w fun e w' => e = .returned (.string ⟨l1.toArray⟩) ∧ ∃ q : InC S, w' = q.w) := fun p li hli => by
      subst hli
      exact (HI1.out p.w ((hS2 _).1 p.h)).mono fun e w' ⟨he, hb⟩ => ⟨he, ⟨w', (hS2 _).2 (ext_step ((hS2 _).1 p.h) hb)⟩, rfl⟩
    clear hS2 hS hc h2 hk hwe hkt hko hrow HI0 HI1
    rcases hl with rfl | rfl | rfl
    all_goals
      go_enter Tryz.func88, Tryz.ntmps88
      go_wp2_with fail
      clear c6 hp0 hp1
      refine wp_region_class S (by kernel_rfl) (by kernel_rfl) hS0 ?_
      repeat (go_big_quiet_step (first | (with_reducible exact HC0.out _ _ (by decide)) | (with_reducible exact HC1.out _ _ (by decide))))
      refine wpQuiet_nil ?_
      intro p
      have hb := (HS.out p.w).1 p.h
      go_wp2
      go_ret
      exact ⟨congrArg (fun s => Ending.returned (.string s)) (ByteArray.ext (by rw [HE.out]; simp)), hb⟩
  · have HE : Hid (TA.pair sign l t.kids = [40, 41]) := by
      show _ = _
      match t.kids, h2 with
      | [], _ => rfl
      | [_], _ => rfl
      | _ :: _ :: _ :: _, _ => rfl
    have h2' : ((t.kids.length : Int) != 2) = true := by rw [bne_iff_ne]; omega
    generalize TA.pair sign l t.kids = out at *
    generalize t.kids.length = n at *
    generalize t.b = b at *
    clear hS hrow h2 hkt hko
    go_enter Tryz.func88, Tryz.ntmps88
    go_wp2_with fail
    go_ret
    exact ⟨by rw [HE.out]; rfl, Below.refl _ _⟩
-- by cases of the op
theorem str_node (t : TA) : t.str = if t.op = 0 then t.name else if t.op = 1 then [47] ++ RE.ofO t.re ++ [47] else if t.op = 2 ∨ t.op = 16 then TA.word t.op ++ [32] ++ TA.arg t.re t.kids
    else if t.op = 3 then [107, 101, 121, 32] ++ t.name ++ [32] ++ TA.arg t.re t.kids
    else if t.op = 4 then [99, 111, 110, 115, 116, 32] ++ TA.arg t.re t.kids ++ [32] ++ quoteW t.text ++ [32] ++ quoteW t.back
    else if t.op = 5 then [100, 101, 108, 32] ++ TA.arg t.re t.kids ++ [32] ++ quoteW t.back
    else if t.op = 17 then [110, 111, 114, 109, 32] ++ TA.arg t.re t.kids ++ [32] ++ quoteW t.text
    else if t.op = 6 then [105, 110, 115, 32] ++ quoteW t.text
    else if t.op = 7 then TA.pair [32, 124, 32] 0 t.kids else if t.op = 8 then TA.pair [32, 46, 32] 1 t.kids else if t.op = 11 then TA.pair [32, 59, 32] 2 t.kids
    else if t.op = 9 then TA.star t.kids else TA.word t.op ++ [40] ++ Lib.join (TA.strs t.kids) [44, 32] ++ [41] := by cases t; rw [TA.str]; rfl
def PartsAt (w : World) (ks : List TA) (v i : Value) (wr : World) : Prop := ∃ k : Nat, k ≤ ks.length ∧ i = .int .i64 k ∧ OwnS w ((ks.take k).map TA.str) v wr
theorem tm_snoc (l : List TA) (k : Nat) (h : k < l.length) : l.take (k + 1) = l.take k ++ [l.getD k TA.none] := by
  rw [List.take_succ_eq_append_getElem h]; simp [List.getD, h]
theorem tm_dec : ∀ o, o < 18 → o = 0 ∨ o = 1 ∨ o = 2 ∨ o = 16 ∨ o = 3 ∨ o = 4 ∨ o = 5 ∨ o = 17 ∨ o = 6 ∨ o = 7 ∨ o = 8 ∨ o = 11 ∨ o = 9 ∨ o = 10 ∨ o = 12 ∨ o = 13 ∨ o = 14 ∨ o = 15 := by decide
set_option maxRecDepth 100000 in
set_option maxHeartbeats 8000000 in
theorem tmString_step (t : TA) (hok : t.ok) (hwt : t.wt ≤ 1099511627776) (w : World) (hT : Tab w) (hWo : WordsAt w) (ht : IsTa w t) (hS : Strs w t.kids) :
    Calls Tryz.prog 46 #[ptr t.b] w (StrPost t.str w) := by
  obtain ⟨⟨rv, kp, cap, hn⟩, hkt⟩ := ht.open
  obtain ⟨c0, c1, c2, c3, c4, c5, c6⟩ := hn.cells
  have hrow := hn.2.2
  have hwe := t.wt_eq
  have hok1 := TA.ok_top hok
  have hkw : ∀ k ∈ t.kids, k.wt ≤ TA.wts t.kids := fun k hk => TA.mem_wts hk
  have hnl : t.name.length ≤ 1099511627776 := by omega
  have hal : (TA.arg t.re t.kids).length ≤ 3000000000000 := by
    have h1 := TA.arg_len t.re t.kids
    have hr : (RE.ofO t.re).length ≤ 2404 * (1 + RE.sizeO t.re) := by
      cases t.re with
      | none => simp [RE.ofO]; omega
      | some x => have := RE.ofW_len x; simp only [RE.ofO, RE.sizeO]; omega
    omega
  have hrl : (RE.ofO t.re).length ≤ 3000000000000 := by
    cases hre : t.re with
    | none => simp [RE.ofO]
    | some x => rw [hre] at hwe; have := RE.ofW_len x; simp only [RE.ofO, RE.sizeO] at hwe ⊢; omega
  have hwl := TA.word_len t.op
  have hql : (quoteW t.text).length ≤ 3000000000000 := by have := bytesW_len t.text; simp [quoteW]; omega
  have hbl : (quoteW t.back).length ≤ 3000000000000 := by have := bytesW_len t.back; simp [quoteW]; omega
  have hsz : RE.sizeO t.re ≤ 1073741824 := by omega
  obtain ⟨S, hS2⟩ : ∃ S : World → Prop, ∀ W', S W' ↔ Below w.heap.size w W' := ⟨_, fun _ => Iff.rfl⟩
  have HS := Lib.hid hS2
  have HA : Hid (∀ p : InC S, Calls Tryz.prog 87 #[.pointer (some ⟨t.b, 0, none⟩)] p.w fun e w' => e = .returned (.string ⟨(TA.arg t.re t.kids).toArray⟩) ∧ ∃ q : InC S, w' = q.w) := fun p => by
    have hb := (hS2 p.w).1 p.h
    exact (tmarg_any t hok hwt p.w (hT.later hb) (IsTa.later hb t ht) fun k hk W hb' => hS k hk W (ext_step hb hb')).mono fun e w' ⟨he, hb'⟩ => ⟨he, ⟨w', (hS2 _).2 (ext_step hb hb')⟩, rfl⟩
  have HQT : Hid (∀ p : InC S, Calls Tryz.prog 68 #[.string ⟨t.text.toArray⟩] p.w fun e w' => e = .returned (.string ⟨(quoteW t.text).toArray⟩) ∧ ∃ q : InC S, w' = q.w) := fun p => by
    have hb := (hS2 p.w).1 p.h
    exact (Quote_any t.text (by omega) p.w).mono fun e w' ⟨he, hb'⟩ => ⟨he, ⟨w', (hS2 _).2 (ext_step hb hb')⟩, rfl⟩
  have HQB : Hid (∀ p : InC S, Calls Tryz.prog 68 #[.string ⟨t.back.toArray⟩] p.w fun e w' => e = .returned (.string ⟨(quoteW t.back).toArray⟩) ∧ ∃ q : InC S, w' = q.w) := fun p => by
    have hb := (hS2 p.w).1 p.h
    exact (Quote_any t.back (by omega) p.w).mono fun e w' ⟨he, hb'⟩ => ⟨he, ⟨w', (hS2 _).2 (ext_step hb hb')⟩, rfl⟩
  have HAW := Lib.hid (tmarg_any t hok hwt w hT ht hS)
  have HQW := Lib.hid (Quote_any t.text (by omega) w)
  have HOF := Lib.hid (Of_text rv t.re w hT hn.2.1 hok1.2.1 hsz)
  have HWD := Lib.hid (fun W (h : WordsAt W) => Word_op (t.op : Int) W h)
  have HWO := Lib.hid hWo
  have HP := fun sign l hsl hl => tmpair_any t sign l hsl hl hok hwt w ht hS
  have HP0 := Lib.hid (HP [32, 124, 32] 0 (by simp) (.inl rfl))
  have HP1 := Lib.hid (HP [32, 46, 32] 1 (by simp) (.inr (.inl rfl)))
  have HP2 := Lib.hid (HP [32, 59, 32] 2 (by simp) (.inr (.inr rfl)))
  have HSS := Lib.hid hS
  have HKT := Lib.hid hkt
  have HOUT := Lib.hid (str_node t)
  have HKO := Lib.hid (TA.ok_kids hok)
  have HKW := Lib.hid hkw
  have HROW := Lib.hid hrow
  have hle := t.str_len
  have HKN := Lib.hid hok1.2.2
  have hsl := TA.strs_len t.kids
  have hkl : t.kids.length ≤ 1099511627776 := by
    have : ∀ l : List TA, l.length ≤ TA.wts l := by
      intro l
      induction l with
      | nil => simp
      | cons a l ih => have := a.wt_eq; simp [TA.wts]; omega
    have := this t.kids
    omega
  have hjl := RE.join_len_le (TA.strs t.kids) [44, 32]
  simp only [List.length_cons, List.length_nil] at hjl
  have hwk : TA.wts t.kids ≤ 1099511627776 := by omega
  clear ht hn hS hkt hrow hT hWo hS2 HP hkw hwe
  have ho := tm_dec t.op hok1.1
  have hok0 : True := trivial
  clear hok hok1 hsz hwt
  generalize t.str = out at *
  generalize t.b = b at *
  generalize t.name = nm at *
  generalize TA.arg t.re t.kids = ar at *
  generalize RE.ofO t.re = ofr at *
  generalize quoteW t.text = qt at *
  generalize quoteW t.back = qb at *
  generalize t.text = tx at *
  generalize t.back = bk at *
  generalize t.at_ = at' at *
  generalize t.wt = wt at *
  generalize t.kids = ks at *
  generalize t.op = o at *
  rcases ho with rfl | rfl | rfl | rfl | rfl | rfl | rfl | rfl | rfl | rfl | rfl | rfl | rfl | rfl | rfl | rfl | rfl | rfl
  · have HE : Hid (out = nm) := by show _ = _; rw [HOUT.out]; rfl
    go_enter Tryz.func46, Tryz.ntmps46
    go_wp2_with fail
    go_ret
    exact ⟨congrArg (fun s => Ending.returned (.string s)) (ByteArray.ext (by rw [HE.out])), Below.refl _ _⟩
  · have HE : Hid (out = [47] ++ ofr ++ [47]) := by show _ = _; rw [HOUT.out]; rfl
    go_enter Tryz.func46, Tryz.ntmps46
    go_wp2_with fail
    refine HOF.out.mono ?_
    rintro e w1 ⟨rfl, hb1⟩
    go_wp2_with fail
    go_ret
    exact ⟨congrArg (fun s => Ending.returned (.string s)) (ByteArray.ext (by rw [HE.out]; simp)), hb1⟩
  · have HE : Hid (out = TA.word 2 ++ [32] ++ ar) := by show _ = _; rw [HOUT.out]; rfl
    go_enter Tryz.func46, Tryz.ntmps46
    go_wp2_with fail
    refine (HWD.out _ HWO.out).mono ?_
    rintro e w' ⟨rfl, rfl⟩
    change (TA.word 2).length ≤ 8 at hwl
    rw [show wordT ((2 : Nat) : Int) = TA.word 2 from rfl]
    generalize TA.word 2 = wd at *
    go_wp2_with fail
    refine HAW.out.mono ?_
    rintro e w1 ⟨rfl, hb1⟩
    go_wp2_with fail
    go_ret
    exact ⟨congrArg (fun s => Ending.returned (.string s)) (ByteArray.ext (by rw [HE.out]; simp)), hb1⟩
  · have HE : Hid (out = TA.word 16 ++ [32] ++ ar) := by show _ = _; rw [HOUT.out]; rfl
    go_enter Tryz.func46, Tryz.ntmps46
    go_wp2_with fail
    refine (HWD.out _ HWO.out).mono ?_
    rintro e w' ⟨rfl, rfl⟩
    change (TA.word 16).length ≤ 8 at hwl
    rw [show wordT ((16 : Nat) : Int) = TA.word 16 from rfl]
    generalize TA.word 16 = wd at *
    go_wp2_with fail
    refine HAW.out.mono ?_
    rintro e w1 ⟨rfl, hb1⟩
    go_wp2_with fail
    go_ret
    exact ⟨congrArg (fun s => Ending.returned (.string s)) (ByteArray.ext (by rw [HE.out]; simp)), hb1⟩
  · have HE : Hid (out = [107, 101, 121, 32] ++ nm ++ [32] ++ ar) := by show _ = _; rw [HOUT.out]; rfl
    have cs : ∀ p : InC S, p.w.cell? ⟨b, 2, none⟩ = some (.string ⟨nm.toArray⟩) := fun p => by
      have hb := (HS.out p.w).1 p.h
      exact (hb.cell (p := ⟨b, 2, none⟩) (World.block_lt_of_cell? w _ c2)).trans c2
    have hS0 : S w.drew := (HS.out _).2 (Below.refl _ _).drew
    have hne : Nonempty (InC S) := ⟨⟨_, hS0⟩⟩
    clear c1 c2 c3 c4 c5 c6
    go_enter Tryz.func46, Tryz.ntmps46
    go_wp2_with fail
    clear c0
    refine wp_region_class S (by kernel_rfl) (by kernel_rfl) hS0 ?_
    repeat (go_big_quiet_step (first | (with_reducible exact HA.out _)))
    refine wpQuiet_nil ?_
    intro p
    have hb := (HS.out p.w).1 p.h
    go_wp2
    go_ret
    exact ⟨congrArg (fun s => Ending.returned (.string s)) (ByteArray.ext (by rw [HE.out]; simp)), hb⟩
  · have HE : Hid (out = [99, 111, 110, 115, 116, 32] ++ ar ++ [32] ++ qt ++ [32] ++ qb) := by show _ = _; rw [HOUT.out]; rfl
    have cs : ∀ p : InC S, p.w.cell? ⟨b, 4, none⟩ = some (.string ⟨tx.toArray⟩) ∧ p.w.cell? ⟨b, 5, none⟩ = some (.string ⟨bk.toArray⟩) := fun p => by
      have hb := (HS.out p.w).1 p.h
      exact ⟨(hb.cell (p := ⟨b, 4, none⟩) (World.block_lt_of_cell? w _ c4)).trans c4, (hb.cell (p := ⟨b, 5, none⟩) (World.block_lt_of_cell? w _ c5)).trans c5⟩
    have hS0 : S w.drew := (HS.out _).2 (Below.refl _ _).drew
    have hne : Nonempty (InC S) := ⟨⟨_, hS0⟩⟩
    clear c1 c2 c3 c4 c5 c6
    go_enter Tryz.func46, Tryz.ntmps46
    go_wp2_with fail
    clear c0
    refine wp_region_class S (by kernel_rfl) (by kernel_rfl) hS0 ?_
    repeat (go_big_quiet_step (first | (with_reducible exact HA.out _) | (with_reducible exact HQT.out _) | (with_reducible exact HQB.out _)))
    refine wpQuiet_nil ?_
    intro p
    have hb := (HS.out p.w).1 p.h
    go_wp2
    go_ret
    exact ⟨congrArg (fun s => Ending.returned (.string s)) (ByteArray.ext (by rw [HE.out]; simp)), hb⟩
  · have HE : Hid (out = [100, 101, 108, 32] ++ ar ++ [32] ++ qb) := by show _ = _; rw [HOUT.out]; rfl
    have cs : ∀ p : InC S, p.w.cell? ⟨b, 5, none⟩ = some (.string ⟨bk.toArray⟩) := fun p => by
      have hb := (HS.out p.w).1 p.h
      exact (hb.cell (p := ⟨b, 5, none⟩) (World.block_lt_of_cell? w _ c5)).trans c5
    have hS0 : S w.drew := (HS.out _).2 (Below.refl _ _).drew
    have hne : Nonempty (InC S) := ⟨⟨_, hS0⟩⟩
    clear c1 c2 c3 c4 c5 c6
    go_enter Tryz.func46, Tryz.ntmps46
    go_wp2_with fail
    clear c0
    refine wp_region_class S (by kernel_rfl) (by kernel_rfl) hS0 ?_
    repeat (go_big_quiet_step (first | (with_reducible exact HA.out _) | (with_reducible exact HQB.out _)))
    refine wpQuiet_nil ?_
    intro p
    have hb := (HS.out p.w).1 p.h
    go_wp2
    go_ret
    exact ⟨congrArg (fun s => Ending.returned (.string s)) (ByteArray.ext (by rw [HE.out]; simp)), hb⟩
  · have HE : Hid (out = [110, 111, 114, 109, 32] ++ ar ++ [32] ++ qt) := by show _ = _; rw [HOUT.out]; rfl
    have cs : ∀ p : InC S, p.w.cell? ⟨b, 4, none⟩ = some (.string ⟨tx.toArray⟩) := fun p => by
      have hb := (HS.out p.w).1 p.h
      exact (hb.cell (p := ⟨b, 4, none⟩) (World.block_lt_of_cell? w _ c4)).trans c4
    have hS0 : S w.drew := (HS.out _).2 (Below.refl _ _).drew
    have hne : Nonempty (InC S) := ⟨⟨_, hS0⟩⟩
    clear c1 c2 c3 c4 c5 c6
    go_enter Tryz.func46, Tryz.ntmps46
    go_wp2_with fail
    clear c0
    refine wp_region_class S (by kernel_rfl) (by kernel_rfl) hS0 ?_
    repeat (go_big_quiet_step (first | (with_reducible exact HA.out _) | (with_reducible exact HQT.out _)))
    refine wpQuiet_nil ?_
    intro p
    have hb := (HS.out p.w).1 p.h
    go_wp2
    go_ret
    exact ⟨congrArg (fun s => Ending.returned (.string s)) (ByteArray.ext (by rw [HE.out]; simp)), hb⟩
  · have HE : Hid (out = [105, 110, 115, 32] ++ qt) := by show _ = _; rw [HOUT.out]; rfl
    go_enter Tryz.func46, Tryz.ntmps46
    go_wp2_with fail
    refine HQW.out.mono ?_
    rintro e w1 ⟨rfl, hb1⟩
    go_wp2_with fail
    go_ret
    exact ⟨congrArg (fun s => Ending.returned (.string s)) (ByteArray.ext (by rw [HE.out]; simp)), hb1⟩
  · have HE : Hid (out = TA.pair [32, 124, 32] 0 ks) := by show _ = _; rw [HOUT.out]; rfl
    go_enter Tryz.func46, Tryz.ntmps46
    go_wp2_with fail
    refine HP0.out.mono ?_
    rintro e w1 ⟨rfl, hb1⟩
    go_wp2_with fail
    go_ret
    exact ⟨congrArg (fun s => Ending.returned (.string s)) (ByteArray.ext (by rw [HE.out])), hb1⟩
  · have HE : Hid (out = TA.pair [32, 46, 32] 1 ks) := by show _ = _; rw [HOUT.out]; rfl
    go_enter Tryz.func46, Tryz.ntmps46
    go_wp2_with fail
    refine HP1.out.mono ?_
    rintro e w1 ⟨rfl, hb1⟩
    go_wp2_with fail
    go_ret
    exact ⟨congrArg (fun s => Ending.returned (.string s)) (ByteArray.ext (by rw [HE.out])), hb1⟩
  · have HE : Hid (out = TA.pair [32, 59, 32] 2 ks) := by show _ = _; rw [HOUT.out]; rfl
    go_enter Tryz.func46, Tryz.ntmps46
    go_wp2_with fail
    refine HP2.out.mono ?_
    rintro e w1 ⟨rfl, hb1⟩
    go_wp2_with fail
    go_ret
    exact ⟨congrArg (fun s => Ending.returned (.string s)) (ByteArray.ext (by rw [HE.out])), hb1⟩
  · -- star
    by_cases h1 : ks.length = 1
    · obtain ⟨k, rfl⟩ : ∃ k, ks = [k] := List.length_eq_one_iff.1 h1
      obtain ⟨kb, ko, rfl, hc⟩ := HROW.out.at (by simp)
      have hp : w.cell? ⟨kb, ko, none⟩ = some (.pointer (some ⟨k.b, 0, none⟩)) := by have := hc 0 (by simp); simpa using this
      have hkw2 : k.wt ≤ 1099511627776 := by simp only [TA.wts] at hwk; omega
      have HI := Lib.hid (tmin_any k 3 (by omega) (HKO.out k (by simp)) hkw2 w (HKT.out k (by simp)) fun W hb => HSS.out k (by simp) W hb)
      have HE : Hid (out = TA.inn 3 k ++ [42]) := by show _ = _; rw [HOUT.out]; rfl
      have hlx : (TA.inn 3 k).length ≤ k.wt := by have := k.str_len; unfold TA.inn; split <;> (try simp only [List.length_append, List.length_cons, List.length_nil]) <;> omega
      generalize TA.inn 3 k = l0 at *
      generalize k.b = b0 at *
      generalize k.wt = wk at *
      clear hc h1
      go_enter Tryz.func46, Tryz.ntmps46
      go_wp2_with fail
      refine HI.out.mono ?_
      rintro e w1 ⟨rfl, hb1⟩
      go_wp2_with fail
      go_ret
      exact ⟨congrArg (fun s => Ending.returned (.string s)) (ByteArray.ext (by rw [HE.out]; simp)), hb1⟩
    · have HE : Hid (out = [40, 41]) := by
        show _ = _
        rw [HOUT.out]
        match ks, h1 with
        | [], _ => rfl
        | _ :: _ :: _, _ => rfl
      have h1' : ((ks.length : Int) == 1) = false := by rw [beq_eq_false_iff_ne]; omega
      clear h1
      go_enter Tryz.func46, Tryz.ntmps46
      go_wp2_with fail
      go_ret
      exact ⟨by rw [HE.out]; rfl, Below.refl _ _⟩
  · have hne := HKN.out (by omega)
    have HNE := Lib.hid hne
    have HE : Hid (out = TA.word 10 ++ [40] ++ Lib.join (ks.map TA.str) [44, 32] ++ [41]) := by show _ = _; rw [HOUT.out, ← TA.strs_map]; rfl
    obtain ⟨kb, ko, rfl, hc⟩ := HROW.out.at hne
    have HC := Lib.hid hc
    obtain ⟨i0, hi, hz0, hz1, hz2⟩ := info_parts infoStr'
    have HI := Lib.hid hi; have HZ0 := Lib.hid hz0; have HZ1 := Lib.hid hz1; have HZ2 := Lib.hid hz2
    rw [TA.strs_map] at hjl hsl
    change (TA.word 10).length ≤ 8 at hwl
    have HWE : Hid (wordT ((10 : Nat) : Int) = TA.word 10) := rfl
    generalize TA.word 10 = wd at *
    clear hne hc hi hz0 hz1 hz2
    go_enter Tryz.func46, Tryz.ntmps46
    go_wp2_with fail
    go_loopw [3, 134] (fun v i wr => PartsAt w ks v i wr) (fun _ i _ => ks.length - (intOf i).toNat)
    case atStart => exact ⟨0, by omega, rfl, OwnS.nil w⟩
    case round =>
      obtain ⟨k, hk, rfl, hW⟩ := hrel
      by_cases hlt : k < ks.length
      · have hp := HC.out k hlt
        have hkbl := World.block_lt_of_cell? w _ hp
        rw [← hW.bel.cell (p := ⟨kb, ko + k, none⟩) hkbl] at hp
        have hmem : ks.getD k TA.none ∈ ks := by simp [List.getD, hlt]
        have HCL := Lib.hid (HSS.out _ hmem wr hW.bel)
        have HNX : Hid ((ks.take (k + 1)).map TA.str = (ks.take k).map TA.str ++ [(ks.getD k TA.none).str]) := by
          show _ = _
          rw [tm_snoc ks k hlt, List.map_append]; rfl
        have hpl : ((ks.take k).map TA.str).length ≤ 1099511627776 := by simp; omega
        generalize (ks.take k).map TA.str = ps at *
        generalize (ks.getD k TA.none).str = tt at *
        generalize (ks.getD k TA.none).b = b1 at *
        have HW := Lib.hid hW
        clear hW hmem
        go_wp2_with fail
        refine HCL.out.mono ?_
        rintro e w1 ⟨rfl, hb1⟩
        have hW1 := HW.out.later hb1
        go_wp2_with (at_builtin; refine wpList_append_lies _ rfl _ _ _ rfl w.heap.size 9 i0 _ 1 16 Tryz.underlying50 HI.out HZ0.out HZ1.out HZ2.out rfl (by omega) u3 ps.length (ps.map strV) rfl (hW1.own.alloc _) ⟨w1.heap.size, 0, none⟩ 1 1 [strV tt] rfl rfl (World.news_of_block (cs := #[strV tt]) (t := 9) (fr := (0, 0)) (heap_alloc_last w1 _)) (strV_one [tt]) (by omega) (by unfold maxLen; omega) (by omega) (by have := hW1.bel.size; simp; omega) (w1.heap.size + 1) (by simp) ?_; intro g5 cp5 W9 hown9 hg9 hat9 hlt9)
        have hW9 := (hW1.later (re_alloc w1 _)).appended hown9 hg9
        rw [← HNX.out] at hW9
        have HW9 := Lib.hid hW9
        clear hW9 hown9 hg9 hat9 hW1
        go_wp2
        go_roundw
        case rel => exact ⟨k + 1, by omega, by go_num, HW9.out⟩
        case measure => simp [intOf]; omega
      · obtain rfl : k = ks.length := by omega
        rw [List.take_length] at hW
        have HJ := Lib.hid (hW.join (by simpa using HNE.out) [44, 32] (by simp; omega) (by omega))
        have HB := Lib.hid hW.bel
        have c0' : wr.cell? ⟨b, 0, none⟩ = some (.int .i64 (10 : Nat)) := (hW.bel.cell (p := ⟨b, 0, none⟩) (World.block_lt_of_cell? w _ c0)).trans c0
        have HWW := Lib.hid (HWD.out wr (HWO.out.later hW.bel))
        clear hW
        generalize Lib.join (ks.map TA.str) [44, 32] = jo at *
        go_wp2_with fail
        refine HWW.out.mono ?_
        rintro e w' ⟨rfl, rfl⟩
        rw [HWE.out]
        go_wp2_with fail
        refine HJ.out.mono ?_
        rintro e w1 ⟨rfl, hb1⟩
        go_wp2_with fail
        go_ret
        exact ⟨congrArg (fun s => Ending.returned (.string s)) (ByteArray.ext (by rw [HE.out]; simp)), ext_step HB.out hb1⟩
  · have hne := HKN.out (by omega)
    have HNE := Lib.hid hne
    have HE : Hid (out = TA.word 12 ++ [40] ++ Lib.join (ks.map TA.str) [44, 32] ++ [41]) := by show _ = _; rw [HOUT.out, ← TA.strs_map]; rfl
    obtain ⟨kb, ko, rfl, hc⟩ := HROW.out.at hne
    have HC := Lib.hid hc
    obtain ⟨i0, hi, hz0, hz1, hz2⟩ := info_parts infoStr'
    have HI := Lib.hid hi; have HZ0 := Lib.hid hz0; have HZ1 := Lib.hid hz1; have HZ2 := Lib.hid hz2
    rw [TA.strs_map] at hjl hsl
    change (TA.word 12).length ≤ 8 at hwl
    have HWE : Hid (wordT ((12 : Nat) : Int) = TA.word 12) := rfl
    generalize TA.word 12 = wd at *
    clear hne hc hi hz0 hz1 hz2
    go_enter Tryz.func46, Tryz.ntmps46
    go_wp2_with fail
    go_loopw [3, 134] (fun v i wr => PartsAt w ks v i wr) (fun _ i _ => ks.length - (intOf i).toNat)
    case atStart => exact ⟨0, by omega, rfl, OwnS.nil w⟩
    case round =>
      obtain ⟨k, hk, rfl, hW⟩ := hrel
      by_cases hlt : k < ks.length
      · have hp := HC.out k hlt
        have hkbl := World.block_lt_of_cell? w _ hp
        rw [← hW.bel.cell (p := ⟨kb, ko + k, none⟩) hkbl] at hp
        have hmem : ks.getD k TA.none ∈ ks := by simp [List.getD, hlt]
        have HCL := Lib.hid (HSS.out _ hmem wr hW.bel)
        have HNX : Hid ((ks.take (k + 1)).map TA.str = (ks.take k).map TA.str ++ [(ks.getD k TA.none).str]) := by
          show _ = _
          rw [tm_snoc ks k hlt, List.map_append]; rfl
        have hpl : ((ks.take k).map TA.str).length ≤ 1099511627776 := by simp; omega
        generalize (ks.take k).map TA.str = ps at *
        generalize (ks.getD k TA.none).str = tt at *
        generalize (ks.getD k TA.none).b = b1 at *
        have HW := Lib.hid hW
        clear hW hmem
        go_wp2_with fail
        refine HCL.out.mono ?_
        rintro e w1 ⟨rfl, hb1⟩
        have hW1 := HW.out.later hb1
        go_wp2_with (at_builtin; refine wpList_append_lies _ rfl _ _ _ rfl w.heap.size 9 i0 _ 1 16 Tryz.underlying50 HI.out HZ0.out HZ1.out HZ2.out rfl (by omega) u3 ps.length (ps.map strV) rfl (hW1.own.alloc _) ⟨w1.heap.size, 0, none⟩ 1 1 [strV tt] rfl rfl (World.news_of_block (cs := #[strV tt]) (t := 9) (fr := (0, 0)) (heap_alloc_last w1 _)) (strV_one [tt]) (by omega) (by unfold maxLen; omega) (by omega) (by have := hW1.bel.size; simp; omega) (w1.heap.size + 1) (by simp) ?_; intro g5 cp5 W9 hown9 hg9 hat9 hlt9)
        have hW9 := (hW1.later (re_alloc w1 _)).appended hown9 hg9
        rw [← HNX.out] at hW9
        have HW9 := Lib.hid hW9
        clear hW9 hown9 hg9 hat9 hW1
        go_wp2
        go_roundw
        case rel => exact ⟨k + 1, by omega, by go_num, HW9.out⟩
        case measure => simp [intOf]; omega
      · obtain rfl : k = ks.length := by omega
        rw [List.take_length] at hW
        have HJ := Lib.hid (hW.join (by simpa using HNE.out) [44, 32] (by simp; omega) (by omega))
        have HB := Lib.hid hW.bel
        have c0' : wr.cell? ⟨b, 0, none⟩ = some (.int .i64 (12 : Nat)) := (hW.bel.cell (p := ⟨b, 0, none⟩) (World.block_lt_of_cell? w _ c0)).trans c0
        have HWW := Lib.hid (HWD.out wr (HWO.out.later hW.bel))
        clear hW
        generalize Lib.join (ks.map TA.str) [44, 32] = jo at *
        go_wp2_with fail
        refine HWW.out.mono ?_
        rintro e w' ⟨rfl, rfl⟩
        rw [HWE.out]
        go_wp2_with fail
        refine HJ.out.mono ?_
        rintro e w1 ⟨rfl, hb1⟩
        go_wp2_with fail
        go_ret
        exact ⟨congrArg (fun s => Ending.returned (.string s)) (ByteArray.ext (by rw [HE.out]; simp)), ext_step HB.out hb1⟩
  · have hne := HKN.out (by omega)
    have HNE := Lib.hid hne
    have HE : Hid (out = TA.word 13 ++ [40] ++ Lib.join (ks.map TA.str) [44, 32] ++ [41]) := by show _ = _; rw [HOUT.out, ← TA.strs_map]; rfl
    obtain ⟨kb, ko, rfl, hc⟩ := HROW.out.at hne
    have HC := Lib.hid hc
    obtain ⟨i0, hi, hz0, hz1, hz2⟩ := info_parts infoStr'
    have HI := Lib.hid hi; have HZ0 := Lib.hid hz0; have HZ1 := Lib.hid hz1; have HZ2 := Lib.hid hz2
    rw [TA.strs_map] at hjl hsl
    change (TA.word 13).length ≤ 8 at hwl
    have HWE : Hid (wordT ((13 : Nat) : Int) = TA.word 13) := rfl
    generalize TA.word 13 = wd at *
    clear hne hc hi hz0 hz1 hz2
    go_enter Tryz.func46, Tryz.ntmps46
    go_wp2_with fail
    go_loopw [3, 134] (fun v i wr => PartsAt w ks v i wr) (fun _ i _ => ks.length - (intOf i).toNat)
    case atStart => exact ⟨0, by omega, rfl, OwnS.nil w⟩
    case round =>
      obtain ⟨k, hk, rfl, hW⟩ := hrel
      by_cases hlt : k < ks.length
      · have hp := HC.out k hlt
        have hkbl := World.block_lt_of_cell? w _ hp
        rw [← hW.bel.cell (p := ⟨kb, ko + k, none⟩) hkbl] at hp
        have hmem : ks.getD k TA.none ∈ ks := by simp [List.getD, hlt]
        have HCL := Lib.hid (HSS.out _ hmem wr hW.bel)
        have HNX : Hid ((ks.take (k + 1)).map TA.str = (ks.take k).map TA.str ++ [(ks.getD k TA.none).str]) := by
          show _ = _
          rw [tm_snoc ks k hlt, List.map_append]; rfl
        have hpl : ((ks.take k).map TA.str).length ≤ 1099511627776 := by simp; omega
        generalize (ks.take k).map TA.str = ps at *
        generalize (ks.getD k TA.none).str = tt at *
        generalize (ks.getD k TA.none).b = b1 at *
        have HW := Lib.hid hW
        clear hW hmem
        go_wp2_with fail
        refine HCL.out.mono ?_
        rintro e w1 ⟨rfl, hb1⟩
        have hW1 := HW.out.later hb1
        go_wp2_with (at_builtin; refine wpList_append_lies _ rfl _ _ _ rfl w.heap.size 9 i0 _ 1 16 Tryz.underlying50 HI.out HZ0.out HZ1.out HZ2.out rfl (by omega) u3 ps.length (ps.map strV) rfl (hW1.own.alloc _) ⟨w1.heap.size, 0, none⟩ 1 1 [strV tt] rfl rfl (World.news_of_block (cs := #[strV tt]) (t := 9) (fr := (0, 0)) (heap_alloc_last w1 _)) (strV_one [tt]) (by omega) (by unfold maxLen; omega) (by omega) (by have := hW1.bel.size; simp; omega) (w1.heap.size + 1) (by simp) ?_; intro g5 cp5 W9 hown9 hg9 hat9 hlt9)
        have hW9 := (hW1.later (re_alloc w1 _)).appended hown9 hg9
        rw [← HNX.out] at hW9
        have HW9 := Lib.hid hW9
        clear hW9 hown9 hg9 hat9 hW1
        go_wp2
        go_roundw
        case rel => exact ⟨k + 1, by omega, by go_num, HW9.out⟩
        case measure => simp [intOf]; omega
      · obtain rfl : k = ks.length := by omega
        rw [List.take_length] at hW
        have HJ := Lib.hid (hW.join (by simpa using HNE.out) [44, 32] (by simp; omega) (by omega))
        have HB := Lib.hid hW.bel
        have c0' : wr.cell? ⟨b, 0, none⟩ = some (.int .i64 (13 : Nat)) := (hW.bel.cell (p := ⟨b, 0, none⟩) (World.block_lt_of_cell? w _ c0)).trans c0
        have HWW := Lib.hid (HWD.out wr (HWO.out.later hW.bel))
        clear hW
        generalize Lib.join (ks.map TA.str) [44, 32] = jo at *
        go_wp2_with fail
        refine HWW.out.mono ?_
        rintro e w' ⟨rfl, rfl⟩
        rw [HWE.out]
        go_wp2_with fail
        refine HJ.out.mono ?_
        rintro e w1 ⟨rfl, hb1⟩
        go_wp2_with fail
        go_ret
        exact ⟨congrArg (fun s => Ending.returned (.string s)) (ByteArray.ext (by rw [HE.out]; simp)), ext_step HB.out hb1⟩
  · have hne := HKN.out (by omega)
    have HNE := Lib.hid hne
    have HE : Hid (out = TA.word 14 ++ [40] ++ Lib.join (ks.map TA.str) [44, 32] ++ [41]) := by show _ = _; rw [HOUT.out, ← TA.strs_map]; rfl
    obtain ⟨kb, ko, rfl, hc⟩ := HROW.out.at hne
    have HC := Lib.hid hc
    obtain ⟨i0, hi, hz0, hz1, hz2⟩ := info_parts infoStr'
    have HI := Lib.hid hi; have HZ0 := Lib.hid hz0; have HZ1 := Lib.hid hz1; have HZ2 := Lib.hid hz2
    rw [TA.strs_map] at hjl hsl
    change (TA.word 14).length ≤ 8 at hwl
    have HWE : Hid (wordT ((14 : Nat) : Int) = TA.word 14) := rfl
    generalize TA.word 14 = wd at *
    clear hne hc hi hz0 hz1 hz2
    go_enter Tryz.func46, Tryz.ntmps46
    go_wp2_with fail
    go_loopw [3, 134] (fun v i wr => PartsAt w ks v i wr) (fun _ i _ => ks.length - (intOf i).toNat)
    case atStart => exact ⟨0, by omega, rfl, OwnS.nil w⟩
    case round =>
      obtain ⟨k, hk, rfl, hW⟩ := hrel
      by_cases hlt : k < ks.length
      · have hp := HC.out k hlt
        have hkbl := World.block_lt_of_cell? w _ hp
        rw [← hW.bel.cell (p := ⟨kb, ko + k, none⟩) hkbl] at hp
        have hmem : ks.getD k TA.none ∈ ks := by simp [List.getD, hlt]
        have HCL := Lib.hid (HSS.out _ hmem wr hW.bel)
        have HNX : Hid ((ks.take (k + 1)).map TA.str = (ks.take k).map TA.str ++ [(ks.getD k TA.none).str]) := by
          show _ = _
          rw [tm_snoc ks k hlt, List.map_append]; rfl
        have hpl : ((ks.take k).map TA.str).length ≤ 1099511627776 := by simp; omega
        generalize (ks.take k).map TA.str = ps at *
        generalize (ks.getD k TA.none).str = tt at *
        generalize (ks.getD k TA.none).b = b1 at *
        have HW := Lib.hid hW
        clear hW hmem
        go_wp2_with fail
        refine HCL.out.mono ?_
        rintro e w1 ⟨rfl, hb1⟩
        have hW1 := HW.out.later hb1
        go_wp2_with (at_builtin; refine wpList_append_lies _ rfl _ _ _ rfl w.heap.size 9 i0 _ 1 16 Tryz.underlying50 HI.out HZ0.out HZ1.out HZ2.out rfl (by omega) u3 ps.length (ps.map strV) rfl (hW1.own.alloc _) ⟨w1.heap.size, 0, none⟩ 1 1 [strV tt] rfl rfl (World.news_of_block (cs := #[strV tt]) (t := 9) (fr := (0, 0)) (heap_alloc_last w1 _)) (strV_one [tt]) (by omega) (by unfold maxLen; omega) (by omega) (by have := hW1.bel.size; simp; omega) (w1.heap.size + 1) (by simp) ?_; intro g5 cp5 W9 hown9 hg9 hat9 hlt9)
        have hW9 := (hW1.later (re_alloc w1 _)).appended hown9 hg9
        rw [← HNX.out] at hW9
        have HW9 := Lib.hid hW9
        clear hW9 hown9 hg9 hat9 hW1
        go_wp2
        go_roundw
        case rel => exact ⟨k + 1, by omega, by go_num, HW9.out⟩
        case measure => simp [intOf]; omega
      · obtain rfl : k = ks.length := by omega
        rw [List.take_length] at hW
        have HJ := Lib.hid (hW.join (by simpa using HNE.out) [44, 32] (by simp; omega) (by omega))
        have HB := Lib.hid hW.bel
        have c0' : wr.cell? ⟨b, 0, none⟩ = some (.int .i64 (14 : Nat)) := (hW.bel.cell (p := ⟨b, 0, none⟩) (World.block_lt_of_cell? w _ c0)).trans c0
        have HWW := Lib.hid (HWD.out wr (HWO.out.later hW.bel))
        clear hW
        generalize Lib.join (ks.map TA.str) [44, 32] = jo at *
        go_wp2_with fail
        refine HWW.out.mono ?_
        rintro e w' ⟨rfl, rfl⟩
        rw [HWE.out]
        go_wp2_with fail
        refine HJ.out.mono ?_
        rintro e w1 ⟨rfl, hb1⟩
        go_wp2_with fail
        go_ret
        exact ⟨congrArg (fun s => Ending.returned (.string s)) (ByteArray.ext (by rw [HE.out]; simp)), ext_step HB.out hb1⟩
  · have hne := HKN.out (by omega)
    have HNE := Lib.hid hne
    have HE : Hid (out = TA.word 15 ++ [40] ++ Lib.join (ks.map TA.str) [44, 32] ++ [41]) := by show _ = _; rw [HOUT.out, ← TA.strs_map]; rfl
    obtain ⟨kb, ko, rfl, hc⟩ := HROW.out.at hne
    have HC := Lib.hid hc
    obtain ⟨i0, hi, hz0, hz1, hz2⟩ := info_parts infoStr'
    have HI := Lib.hid hi; have HZ0 := Lib.hid hz0; have HZ1 := Lib.hid hz1; have HZ2 := Lib.hid hz2
    rw [TA.strs_map] at hjl hsl
    change (TA.word 15).length ≤ 8 at hwl
    have HWE : Hid (wordT ((15 : Nat) : Int) = TA.word 15) := rfl
    generalize TA.word 15 = wd at *
    clear hne hc hi hz0 hz1 hz2
    go_enter Tryz.func46, Tryz.ntmps46
    go_wp2_with fail
    go_loopw [3, 134] (fun v i wr => PartsAt w ks v i wr) (fun _ i _ => ks.length - (intOf i).toNat)
    case atStart => exact ⟨0, by omega, rfl, OwnS.nil w⟩
    case round =>
      obtain ⟨k, hk, rfl, hW⟩ := hrel
      by_cases hlt : k < ks.length
      · have hp := HC.out k hlt
        have hkbl := World.block_lt_of_cell? w _ hp
        rw [← hW.bel.cell (p := ⟨kb, ko + k, none⟩) hkbl] at hp
        have hmem : ks.getD k TA.none ∈ ks := by simp [List.getD, hlt]
        have HCL := Lib.hid (HSS.out _ hmem wr hW.bel)
        have HNX : Hid ((ks.take (k + 1)).map TA.str = (ks.take k).map TA.str ++ [(ks.getD k TA.none).str]) := by
          show _ = _
          rw [tm_snoc ks k hlt, List.map_append]; rfl
        have hpl : ((ks.take k).map TA.str).length ≤ 1099511627776 := by simp; omega
        generalize (ks.take k).map TA.str = ps at *
        generalize (ks.getD k TA.none).str = tt at *
        generalize (ks.getD k TA.none).b = b1 at *
        have HW := Lib.hid hW
        clear hW hmem
        go_wp2_with fail
        refine HCL.out.mono ?_
        rintro e w1 ⟨rfl, hb1⟩
        have hW1 := HW.out.later hb1
        go_wp2_with (at_builtin; refine wpList_append_lies _ rfl _ _ _ rfl w.heap.size 9 i0 _ 1 16 Tryz.underlying50 HI.out HZ0.out HZ1.out HZ2.out rfl (by omega) u3 ps.length (ps.map strV) rfl (hW1.own.alloc _) ⟨w1.heap.size, 0, none⟩ 1 1 [strV tt] rfl rfl (World.news_of_block (cs := #[strV tt]) (t := 9) (fr := (0, 0)) (heap_alloc_last w1 _)) (strV_one [tt]) (by omega) (by unfold maxLen; omega) (by omega) (by have := hW1.bel.size; simp; omega) (w1.heap.size + 1) (by simp) ?_; intro g5 cp5 W9 hown9 hg9 hat9 hlt9)
        have hW9 := (hW1.later (re_alloc w1 _)).appended hown9 hg9
        rw [← HNX.out] at hW9
        have HW9 := Lib.hid hW9
        clear hW9 hown9 hg9 hat9 hW1
        go_wp2
        go_roundw
        case rel => exact ⟨k + 1, by omega, by go_num, HW9.out⟩
        case measure => simp [intOf]; omega
      · obtain rfl : k = ks.length := by omega
        rw [List.take_length] at hW
        have HJ := Lib.hid (hW.join (by simpa using HNE.out) [44, 32] (by simp; omega) (by omega))
        have HB := Lib.hid hW.bel
        have c0' : wr.cell? ⟨b, 0, none⟩ = some (.int .i64 (15 : Nat)) := (hW.bel.cell (p := ⟨b, 0, none⟩) (World.block_lt_of_cell? w _ c0)).trans c0
        have HWW := Lib.hid (HWD.out wr (HWO.out.later hW.bel))
        clear hW
        generalize Lib.join (ks.map TA.str) [44, 32] = jo at *
        go_wp2_with fail
        refine HWW.out.mono ?_
        rintro e w' ⟨rfl, rfl⟩
        rw [HWE.out]
        go_wp2_with fail
        refine HJ.out.mono ?_
        rintro e w1 ⟨rfl, hb1⟩
        go_wp2_with fail
        go_ret
        exact ⟨congrArg (fun s => Ending.returned (.string s)) (ByteArray.ext (by rw [HE.out]; simp)), ext_step HB.out hb1⟩
end Go.Proofs.YtgamknphlmcgnaaGreatDoor
namespace Go.Proofs.YtgamknphlmcgnaaGreatDoor
open Go.RowKit
variable {w W W' : World} {p : PL} {sv rv kv : Value} {b o : Nat} {nm tx bk : List UInt8}
end Go.Proofs.YtgamknphlmcgnaaGreatDoor
end
section
set_option linter.unusedSimpArgs false
set_option linter.unusedVariables false
set_option maxRecDepth 100000
set_option linter.unnecessarySimpa false
namespace Go.Proofs.YtgamknphlmcgnaaGreatDoor
open Go.RowKit
theorem TA.kid_size {t k : TA} (h : k ∈ t.kids) : k.size < t.size := by have := TA.mem_sizes h; rw [t.size_eq]; omega
theorem TA.kid_wt {t k : TA} (h : k ∈ t.kids) : k.wt ≤ t.wt := by have := TA.mem_wts h; rw [t.wt_eq]; omega
theorem tmString_any : ∀ (n : Nat) (t : TA), t.size ≤ n → t.ok → t.wt ≤ 1099511627776 → ∀ (w : World), Tab w → WordsAt w → IsTa w t → Calls Tryz.prog 46 #[ptr t.b] w (StrPost t.str w)
  | 0, t, hn, _, _, _, _, _, _ => by have := t.size_eq; omega
  | n + 1, t, hn, hok, hwt, w, hT, hWo, ht => tmString_step t hok hwt w hT hWo ht fun k hk W hb =>
    tmString_any n k (by have := TA.kid_size hk; omega) (TA.ok_kids hok k hk) (by have := TA.kid_wt hk; omega) W (hT.later hb) (hWo.later hb) (IsTa.later hb k (ht.open.2 k hk))
namespace TA
/-- a term as it may be made -/
def madeTop (o : Nat) (ks : List TA) : Prop :=
  2 ≤ o ∧ o < 18 ∧ (o = 2 ∨ o = 16 ∨ o = 3 ∨ o = 4 ∨ o = 5 ∨ o = 17 → ks = []) ∧ (o = 7 ∨ o = 8 ∨ o = 11 ∨ o = 10 ∨ o = 14 ∨ o = 15 → ∃ x y, ks = [x, y]) ∧ (o = 9 ∨ o = 12 ∨ o = 13 → ∃ x, ks = [x])
mutual
def made : TA → Prop | node _ o _ _ _ _ _ ks => madeTop o ks ∧ mades ks
def mades : List TA → Prop | [] => True | k :: ks => made k ∧ mades ks
end
end TA
end Go.Proofs.YtgamknphlmcgnaaGreatDoor
end
section
set_option linter.unusedSimpArgs false
set_option linter.unusedVariables false
set_option maxRecDepth 100000
set_option linter.unnecessarySimpa false
namespace Go.Proofs.YtgamknphlmcgnaaGreatDoor
namespace TA
/-- does a kid stand in parentheses? -/
def wrapB (o i ko : Nat) : Bool := if o = 7 ∨ o = 8 ∨ o = 11 then decide (lvl ko < lvl o + i) else if o = 9 then decide (lvl ko < lvl o) else decide (o = 10 ∨ o = 12 ∨ o = 13 ∨ o = 14 ∨ o = 15)
mutual
/-- how deep parentheses lie in one another -/
def nest : TA → Nat | node _ o _ _ _ _ _ ks => nestG o 0 ks 0
def nestG (o i : Nat) : List TA → Nat → Nat
  | [], m => m
  | k :: ks, m => nestG o (i + 1) ks (max m (nest k + if wrapB o i k.op then 1 else 0))
end
mutual
/-- a term without its places -/
def bare : TA → TA | node _ o _ n r t k ks => node 0 o 0 n r t k (bares ks)
def bares : List TA → List TA | [] => [] | k :: ks => bare k :: bares ks
end
theorem bares_map (l : List TA) : bares l = l.map bare := by induction l with | nil => rfl | cons a l ih => simp [bares, ih]
theorem op_bare (t : TA) : (bare t).op = t.op := by cases t; rfl
end TA
end Go.Proofs.YtgamknphlmcgnaaGreatDoor
end
section
set_option linter.unusedSimpArgs false
set_option linter.unusedVariables false
set_option maxRecDepth 100000
set_option linter.unnecessarySimpa false
namespace Go.Proofs.YtgamknphlmcgnaaGreatDoor
namespace TA
theorem zeros_map (l : List TA) : zeros l = l.map zero := by induction l with | nil => rfl | cons a l ih => simp [zeros, ih]
theorem zero_op (t : TA) : t.zero.op = t.op := by cases t; rfl
mutual
theorem str_zero : (t : TA) → str (zero t) = str t
  | node _ o _ n r t k ks => by
    rw [zero, str, str, arg_zeros, pair_zeros, pair_zeros, pair_zeros, star_zeros, strs_zeros]
theorem arg_zeros (r : Option RE) : (l : List TA) → arg r (zeros l) = arg r l
  | [] => rfl
  | [k] => by simp only [zeros, arg]; exact str_zero k
  | _ :: _ :: _ => rfl
theorem pair_zeros (s : List UInt8) (n : Nat) : (l : List TA) → pair s n (zeros l) = pair s n l
  | [] => rfl
  | [_] => rfl
  | [x, y] => by simp only [zeros, pair, zero_op]; rw [str_zero x, str_zero y]
  | _ :: _ :: _ :: _ => rfl
theorem star_zeros : (l : List TA) → star (zeros l) = star l
  | [] => rfl
  | [k] => by simp only [zeros, star, zero_op]; rw [str_zero k]
  | _ :: _ :: _ => rfl
theorem strs_zeros : (l : List TA) → strs (zeros l) = strs l
  | [] => rfl
  | k :: l => by simp only [zeros, strs]; rw [str_zero k, strs_zeros l]
end
mutual
theorem size_zero : (t : TA) → size (zero t) = size t
  | node _ _ _ _ _ _ _ ks => by simp only [zero, size]; rw [sizes_zeros ks]
theorem sizes_zeros : (l : List TA) → sizes (zeros l) = sizes l
  | [] => rfl
  | k :: l => by simp only [zeros, sizes]; rw [size_zero k, sizes_zeros l]
end
mutual
theorem wt_zero : (t : TA) → wt (zero t) = wt t
  | node _ _ _ _ _ _ _ ks => by simp only [zero, wt]; rw [wts_zeros ks]
theorem wts_zeros : (l : List TA) → wts (zeros l) = wts l
  | [] => rfl
  | k :: l => by simp only [zeros, wts]; rw [wt_zero k, wts_zeros l]
end
theorem zeros_nil {l : List TA} : zeros l ≠ [] ↔ l ≠ [] := by cases l <;> simp [zeros]
mutual
theorem ok_zero : (t : TA) → (ok (zero t) ↔ ok t)
  | node _ _ _ _ _ _ _ ks => by simp only [zero, ok]; rw [zeros_nil, oks_zeros ks]
theorem oks_zeros : (l : List TA) → (oks (zeros l) ↔ oks l)
  | [] => Iff.rfl
  | k :: l => by simp only [zeros, oks]; rw [ok_zero k, oks_zeros l]
end
end TA
end Go.Proofs.YtgamknphlmcgnaaGreatDoor
end
section
set_option linter.unusedSimpArgs false
set_option linter.unusedVariables false
set_option maxRecDepth 100000
set_option linter.unnecessarySimpa false
namespace Go.Proofs.YtgamknphlmcgnaaGreatDoor
namespace LX
/-- from a place on, those tokens -/
inductive Lexes : Nat → List UInt8 → List LT → Prop
  | fin (p : Nat) : Lexes p [] [⟨0, [], none, p⟩]
  | gap (p : Nat) (c : UInt8) (r : List UInt8) (ts : List LT) (hc : c = 32 ∨ c = 9 ∨ c = 10 ∨ c = 13) (h : Lexes (p + 1) r ts) : Lexes p (c :: r) ts
  | rem (p : Nat) (m r : List UInt8) (ts : List LT) (hm : ∀ c ∈ m, c ≠ 10) (h : Lexes (p + (m.length + 2)) r ts) : Lexes p (35 :: (m ++ 10 :: r)) ts
  | name (p : Nat) (b : UInt8) (n r : List UInt8) (ts : List LT) (h1 : letter b true = true) (h2 : ∀ c ∈ n, letter c false = true) (h3 : n.length < 30) (h4 : ∀ c, r.head? = some c → letter c false = false) (h : Lexes (p + (n.length + 1)) r ts) : Lexes p (b :: (n ++ r)) (⟨1, b :: n, none, p⟩ :: ts)
  | sign (p : Nat) (c : UInt8) (r : List UInt8) (ts : List LT) (hc : signs.contains c = true) (h : Lexes (p + 1) r ts) : Lexes p (c :: r) (⟨2, [c], none, p⟩ :: ts)
  | text (p : Nat) (q r out : List UInt8) (ts : List LT) (h1 : untilN 34 (q ++ 34 :: r) = some q.length) (h2 : ∀ i, qGo (q.length + 1) q i [] = (out, none)) (h : Lexes (p + (q.length + 2)) r ts) : Lexes p (34 :: (q ++ 34 :: r)) (⟨3, out, none, p⟩ :: ts)
  | expr (p : Nat) (e r : List UInt8) (x : RE) (ts : List LT) (h1 : untilN 47 (e ++ 47 :: r) = some e.length) (h2 : readW e = (some x, 0, 0)) (h : Lexes (p + (e.length + 2)) r ts) : Lexes p (47 :: (e ++ 47 :: r)) (⟨4, [], some x, p⟩ :: ts)
theorem letter_sub {b : UInt8} (h : letter b true = true) : letter b false = true := by
  unfold letter at h ⊢
  simp only [Bool.not_true, Bool.false_and, Bool.or_false] at h
  rw [h]; rfl
theorem letter_gap {b : UInt8} (h : letter b true = true) : ¬ (b = 32 ∨ b = 9 ∨ b = 10 ∨ b = 13) ∧ b ≠ 35 := by
  constructor
  · rintro (rfl | rfl | rfl | rfl) <;> revert h <;> decide
  · rintro rfl; revert h; decide
theorem nameN_eq : ∀ (n r : List UInt8), (∀ c ∈ n, letter c false = true) → (∀ c, r.head? = some c → letter c false = false) → nameN (n ++ r) = n.length
  | [], [], _, _ => rfl
  | [], c :: r, _, h => by
    have := h c rfl
    show nameN (c :: r) = 0
    rw [nameN, if_neg (by rw [this]; simp)]
  | c :: n, r, h1, h2 => by
    show nameN (c :: (n ++ r)) = _
    rw [nameN, if_pos (h1 c (by simp)), nameN_eq n r (fun c hc => h1 c (by simp [hc])) h2]
    rfl
theorem skipS_rem : ∀ (m r : List UInt8), (∀ c ∈ m, c ≠ 10) → skipS true (m ++ 10 :: r) = skipS false r + (m.length + 1)
  | [], r, _ => by show skipS true (10 :: r) = _; rw [skipS, if_pos rfl]; simp
  | c :: m, r, h => by
    show skipS true (c :: (m ++ 10 :: r)) = _
    rw [skipS, if_neg (h c (by simp)), skipS_rem m r (fun c hc => h c (by simp [hc]))]
    simp; omega
theorem token_nil {s : List UInt8} {a : Nat} (h : s.drop a = []) : token s a = (⟨0, [], none, a⟩, 0, a) := by unfold token; rw [h]
theorem token_cons {s : List UInt8} {a : Nat} {b : UInt8} {r : List UInt8} (h : s.drop a = b :: r) : token s a =
    if letter b true then
      if 30 < nameN (b :: r) then (⟨1, (b :: r).take (nameN (b :: r)), none, a⟩, 3, a) else (⟨1, (b :: r).take (nameN (b :: r)), none, a⟩, 0, a + nameN (b :: r))
    else if signs.contains b then (⟨2, [b], none, a⟩, 0, a + 1)
    else if b = 34 then quoted s a r
    else if b = 47 then expr s a r
    else (⟨0, [], none, a⟩, 2, a) := by unfold token; rw [h]
theorem allGo_same {s : List UInt8} {p q : Nat} (h : next s p = next s q) (f : Nat) (out : List LT) : allGo s (f + 1) p out = allGo s (f + 1) q out := by
  rw [allGo, allGo, h]
theorem drop_more {s r : List UInt8} {p : Nat} {l : List UInt8} (h : s.drop p = l ++ r) : s.drop (p + l.length) = r := by
  rw [← List.drop_drop, h, List.drop_left]
theorem allGo_tok {s : List UInt8} {p q : Nat} {t : LT} (h : next s p = (t, 0, q)) (hk : t.kind ≠ 0) (f : Nat) (out : List LT) : allGo s (f + 1) p out = allGo s f q (out ++ [t]) := by
  rw [allGo, h, if_neg (by simp), if_neg hk]
theorem sign_no {c : UInt8} (h : signs.contains c = true) : letter c true = false ∧ ¬ (c = 32 ∨ c = 9 ∨ c = 10 ∨ c = 13) ∧ c ≠ 35 := by
  have hc : c = 40 ∨ c = 41 ∨ c = 44 ∨ c = 46 ∨ c = 59 ∨ c = 124 ∨ c = 42 ∨ c = 61 := by
    unfold signs at h
    simpa [List.contains_cons] using h
  rcases hc with rfl | rfl | rfl | rfl | rfl | rfl | rfl | rfl <;> decide
theorem Lexes.run {p : Nat} {r : List UInt8} {ts : List LT} (h : Lexes p r ts) : ∀ (s : List UInt8) (f : Nat) (out : List LT), s.drop p = r → r.length < f → allGo s f p out = (out ++ ts, 0, 0) := by
  induction h with
  | fin p =>
    intro s f out hd hf
    obtain ⟨f, rfl⟩ : ∃ f', f = f' + 1 := ⟨f - 1, by omega⟩
    have hn : next s p = (⟨0, [], none, p⟩, 0, p) := by
      unfold next; rw [hd]; exact token_nil hd
    rw [allGo, hn, if_neg (by simp), if_pos rfl]
  | gap p c r ts hc h ih =>
    intro s f out hd hf
    obtain ⟨f, rfl⟩ : ∃ f', f = f' + 1 := ⟨f - 1, by omega⟩
    have hd1 : s.drop (p + 1) = r := drop_more (l := [c]) hd
    have hn : next s p = next s (p + 1) := by
      unfold next; rw [hd, hd1, skipS, if_pos hc]; congr 1; omega
    rw [allGo_same hn]
    exact ih s (f + 1) out hd1 (by simp at hf; omega)
  | rem p m r ts hm h ih =>
    intro s f out hd hf
    obtain ⟨f, rfl⟩ : ∃ f', f = f' + 1 := ⟨f - 1, by omega⟩
    have hd1 : s.drop (p + (m.length + 2)) = r := by
      have := drop_more (s := s) (p := p) (l := 35 :: (m ++ [10])) (r := r) (by rw [hd]; simp)
      rw [← this]; congr 1; simp
    have hn : next s p = next s (p + (m.length + 2)) := by
      unfold next
      rw [hd, hd1, skipS, if_neg (by decide), if_pos rfl, skipS_rem m r hm]
      congr 1; omega
    rw [allGo_same hn]
    exact ih s (f + 1) out hd1 (by simp at hf; omega)
  | name p b n r ts h1 h2 h3 h4 h ih =>
    intro s f out hd hf
    obtain ⟨f, rfl⟩ : ∃ f', f = f' + 1 := ⟨f - 1, by omega⟩
    have hd1 : s.drop (p + (n.length + 1)) = r := by
      have := drop_more (s := s) (p := p) (l := b :: n) (r := r) (by rw [hd]; simp)
      rw [← this]; rfl
    have hnm : nameN (b :: (n ++ r)) = n.length + 1 := nameN_eq (b :: n) r (fun c hc => by
      rcases List.mem_cons.1 hc with rfl | hc
      · exact letter_sub h1
      · exact h2 c hc) h4
    have hn : next s p = (⟨1, b :: n, none, p⟩, 0, p + (n.length + 1)) := by
      unfold next
      obtain ⟨g1, g2⟩ := letter_gap h1
      rw [hd, skipS, if_neg g1, if_neg g2, Nat.add_zero, token_cons hd, if_pos h1, hnm, if_neg (by omega)]
      congr 2
      show (b :: (n ++ r)).take (n.length + 1) = b :: n
      simp
    rw [allGo_tok hn (by simp), ih s f _ hd1 (by simp at hf; omega)]
    simp
  | sign p c r ts hc h ih =>
    intro s f out hd hf
    obtain ⟨f, rfl⟩ : ∃ f', f = f' + 1 := ⟨f - 1, by omega⟩
    have hd1 : s.drop (p + 1) = r := drop_more (l := [c]) hd
    obtain ⟨g0, g1, g2⟩ := sign_no hc
    have hn : next s p = (⟨2, [c], none, p⟩, 0, p + 1) := by
      unfold next
      rw [hd, skipS, if_neg g1, if_neg g2, Nat.add_zero, token_cons hd, if_neg (by rw [g0]; simp), if_pos hc]
    rw [allGo_tok hn (by simp), ih s f _ hd1 (by simp at hf; omega)]
    simp
  | text p q r o ts h1 h2 h ih =>
    intro s f out hd hf
    obtain ⟨f, rfl⟩ : ∃ f', f = f' + 1 := ⟨f - 1, by omega⟩
    have hd1 : s.drop (p + (q.length + 2)) = r := by
      have := drop_more (s := s) (p := p) (l := 34 :: (q ++ [34])) (r := r) (by rw [hd]; simp)
      rw [← this]; congr 1; simp
    have hn : next s p = (⟨3, o, none, p⟩, 0, p + (q.length + 2)) := by
      unfold next
      rw [hd, skipS, if_neg (by decide), if_neg (by decide), Nat.add_zero, token_cons hd, if_neg (by decide), if_neg (by decide), if_pos rfl]
      unfold LX.quoted
      rw [h1]
      simp only [List.take_left, h2]
      rfl
    rw [allGo_tok hn (by simp), ih s f _ hd1 (by simp at hf; omega)]
    simp
  | expr p e r x ts h1 h2 h ih =>
    intro s f out hd hf
    obtain ⟨f, rfl⟩ : ∃ f', f = f' + 1 := ⟨f - 1, by omega⟩
    have hd1 : s.drop (p + (e.length + 2)) = r := by
      have := drop_more (s := s) (p := p) (l := 47 :: (e ++ [47])) (r := r) (by rw [hd]; simp)
      rw [← this]; congr 1; simp
    have hn : next s p = (⟨4, [], some x, p⟩, 0, p + (e.length + 2)) := by
      unfold next
      rw [hd, skipS, if_neg (by decide), if_neg (by decide), Nat.add_zero, token_cons hd, if_neg (by decide), if_neg (by decide), if_neg (by decide), if_pos rfl]
      unfold LX.expr
      rw [h1]
      simp only [List.take_left, h2, if_true]
      rfl
    rw [allGo_tok hn (by simp), ih s f _ hd1 (by simp at hf; omega)]
    simp
end LX
/-- what the lexer makes of such a text -/
theorem lexW_of {s : List UInt8} {ts : List LT} (h : LX.Lexes 0 s ts) (hs : s.length ≤ 65536) : lexW s = (ts, 0, 0) := by
  unfold lexW
  rw [if_neg (by omega), h.run s (s.length + 1) [] (by simp) (by omega)]
  simp
end Go.Proofs.YtgamknphlmcgnaaGreatDoor
end
section
set_option linter.unusedSimpArgs false
set_option linter.unusedVariables false
set_option maxRecDepth 100000
set_option linter.unnecessarySimpa false
namespace Go.Proofs.YtgamknphlmcgnaaGreatDoor
namespace PR
/-- a name, as a token -/
structure NameTk (t : LT) : Prop where
  kind : t.kind = 1
  name : LX.nameB t.text = true
theorem opOf_name {s : List UInt8} (h : LX.nameB s = true) : opOf s = none := by
  have hr : LX.resB s = false := by
    unfold LX.nameB at h
    simp only [Bool.and_eq_true, Bool.not_eq_true'] at h
    exact h.1.2
  have hne : s ≠ [] := by
    unfold LX.nameB at h
    simp only [Bool.and_eq_true, Bool.not_eq_true'] at h
    intro e
    rw [e] at h
    simp at h
  have key : ∀ f o, o + f ≤ 18 → 2 ≤ o → opGo s f o = none := by
    intro f
    induction f with
    | zero => intro o _ _; rfl
    | succ f ih =>
      intro o h1 h2
      have hw : TA.word o ≠ s := by
        intro e
        have hall : ∀ o, o < 18 → 2 ≤ o → TA.word o = [] ∨ LX.resB (TA.word o) = true := by decide
        rcases hall o (by omega) h2 with h3 | h3
        · exact hne (by rw [← e]; exact h3)
        · rw [e, hr] at h3; cases h3
      rw [opGo, if_neg hw]
      exact ih (o + 1) (by omega) (by omega)
  exact key 16 2 (by omega) (by omega)
theorem hd_cons (t : LT) (ts : List LT) : hd (t :: ts) = t := rfl
theorem stp_cons (t : LT) (ts : List LT) (h : t.kind ≠ 0) : stp (t :: ts) = ts := by unfold stp; rw [hd_cons, if_neg h]; rfl
theorem nm_name {t : LT} (h : NameTk t) (ts : List LT) (c : Nat) : nm (t :: ts) c = .ok t ts c := by
  unfold nm
  rw [hd_cons, if_pos ⟨h.kind, h.name⟩, stp_cons t ts (by rw [h.kind]; decide)]
theorem nmT_name {t : LT} (h : NameTk t) (ts : List LT) (c : Nat) : nmT (t :: ts) c = if 1000 < c + 1 then .bad 3 t.at_ else .ok (nameT t) ts (c + 1) := by
  unfold nmT
  rw [nm_name h]
  show (cnt t.at_ ts c).bind _ = _
  unfold cnt
  split <;> rfl
theorem word_name {t : LT} (h : NameTk t) (g : Nat) (rec : List LT → Nat → Res TA) (ts : List LT) (c : Nat) : word g rec (t :: ts) c = if 1000 < c + 1 then .bad 3 t.at_ else .ok (nameT t) ts (c + 1) := by
  unfold word
  rw [hd_cons, opOf_name h.name]
  exact nmT_name h ts c
theorem atom_name {t : LT} (h : NameTk t) (g : Nat) (rec : List LT → Nat → Res TA) (ts : List LT) (c : Nat) : atom g rec (t :: ts) c = if 1000 < c + 1 then .bad 3 t.at_ else .ok (nameT t) ts (c + 1) := by
  unfold atom
  rw [hd_cons, if_pos h.kind]
  exact word_name h g rec ts c
/-- is the token at hand no such sign? -/
def noSg (b : UInt8) (ts : List LT) : Prop := isT ts 2 [b] = false
theorem starGo_stop {ts : List LT} (h : noSg 42 ts) (n : Nat) (t : TA) (c : Nat) : starGo n t ts c = .ok t ts c := by
  cases n with
  | zero => rfl
  | succ n => rw [starGo, if_neg (by rw [h]; simp)]
theorem chGo_stop {sg : UInt8} {ts : List LT} (h : noSg sg ts) (o : Nat) (nx : List LT → Nat → Res TA) (n : Nat) (t : TA) (c : Nat) : chGo sg o nx n t ts c = .ok t ts c := by
  cases n with
  | zero => rfl
  | succ n => rw [chGo, if_neg (by rw [h]; simp)]
theorem noSg_kind {b : UInt8} {t : LT} {ts : List LT} (h : t.kind ≠ 2) : noSg b (t :: ts) := by
  unfold noSg isT
  rw [hd_cons]
  have : (t.kind == 2) = false := by simpa using h
  rw [this]; rfl
theorem noSg_other {b d : UInt8} {t : LT} {ts : List LT} (h : t.text = [d]) (hd' : d ≠ b) : noSg b (t :: ts) := by
  unfold noSg isT
  rw [hd_cons, h]
  have : (([d] : List UInt8) == [b]) = false := by simpa using hd'
  rw [this, Bool.and_false]
end PR
end Go.Proofs.YtgamknphlmcgnaaGreatDoor
end
section
set_option linter.unusedSimpArgs false
set_option linter.unusedVariables false
set_option maxRecDepth 100000
set_option linter.unnecessarySimpa false
namespace Go.Proofs.YtgamknphlmcgnaaGreatDoor
namespace PR
def recOf : Nat → List LT → Nat → Res TA
  | 0 => fun ts _ => form ts
  | g + 1 => chain g
theorem chain_eq (g : Nat) : chain g = chN g (recOf g) 3 := by cases g <;> rfl
/-- a part of a level: an atom, an atom with stars, .. -/
def lev (g : Nat) : Nat → List LT → Nat → Res TA
  | 0 => atom g (recOf g)
  | k + 1 => chN g (recOf g) k
/-- no sign by which a part of a level goes on -/
def stopAt : Nat → List LT → Prop
  | 0, _ => True
  | 1, ts => noSg 42 ts
  | k + 2, ts => stopAt (k + 1) ts ∧ noSg (sgn (2 - k)) ts
def stopB : Nat → List LT → Prop
  | 0, _ => True
  | 1, _ => True
  | k + 2, ts => stopAt (k + 1) ts
theorem stopB_of {k : Nat} {ts : List LT} (h : stopAt (k + 1) ts) : stopB (k + 1) ts := by
  cases k with
  | zero => trivial
  | succ k => exact h.1
/-- a sign as a token -/
def sgT (b : UInt8) (a : Nat) : LT := ⟨2, [b], none, a⟩
/-- tokens that make a term: its level, the tokens, the term, how many terms, how deep -/
inductive Tk : Nat → List LT → TA → Nat → Nat → Prop
  | name (t : LT) (h : NameTk t) : Tk 0 [t] (nameT t) 1 0
  | re (a : Nat) (r : Option RE) (h : big r = false) : Tk 0 [⟨4, [], r, a⟩] (TA.node 0 1 (a : Nat) [] r [] [] []) 1 0
  | leaf (w : LT) (o : Nat) (ts : List LT) (t : TA) (n : Nat) (hk : w.kind = 1) (ho : opOf w.text = some o) (hp : ¬ (o = 10 ∨ o = 14 ∨ o = 15) ∧ ¬ (o = 12 ∨ o = 13)) (h : ∀ rest c, c + n ≤ 1000 → plain o w.at_ (ts ++ rest) c = .ok t rest (c + n)) : Tk 0 (w :: ts) t n 0
  | par (a b : Nat) (ts : List LT) (t : TA) (n d : Nat) (h : Tk 4 ts t n d) : Tk 0 (sgT 40 a :: (ts ++ [sgT 41 b])) t n (d + 1)
  | one (w : LT) (o a b : Nat) (ts : List LT) (t : TA) (n d : Nat) (hk : w.kind = 1) (ho : opOf w.text = some o) (hp : o = 12 ∨ o = 13) (h : Tk 4 ts t n d) : Tk 0 (w :: sgT 40 a :: (ts ++ [sgT 41 b])) (TA.node 0 o (w.at_ : Nat) [] none [] [] [t]) (n + 1) (d + 1)
  | two (w : LT) (o a q b : Nat) (ts ts' : List LT) (t t' : TA) (n d n' d' : Nat) (hk : w.kind = 1) (ho : opOf w.text = some o) (hp : o = 10 ∨ o = 14 ∨ o = 15) (h : Tk 4 ts t n d) (h' : Tk 4 ts' t' n' d') : Tk 0 (w :: sgT 40 a :: (ts ++ sgT 44 q :: (ts' ++ [sgT 41 b]))) (TA.node 0 o (w.at_ : Nat) [] none [] [] [t, t']) (n + n' + 1) (max d d' + 1)
  | at0 (ts : List LT) (t : TA) (n d : Nat) (h : Tk 0 ts t n d) : Tk 1 ts t n d
  | sta (a : Nat) (ts : List LT) (t : TA) (n d : Nat) (h : Tk 1 ts t n d) : Tk 1 (ts ++ [sgT 42 a]) (TA.node 0 9 (a : Nat) [] none [] [] [t]) (n + 1) d
  | up (k : Nat) (ts : List LT) (t : TA) (n d : Nat) (h : Tk (k + 1) ts t n d) : Tk (k + 2) ts t n d
  | bin (k a : Nat) (hk : k ≤ 2) (ts ts' : List LT) (t t' : TA) (n d n' d' : Nat) (h : Tk (k + 2) ts t n d) (h' : Tk (k + 1) ts' t' n' d') : Tk (k + 2) (ts ++ sgT (sgn (2 - k)) a :: ts') (TA.node 0 (opc (2 - k)) (a : Nat) [] none [] [] [t, t']) (n + n' + 1) (max d d')
def Ran (g : Nat) : Nat → List LT → List LT → TA → Nat → Nat → Prop
  | 0, ts, rest, t, c, c' => atom g (recOf g) ts c = .ok t rest c'
  | 1, ts, rest, t, c, c' => ∃ t0 ts0 c0 m, atom g (recOf g) ts c = .ok t0 ts0 c0 ∧ m + rest.length ≤ ts0.length ∧ ∀ f, starGo (f + m) t0 ts0 c0 = starGo f t rest c'
  | k + 2, ts, rest, t, c, c' => ∃ t0 ts0 c0 m, chN g (recOf g) k ts c = .ok t0 ts0 c0 ∧ m + rest.length ≤ ts0.length ∧ ∀ f, chGo (sgn (2 - k)) (opc (2 - k)) (chN g (recOf g) k) (f + m) t0 ts0 c0 = chGo (sgn (2 - k)) (opc (2 - k)) (chN g (recOf g) k) f t rest c'
theorem Ran.fin {g : Nat} : ∀ {l : Nat} {ts rest : List LT} {t : TA} {c c' : Nat}, Ran g l ts rest t c c' → stopAt l rest → lev g l ts c = .ok t rest c'
  | 0, ts, rest, t, c, c', h, _ => h
  | 1, ts, rest, t, c, c', ⟨t0, ts0, c0, m, h1, h2, h3⟩, hs => by
    show star g (recOf g) ts c = _
    unfold star
    rw [h1, bind_ok]
    have := h3 (ts0.length - m)
    rw [show ts0.length - m + m = ts0.length by omega] at this
    rw [this]
    exact starGo_stop hs _ _ _
  | k + 2, ts, rest, t, c, c', ⟨t0, ts0, c0, m, h1, h2, h3⟩, hs => by
    show chL (sgn (2 - k)) (opc (2 - k)) (chN g (recOf g) k) ts c = _
    unfold chL
    rw [h1, bind_ok]
    have := h3 (ts0.length - m)
    rw [show ts0.length - m + m = ts0.length by omega] at this
    rw [this]
    exact chGo_stop hs.2 _ _ _ _ _
theorem isT_sg (b : UInt8) (a : Nat) (ts : List LT) : isT (sgT b a :: ts) 2 [b] = true := by
  unfold isT; rw [hd_cons]; simp [sgT]
theorem stp_sg (b : UInt8) (a : Nat) (ts : List LT) : stp (sgT b a :: ts) = ts := stp_cons _ _ (by show (2 : Nat) ≠ 0; decide)
theorem want_sg (b : UInt8) (a : Nat) (ts : List LT) (c : Nat) : want [b] (sgT b a :: ts) c = .ok () ts c := by
  unfold want; rw [isT_sg, if_pos rfl, stp_sg]
theorem cnt_ok (p : Nat) (ts : List LT) (c : Nat) (h : c + 1 ≤ 1000) : cnt p ts c = .ok () ts (c + 1) := by
  unfold cnt; rw [if_neg (by omega)]
theorem opn_sg (g a : Nat) (ts : List LT) (c : Nat) (h : g ≠ 0) : opn g (sgT 40 a :: ts) c = .ok () ts c := by
  unfold opn; rw [isT_sg, if_pos rfl, if_neg h, stp_sg]
theorem noSg_sg (b d a : _) (ts : List LT) (h : d ≠ b) : noSg b (sgT d a :: ts) := noSg_other (d := d) rfl h
theorem stop_sg (b : UInt8) (a : Nat) (ts : List LT) (h : b = 41 ∨ b = 44) : stopAt 4 (sgT b a :: ts) := by
  rcases h with rfl | rfl
  · exact ⟨⟨⟨noSg_sg _ _ _ _ (by decide), noSg_sg _ _ _ _ (by decide)⟩, noSg_sg _ _ _ _ (by decide)⟩, noSg_sg _ _ _ _ (by decide)⟩
  · exact ⟨⟨⟨noSg_sg _ _ _ _ (by decide), noSg_sg _ _ _ _ (by decide)⟩, noSg_sg _ _ _ _ (by decide)⟩, noSg_sg _ _ _ _ (by decide)⟩
theorem stop_kind {t : LT} (ts : List LT) (h : t.kind ≠ 2) : stopAt 4 (t :: ts) := ⟨⟨⟨noSg_kind h, noSg_kind h⟩, noSg_kind h⟩, noSg_kind h⟩
theorem stop_next (k a : Nat) (hk : k ≤ 2) (ts : List LT) : stopAt (k + 1) (sgT (sgn (2 - k)) a :: ts) := by
  have h : k = 0 ∨ k = 1 ∨ k = 2 := by omega
  rcases h with rfl | rfl | rfl
  · exact noSg_sg _ _ _ _ (by decide)
  · exact ⟨noSg_sg _ _ _ _ (by decide), noSg_sg _ _ _ _ (by decide)⟩
  · exact ⟨⟨noSg_sg _ _ _ _ (by decide), noSg_sg _ _ _ _ (by decide)⟩, noSg_sg _ _ _ _ (by decide)⟩
theorem atom_word (g : Nat) (rec : List LT → Nat → Res TA) {w : LT} {o : Nat} (hk : w.kind = 1) (ho : opOf w.text = some o) (ts : List LT) (c : Nat) :
    atom g rec (w :: ts) c = if o = 10 ∨ o = 14 ∨ o = 15 then call o w.at_ 2 g rec ts c else if o = 12 ∨ o = 13 then call o w.at_ 1 g rec ts c else plain o w.at_ ts c := by
  unfold atom
  rw [hd_cons, if_pos hk]
  unfold word
  rw [hd_cons, ho, stp_cons _ _ (by rw [hk]; decide)]
theorem Tk.ran {l : Nat} {ts : List LT} {t : TA} {n d : Nat} (h : Tk l ts t n d) : ∀ (g : Nat) (rest : List LT) (c : Nat), d ≤ g → stopB l rest → c + n ≤ 1000 → Ran g l (ts ++ rest) rest t c (c + n) := by
  induction h with
  | name t h =>
    intro g rest c _ _ hc
    show atom g (recOf g) (t :: rest) c = _
    rw [atom_name h, if_neg (by omega)]
  | re a r h =>
    intro g rest c _ _ hc
    show atom g (recOf g) (⟨4, [], r, a⟩ :: rest) c = _
    unfold atom
    rw [hd_cons, if_neg (by show ¬ ((4 : Nat) = 1); decide), if_pos (by rfl), cnt_ok _ _ _ hc, bind_ok]
    unfold expr
    rw [hd_cons, if_pos (by rfl), if_neg (by rw [h]; simp), stp_cons _ _ (by show (4 : Nat) ≠ 0; decide), bind_ok]
  | leaf w o ts t n hk ho hp h =>
    intro g rest c _ _ hc
    show atom g (recOf g) (w :: (ts ++ rest)) c = _
    rw [atom_word _ _ hk ho, if_neg hp.1, if_neg hp.2]
    exact h rest c hc
  | par a b ts t n d h ih =>
    intro g rest c hg _ hc
    obtain ⟨g, rfl⟩ : ∃ g', g = g' + 1 := ⟨g - 1, by omega⟩
    have e1 : (sgT 40 a :: (ts ++ [sgT 41 b])) ++ rest = sgT 40 a :: (ts ++ (sgT 41 b :: rest)) := by simp
    rw [e1]
    show atom (g + 1) (chain g) _ c = _
    have e2 := (ih g (sgT 41 b :: rest) c (by omega) (stop_sg _ _ _ (.inl rfl)).1 hc).fin (stop_sg _ _ _ (.inl rfl))
    have e2 : chain g (ts ++ (sgT 41 b :: rest)) c = .ok t (sgT 41 b :: rest) (c + n) := by rw [chain_eq]; exact e2
    unfold atom
    rw [hd_cons, if_neg (by show ¬ ((2 : Nat) = 1); decide), if_neg (by show ¬ ((2 : Nat) = 4); decide), isT_sg, if_pos rfl, opn_sg _ _ _ _ (by omega), bind_ok, e2, bind_ok, want_sg, bind_ok]
  | one w o a b ts t n d hk ho hp h ih =>
    intro g rest c hg _ hc
    obtain ⟨g, rfl⟩ : ∃ g', g = g' + 1 := ⟨g - 1, by omega⟩
    have e1 : (w :: sgT 40 a :: (ts ++ [sgT 41 b])) ++ rest = w :: sgT 40 a :: (ts ++ (sgT 41 b :: rest)) := by simp
    rw [e1]
    show atom (g + 1) (chain g) _ c = _
    have e2 := (ih g (sgT 41 b :: rest) (c + 1) (by omega) (stop_sg _ _ _ (.inl rfl)).1 (by omega)).fin (stop_sg _ _ _ (.inl rfl))
    have e2 : chain g (ts ++ (sgT 41 b :: rest)) (c + 1) = .ok t (sgT 41 b :: rest) (c + 1 + n) := by rw [chain_eq]; exact e2
    rw [atom_word _ _ hk ho, if_neg (by omega), if_pos hp]
    unfold call
    rw [cnt_ok _ _ _ (by omega), bind_ok, opn_sg _ _ _ _ (by omega), bind_ok, callGo, if_pos (show ([] : List TA).isEmpty = true from rfl), bind_ok, e2, bind_ok, callGo, bind_ok, want_sg, bind_ok]
    rw [show c + 1 + n = c + (n + 1) by omega]
    rfl
  | two w o a q b ts ts' t t' n d n' d' hk ho hp h h' ih ih' =>
    intro g rest c hg _ hc
    obtain ⟨g, rfl⟩ : ∃ g', g = g' + 1 := ⟨g - 1, by omega⟩
    have e1 : (w :: sgT 40 a :: (ts ++ sgT 44 q :: (ts' ++ [sgT 41 b]))) ++ rest = w :: sgT 40 a :: (ts ++ (sgT 44 q :: (ts' ++ (sgT 41 b :: rest)))) := by simp
    rw [e1]
    show atom (g + 1) (chain g) _ c = _
    have e2 := (ih g (sgT 44 q :: (ts' ++ (sgT 41 b :: rest))) (c + 1) (by omega) (stop_sg _ _ _ (.inr rfl)).1 (by omega)).fin (stop_sg _ _ _ (.inr rfl))
    have e2 : chain g (ts ++ (sgT 44 q :: (ts' ++ (sgT 41 b :: rest)))) (c + 1) = .ok t (sgT 44 q :: (ts' ++ (sgT 41 b :: rest))) (c + 1 + n) := by rw [chain_eq]; exact e2
    have e3 := (ih' g (sgT 41 b :: rest) (c + 1 + n) (by omega) (stop_sg _ _ _ (.inl rfl)).1 (by omega)).fin (stop_sg _ _ _ (.inl rfl))
    have e3 : chain g (ts' ++ (sgT 41 b :: rest)) (c + 1 + n) = .ok t' (sgT 41 b :: rest) (c + 1 + n + n') := by rw [chain_eq]; exact e3
    rw [atom_word _ _ hk ho, if_pos hp]
    unfold call
    rw [cnt_ok _ _ _ (by omega), bind_ok, opn_sg _ _ _ _ (by omega), bind_ok, callGo, if_pos (show ([] : List TA).isEmpty = true from rfl), bind_ok, e2, bind_ok, callGo, if_neg (by simp), want_sg, bind_ok, e3, bind_ok, callGo, bind_ok, want_sg, bind_ok]
    rw [show c + 1 + n + n' = c + (n + n' + 1) by omega]
    rfl
  | at0 ts t n d h ih =>
    intro g rest c hg _ hc
    exact ⟨t, rest, c + n, 0, ih g rest c hg trivial hc, by omega, fun f => rfl⟩
  | sta a ts t n d h ih =>
    intro g rest c hg _ hc
    have e1 : (ts ++ [sgT 42 a]) ++ rest = ts ++ (sgT 42 a :: rest) := by simp
    rw [e1]
    obtain ⟨t0, ts0, c0, m, h1, h2, h3⟩ := ih g (sgT 42 a :: rest) c hg trivial (by omega)
    refine ⟨t0, ts0, c0, m + 1, h1, by simp at h2; omega, fun f => ?_⟩
    rw [show f + (m + 1) = f + 1 + m by omega, h3, starGo, isT_sg, if_pos rfl, stp_sg, cnt_ok _ _ _ (by omega), bind_ok]
    rfl
  | up k ts t n d h ih =>
    intro g rest c hg hs hc
    have hs : stopAt (k + 1) rest := hs
    exact ⟨t, rest, c + n, 0, (ih g rest c hg (stopB_of hs) hc).fin hs, by omega, fun f => rfl⟩
  | bin k a hk ts ts' t t' n d n' d' h h' ih ih' =>
    intro g rest c hg hs hc
    have hs : stopAt (k + 1) rest := hs
    have e1 : (ts ++ sgT (sgn (2 - k)) a :: ts') ++ rest = ts ++ (sgT (sgn (2 - k)) a :: (ts' ++ rest)) := by simp
    rw [e1]
    obtain ⟨t0, ts0, c0, m, h1, h2, h3⟩ := ih g (sgT (sgn (2 - k)) a :: (ts' ++ rest)) c (by omega) (stop_next k a hk _) (by omega)
    have e2 : chN g (recOf g) k (ts' ++ rest) (c + n + 1) = .ok t' rest (c + n + 1 + n') := (ih' g rest (c + n + 1) (by omega) (stopB_of hs) (by omega)).fin hs
    refine ⟨t0, ts0, c0, m + 1, h1, by simp at h2; omega, fun f => ?_⟩
    rw [show f + (m + 1) = f + 1 + m by omega, h3, chGo, isT_sg, if_pos rfl, stp_sg, cnt_ok _ _ _ (by omega), bind_ok, e2, bind_ok]
    rw [show c + n + 1 + n' = c + (n + n' + 1) by omega]
    rfl
/-- what the parser makes of such tokens -/
theorem Tk.run {l : Nat} {ts : List LT} {t : TA} {n d : Nat} (h : Tk l ts t n d) (g : Nat) (rest : List LT) (c : Nat) (hg : d ≤ g) (hs : stopAt l rest) (hc : c + n ≤ 1000) : lev g l (ts ++ rest) c = .ok t rest (c + n) := by
  refine (h.ran g rest c hg ?_ hc).fin hs
  match l, hs with
  | 0, _ => trivial
  | 1, _ => trivial
  | k + 2, hs => exact hs.1
theorem Tk.chain {ts : List LT} {t : TA} {n d : Nat} (h : Tk 4 ts t n d) (g : Nat) (rest : List LT) (c : Nat) (hg : d ≤ g) (hs : stopAt 4 rest) (hc : c + n ≤ 1000) : PR.chain g (ts ++ rest) c = .ok t rest (c + n) := by
  rw [chain_eq]; exact h.run g rest c hg hs hc
theorem opOf_let : opOf letW = none := by decide
theorem nameB_let : LX.nameB letW = false := by decide
/-- no term begins with the word of a binding -/
theorem Tk.head {l : Nat} {ts : List LT} {t : TA} {n d : Nat} (h : Tk l ts t n d) : ∀ rest, isT (ts ++ rest) 1 letW = false := by
  have key : ∀ (w : LT) (ts : List LT), w.text ≠ letW → isT (w :: ts) 1 letW = false := fun w ts hw => by
    unfold isT; rw [hd_cons]
    have : (w.text == letW) = false := by simpa using hw
    rw [this, Bool.and_false]
  have kop : ∀ {w : LT} {o : Nat}, opOf w.text = some o → w.text ≠ letW := fun {w o} ho e => by rw [e, opOf_let] at ho; cases ho
  induction h with
  | name t h => intro rest; exact key _ _ fun e => by have := h.name; rw [e, nameB_let] at this; cases this
  | re a r h => intro rest; rfl
  | leaf w o ts t n hk ho hp h => intro rest; exact key _ _ (kop ho)
  | par a b ts t n d h ih => intro rest; rfl
  | one w o a b ts t n d hk ho hp h ih => intro rest; exact key _ _ (kop ho)
  | two w o a q b ts ts' t t' n d n' d' hk ho hp h h' ih ih' => intro rest; exact key _ _ (kop ho)
  | at0 ts t n d h ih => exact ih
  | sta a ts t n d h ih => intro rest; rw [List.append_assoc]; exact ih _
  | up k ts t n d h ih => exact ih
  | bin k a hk ts ts' t t' n d n' d' h h' ih ih' => intro rest; rw [List.append_assoc]; exact ih _
/-- tokens that make a program -/
inductive TkP : List LT → List LetT → TA → Nat → Prop
  | body (e : LT) (he : e.kind = 0) (ts : List LT) (t : TA) (n d : Nat) (h : Tk 4 ts t n d) (hd : d ≤ 60) : TkP (ts ++ [e]) [] t n
  | lets (a q i : Nat) (x : LT) (hx : NameTk x) (ts rest : List LT) (t b : TA) (n d m : Nat) (ls : List LetT) (h : Tk 4 ts t n d) (hd : d ≤ 60) (hr : TkP rest ls b m) : TkP (⟨1, letW, none, a⟩ :: x :: sgT 61 q :: (ts ++ ⟨1, inW, none, i⟩ :: rest)) (⟨x.text, x.at_, t⟩ :: ls) b (n + m)
theorem TkP.go {ts : List LT} {ls : List LetT} {b : TA} {n : Nat} (h : TkP ts ls b n) : ∀ (f : Nat) (ls0 : List LetT) (c : Nat), ts.length ≤ f → c + n ≤ 1000 → ls0.length + ls.length ≤ 200 → ∃ r, progGo f ls0 ts c = .ok (ls0 ++ ls, b) r (c + n) := by
  induction h with
  | body e he ts t n d h hd =>
    intro f ls0 c hf hc hl
    obtain ⟨f, rfl⟩ : ∃ f', f = f' + 1 := ⟨f - 1, by simp at hf; omega⟩
    refine ⟨[e], ?_⟩
    rw [progGo, h.head, if_neg (by simp), h.chain 60 [e] c hd (stop_kind _ (by rw [he]; decide)) hc, bind_ok, hd_cons, if_pos he]
    simp
  | lets a q i x hx ts rest t b n d m ls h hd hr ih =>
    intro f ls0 c hf hc hl
    obtain ⟨f, rfl⟩ : ∃ f', f = f' + 1 := ⟨f - 1, by simp at hf; omega⟩
    obtain ⟨r, hr⟩ := ih f (ls0 ++ [⟨x.text, x.at_, t⟩]) (c + n) (by simp at hf; omega) (by omega) (by simp at hl ⊢; omega)
    refine ⟨r, ?_⟩
    simp only [List.length_cons] at hl
    rw [progGo, if_pos (by rfl), if_neg (by omega), stp_cons _ _ (by show (1 : Nat) ≠ 0; decide), nm_name hx, bind_ok, want_sg, bind_ok,
      h.chain 60 (⟨1, inW, none, i⟩ :: rest) c hd (stop_kind _ (by show (1 : Nat) ≠ 2; decide)) (by omega), bind_ok, if_pos (by rfl), stp_cons _ _ (by show (1 : Nat) ≠ 0; decide), hr]
    rw [show c + n + m = c + (n + m) by omega]
    simp
theorem TkP.prog {ts : List LT} {ls : List LetT} {b : TA} {n : Nat} (h : TkP ts ls b n) (hn : n ≤ 1000) (hl : ls.length ≤ 200) : ∃ r, PR.prog ts = .ok (ls, b) r n := by
  obtain ⟨r, hr⟩ := h.go ts.length [] 0 (Nat.le_refl _) (by omega) (by simpa using hl)
  exact ⟨r, by simpa [PR.prog] using hr⟩
end PR
/-- a text that is lexed into such tokens is read as that program -/
theorem parseW_of {s : List UInt8} {ts : List LT} {ls : List PR.LetT} {b : TA} {n : Nat} (hl : LX.Lexes 0 s ts) (hs : s.length ≤ 65536) (h : PR.TkP ts ls b n) (hn : n ≤ 1000) (h2 : ls.length ≤ 200) : parseW s = (some (ls, b), 0, 0) := by
  obtain ⟨r, hr⟩ := h.prog hn h2
  unfold parseW
  rw [lexW_of hl hs]
  simp only [ne_eq, not_true_eq_false, if_false]
  rw [hr]
end Go.Proofs.YtgamknphlmcgnaaGreatDoor
end
section
set_option linter.unusedSimpArgs false
set_option linter.unusedVariables false
set_option maxRecDepth 100000
set_option linter.unnecessarySimpa false
namespace Go.Proofs.YtgamknphlmcgnaaGreatDoor
namespace LX
/-- a text without such a byte, but behind a backslash -/
def escB (b : UInt8) : List UInt8 → Bool
  | [] => true
  | [c] => c != b && c != 92
  | c :: d :: r => if c = 92 then escB b r else c != b && escB b (d :: r)
theorem escB_append {b : UInt8} : ∀ (n : Nat) (x y : List UInt8), x.length ≤ n → escB b x = true → escB b (x ++ y) = escB b y := by
  intro n
  induction n with
  | zero =>
    intro x y hn _
    rw [List.length_eq_zero_iff.1 (by omega : x.length = 0)]; rfl
  | succ n ih =>
    intro x y hn h
    match x, hn, h with
    | [], _, _ => rfl
    | [c], _, h =>
      simp only [escB, Bool.and_eq_true, bne_iff_ne] at h
      cases y with
      | nil => simp [escB, h.1, h.2]
      | cons d r =>
        show escB b (c :: d :: r) = _
        rw [escB, if_neg h.2]; simp [h.1]
    | c :: d :: r, hn, h =>
      show escB b (c :: d :: (r ++ y)) = _
      rw [escB] at h ⊢
      by_cases hc : c = 92
      · rw [if_pos hc] at h ⊢
        exact ih r y (by simp at hn; omega) h
      · rw [if_neg hc] at h ⊢
        simp only [Bool.and_eq_true, bne_iff_ne] at h
        have := ih (d :: r) y (by simp at hn ⊢; omega) h.2
        rw [show d :: r ++ y = d :: (r ++ y) from rfl] at this
        rw [this]; simp [h.1]
theorem escB_app {b : UInt8} {x y : List UInt8} (h : escB b x = true) (h' : escB b y = true) : escB b (x ++ y) = true := by rw [escB_append _ x y (Nat.le_refl _) h, h']
theorem escB_flat {b : UInt8} {A : Type} (f : A → List UInt8) : ∀ l : List A, (∀ a ∈ l, escB b (f a) = true) → escB b (l.flatMap f) = true
  | [], _ => rfl
  | a :: l, h => by
    rw [List.flatMap_cons]
    exact escB_app (h a (by simp)) (escB_flat f l fun x hx => h x (by simp [hx]))
theorem escB_join {b : UInt8} {sep : List UInt8} (hs : escB b sep = true) : ∀ l : List (List UInt8), (∀ a ∈ l, escB b a = true) → escB b (Lib.join l sep) = true
  | [], _ => rfl
  | a :: l, h => by
    rw [Lib.join_cons]
    unfold Lib.joinTail
    exact escB_app (h a (by simp)) (escB_flat _ l fun x hx => escB_app hs (h x (by simp [hx])))
theorem escB_until {b : UInt8} (hb : b ≠ 92) : ∀ (n : Nat) (q r : List UInt8), q.length ≤ n → escB b q = true → untilN b (q ++ b :: r) = some q.length := by
  intro n
  induction n with
  | zero =>
    intro q r hn _
    rw [List.length_eq_zero_iff.1 (by omega : q.length = 0)]
    cases r with
    | nil => show untilN b [b] = _; rw [untilN, if_pos rfl]; rfl
    | cons d r => show untilN b (b :: d :: r) = _; rw [untilN, if_pos rfl]; rfl
  | succ n ih =>
    intro q r hn h
    match q, hn, h with
    | [], _, _ =>
      cases r with
      | nil => show untilN b [b] = _; rw [untilN, if_pos rfl]; rfl
      | cons d r => show untilN b (b :: d :: r) = _; rw [untilN, if_pos rfl]; rfl
    | [c], _, h =>
      simp only [escB, Bool.and_eq_true, bne_iff_ne] at h
      have := ih [] r (by simp) rfl
      show untilN b (c :: b :: r) = _
      rw [untilN, if_neg h.1, if_neg h.2]
      rw [show b :: r = [] ++ b :: r from rfl, this]; rfl
    | c :: d :: q, hn, h =>
      show untilN b (c :: d :: (q ++ b :: r)) = _
      rw [escB] at h
      rw [untilN]
      by_cases hc : c = 92
      · rw [if_pos hc] at h
        rw [if_neg (by rw [hc]; exact fun e => hb e.symm), if_pos hc, ih q r (by simp at hn; omega) h]
        simp
      · rw [if_neg hc] at h
        simp only [Bool.and_eq_true, bne_iff_ne] at h
        have := ih (d :: q) r (by simp at hn ⊢; omega) h.2
        rw [show d :: q ++ b :: r = d :: (q ++ b :: r) from rfl] at this
        rw [if_neg h.1, if_neg hc, this]
        simp
theorem esc_byte : ∀ b, b < 256 → escB 34 (byteW b) = true ∧ escB 47 (byteW b) = true := by decide +kernel
theorem esc_run (r : Rn) : escB 47 (runW r) = true := by
  unfold runW
  split
  · exact escB_app (esc_byte _ r.ha).2 (escB_app (x := [45]) (by decide) (esc_byte _ r.hb).2)
  · exact escB_app (esc_byte _ r.ha).2 (by decide)
theorem esc_class (s : BS) : escB 47 (classW s) = true := by
  unfold classW
  split
  · exact (esc_byte _ (BS.least_lt s)).2
  split
  · decide
  unfold setW
  split
  · exact escB_app (escB_app (by decide) (escB_flat _ _ fun r _ => esc_run r)) (by decide)
  · exact escB_app (escB_app (by decide) (escB_flat _ _ fun r _ => esc_run r)) (by decide)
theorem esc_in {b : UInt8} (hb : escB b [40] = true ∧ escB b [41] = true) {x : List UInt8} (h : escB b x = true) (p : Prop) [Decidable p] : escB b (if p then [40] ++ x ++ [41] else x) = true := by
  split
  · exact escB_app (escB_app hb.1 h) hb.2
  · exact h
mutual
theorem esc_of : (r : RE) → escB 47 (RE.ofW r) = true
  | .node o s ks => by
    rw [RE.ofW]
    split
    · decide
    split
    · exact esc_class s
    split
    · exact escB_join (by decide) _ (esc_ins 4 ks)
    split
    · exact escB_join (by decide) _ (esc_ins 1 ks)
    split
    · exact escB_join (by decide) _ (esc_ins 3 ks)
    split
    · exact esc_but ks
    split
    · exact esc_star ks
    · decide
theorem esc_ins (at_ : Nat) : (l : List RE) → ∀ a ∈ RE.insW at_ l, escB 47 a = true
  | [] => by simp [RE.insW]
  | k :: ks => by
    have h1 := esc_of k
    have h2 := esc_ins at_ ks
    intro a ha
    rw [RE.insW] at ha
    rcases List.mem_cons.1 ha with rfl | ha
    · exact esc_in (by decide) h1 _
    · exact h2 a ha
theorem esc_but : (l : List RE) → escB 47 (RE.butW l) = true
  | [] => by rw [RE.butW]; decide
  | [_] => by rw [RE.butW]; decide
  | a :: b :: _ => by
    have h1 := esc_of a
    have h2 := esc_of b
    rw [RE.butW]
    exact escB_app (escB_app (esc_in (by decide) h1 _) (by decide)) (esc_in (by decide) h2 _)
theorem esc_star : (l : List RE) → escB 47 (RE.starW l) = true
  | [] => by rw [RE.starW]; decide
  | a :: _ => by
    have h1 := esc_of a
    rw [RE.starW]
    exact escB_app (esc_in (by decide) h1 _) (by decide)
end
/-- a byte in quotes: what is read of it -/
def qCk (b : Nat) : Bool := match byteW b with
  | [c] => c != 92 && (plainQ.contains c && c.toNat == b || !plainQ.contains c && single (readW [c]) == some b)
  | [c, d] => c == 92 && d != 120 && single (readW [c, d]) == some b
  | [c, d, e, f] => c == 92 && d == 120 && single (readW [c, d, e, f]) == some b
  | _ => false
theorem qCk_all : ∀ b, b < 256 → qCk b = true := by decide +kernel
theorem qGo_byte (b : UInt8) (f : Nat) (r : List UInt8) (i : Nat) (out : List UInt8) : qGo (f + 1) (byteW b.toNat ++ r) i out = qGo f r (i + (byteW b.toNat).length) (out ++ [b]) := by
  have h := qCk_all b.toNat b.toNat_lt
  unfold qCk at h
  have hbb : (b.toNat).toUInt8 = b := by simp
  match hw : byteW b.toNat, h with
  | [c], h =>
    simp only [Bool.and_eq_true, bne_iff_ne, Bool.or_eq_true, beq_iff_eq, Bool.not_eq_true'] at h
    obtain ⟨h1, h2⟩ := h
    show qGo (f + 1) (c :: r) i out = _
    rw [qGo]
    rcases h2 with ⟨h2, h3⟩ | ⟨h2, h3⟩
    · rw [if_pos ⟨h1, h2⟩]
      have : c = b := UInt8.toNat_inj.1 h3
      rw [this]; rfl
    · rw [if_neg (by rw [h2]; simp)]
      have hq : qStep c r = 1 := by unfold qStep; rw [if_neg h1]
      rw [hq, show (c :: r).take 1 = [c] from rfl, h3]
      show qGo f r _ (out ++ [b.toNat.toUInt8]) = _
      rw [hbb]; rfl
  | [c, d], h =>
    simp only [Bool.and_eq_true, bne_iff_ne, beq_iff_eq] at h
    obtain ⟨⟨h1, h2⟩, h3⟩ := h
    show qGo (f + 1) (c :: d :: r) i out = _
    have hq : qStep c (d :: r) = 2 := by unfold qStep; rw [if_pos h1, if_neg (by simpa using h2)]
    rw [qGo, if_neg (by rw [h1]; simp), hq, show (c :: d :: r).take 2 = [c, d] from rfl, h3]
    show qGo f r _ (out ++ [b.toNat.toUInt8]) = _
    rw [hbb]; rfl
  | [c, d, e, g], h =>
    simp only [Bool.and_eq_true, bne_iff_ne, beq_iff_eq] at h
    obtain ⟨⟨h1, h2⟩, h3⟩ := h
    show qGo (f + 1) (c :: d :: e :: g :: r) i out = _
    have hq : qStep c (d :: e :: g :: r) = 4 := by unfold qStep; rw [if_pos h1, if_pos (by simpa using h2)]
    rw [qGo, if_neg (by rw [h1]; simp), hq, show (c :: d :: e :: g :: r).take 4 = [c, d, e, g] from rfl, h3]
    show qGo f r _ (out ++ [b.toNat.toUInt8]) = _
    rw [hbb]; rfl
  | [], h => simp at h
  | [_, _, _], h => simp at h
  | _ :: _ :: _ :: _ :: _ :: _, h => simp at h
theorem byteW_ne : ∀ b, b < 256 → 1 ≤ (byteW b).length := by decide +kernel
theorem qGo_bytes : ∀ (l : List UInt8) (f i : Nat) (out : List UInt8), (bytesW l).length < f → qGo f (bytesW l) i out = (out ++ l, none)
  | [], f, i, out, hf => by
    obtain ⟨f, rfl⟩ : ∃ f', f = f' + 1 := ⟨f - 1, by omega⟩
    show qGo (f + 1) [] i out = _
    rw [qGo, List.append_nil]
  | b :: l, f, i, out, hf => by
    obtain ⟨f, rfl⟩ : ∃ f', f = f' + 1 := ⟨f - 1, by omega⟩
    have e : bytesW (b :: l) = byteW b.toNat ++ bytesW l := by simp [bytesW]
    have := byteW_ne b.toNat b.toNat_lt
    rw [e] at hf ⊢
    rw [List.length_append] at hf
    rw [qGo_byte, qGo_bytes l f _ _ (by omega)]
    simp
theorem esc_bytes (l : List UInt8) : escB 34 (bytesW l) = true := escB_flat _ l fun c _ => (esc_byte _ c.toNat_lt).1
/-- a text from a place on is those tokens, whatever is behind; .. but no letter -/
def SegF (p : Nat) (a : List UInt8) (ts : List LT) : Prop := ∀ r ts', Lexes (p + a.length) r ts' → Lexes p (a ++ r) (ts ++ ts')
def Seg (p : Nat) (a : List UInt8) (ts : List LT) : Prop := ∀ r ts', (∀ c, r.head? = some c → letter c false = false) → Lexes (p + a.length) r ts' → Lexes p (a ++ r) (ts ++ ts')
/-- it begins with no letter -/
def NL (b : List UInt8) : Prop := ∃ c r, b = c :: r ∧ letter c false = false
variable {p : Nat} {a b : List UInt8} {ts ts' : List LT}
theorem NL.head (h : NL b) (r : List UInt8) : ∀ c, (b ++ r).head? = some c → letter c false = false := by
  obtain ⟨c, b', rfl, hc⟩ := h
  intro d hd
  simp at hd; subst hd; exact hc
theorem SegF.seg (h : SegF p a ts) : Seg p a ts := fun r ts' _ hl => h r ts' hl
theorem SegF.app (h : SegF p a ts) (h' : SegF (p + a.length) b ts') : SegF p (a ++ b) (ts ++ ts') := fun r us hl => by
  rw [List.append_assoc, List.append_assoc]
  refine h _ _ (h' r us ?_)
  rw [List.length_append, ← Nat.add_assoc] at hl; exact hl
theorem SegF.app_seg (h : SegF p a ts) (h' : Seg (p + a.length) b ts') : Seg p (a ++ b) (ts ++ ts') := fun r us hc hl => by
  rw [List.append_assoc, List.append_assoc]
  refine h _ _ (h' r us hc ?_)
  rw [List.length_append, ← Nat.add_assoc] at hl; exact hl
theorem Seg.app (h : Seg p a ts) (h' : SegF (p + a.length) b ts') (hb : NL b) : SegF p (a ++ b) (ts ++ ts') := fun r us hl => by
  rw [List.append_assoc, List.append_assoc]
  refine h _ _ (hb.head r) (h' r us ?_)
  rw [List.length_append, ← Nat.add_assoc] at hl; exact hl
theorem seg_gap (p : Nat) (c : UInt8) (hc : c = 32 ∨ c = 9 ∨ c = 10 ∨ c = 13) : SegF p [c] [] := fun r ts h => .gap p c r ts hc h
theorem seg_sign (p : Nat) (c : UInt8) (hc : signs.contains c = true) : SegF p [c] [⟨2, [c], none, p⟩] := fun r ts h => .sign p c r ts hc h
theorem seg_text (p : Nat) (l : List UInt8) : SegF p (quoteW l) [⟨3, l, none, p⟩] := fun r ts h => by
  have e : quoteW l ++ r = 34 :: (bytesW l ++ 34 :: r) := by simp [quoteW]
  rw [e]
  refine .text p (bytesW l) r l ts (escB_until (by decide) _ _ _ (Nat.le_refl _) (esc_bytes l)) (fun i => ?_) ?_
  · have := qGo_bytes l ((bytesW l).length + 1) i [] (by omega)
    simpa using this
  · have : (quoteW l).length = (bytesW l).length + 2 := by simp [quoteW]
    rw [this] at h; exact h
theorem seg_expr (p : Nat) (x : RE) (hx : readW (RE.ofW x) = (some x, 0, 0)) : SegF p ([47] ++ RE.ofW x ++ [47]) [⟨4, [], some x, p⟩] := fun r ts h => by
  have e : [47] ++ RE.ofW x ++ [47] ++ r = 47 :: (RE.ofW x ++ 47 :: r) := by simp
  rw [e]
  refine .expr p (RE.ofW x) r x ts (escB_until (by decide) _ _ _ (Nat.le_refl _) (esc_of x)) hx ?_
  have : ([47] ++ RE.ofW x ++ [47]).length = (RE.ofW x).length + 2 := by simp
  rw [this] at h; exact h
theorem seg_word (p : Nat) (b : UInt8) (n : List UInt8) (h1 : letter b true = true) (h2 : ∀ c ∈ n, letter c false = true) (h3 : n.length < 30) : Seg p (b :: n) [⟨1, b :: n, none, p⟩] := fun r ts h4 h => .name p b n r ts h1 h2 h3 h4 h
theorem nameF_all : ∀ n, nameF false n = true → ∀ c ∈ n, letter c false = true
  | [], _ => by simp
  | c :: n, h => by
    rw [nameF, Bool.and_eq_true] at h
    intro d hd
    rcases List.mem_cons.1 hd with rfl | hd
    · exact h.1
    · exact nameF_all n h.2 d hd
theorem seg_name (p : Nat) {s : List UInt8} (h : nameB s = true) : Seg p s [⟨1, s, none, p⟩] := by
  unfold nameB at h
  simp only [Bool.and_eq_true, Bool.not_eq_true', decide_eq_true_eq] at h
  obtain ⟨⟨⟨h1, h2⟩, _⟩, h3⟩ := h
  cases s with
  | nil => simp at h1
  | cons b n =>
    rw [nameF, Bool.and_eq_true] at h3
    exact seg_word p b n h3.1 (nameF_all n h3.2) (by simp at h2; omega)
theorem Seg.whole (h : Seg 0 a ts) : Lexes 0 a (ts ++ [⟨0, [], none, a.length⟩]) := by
  have := h [] [⟨0, [], none, a.length⟩] (by simp) (by simpa using Lexes.fin a.length)
  rwa [List.append_nil] at this
end LX
end Go.Proofs.YtgamknphlmcgnaaGreatDoor
end
