/-
  The parser's law: the head; ParseLexed: walked through the program.
-/
import Derived.Test.YticpjjmacmmpjaaGreatDoorPrQ
import Derived.Test.YticpjjmacmmpjaaGreatDoorPrE
set_option linter.unusedSimpArgs false
set_option linter.unusedVariables false
set_option maxRecDepth 100000
set_option linter.unnecessarySimpa false
namespace Go.Proofs.YticpjjmacmmpjaaGreatDoor
open Go.RowKit
variable {w w' W W' : World}
theorem TA.zero_fields (t : TA) : t.zero.op = t.op ∧ t.zero.at_ = t.at_ ∧ t.zero.name = t.name ∧ t.zero.re = t.re ∧ t.zero.text = t.text ∧ t.zero.back = t.back ∧ t.zero.kids = TA.zeros t.kids := by
  cases t; exact ⟨rfl, rfl, rfl, rfl, rfl, rfl, rfl⟩
/-- a term of two, as it lies in memory -/
theorem tm_two {w0 : World} {t : TA} {o : Nat} {q : Int} {n tx bk : List UInt8} {r : Option RE} {x y : TA} (h : TmB w0 W t) (hz : t.zero = TA.node 0 o q n r tx bk [x, y]) :
    ∃ (k0 k1 : TA) (kb ko cp : Nat), W.cell? ⟨t.b, 0, none⟩ = some (.int .i64 (o : Nat)) ∧ W.cell? ⟨t.b, 1, none⟩ = some (.int .i64 q) ∧ W.cell? ⟨t.b, 6, none⟩ = some (.slice (some ⟨kb, ko, none⟩) 2 cp) ∧ W.cell? ⟨kb, ko, none⟩ = some (ptr k0.b) ∧ W.cell? ⟨kb, ko + 1, none⟩ = some (ptr k1.b) ∧ k0.zero = x ∧ k1.zero = y ∧ IsTa W k0 ∧ IsTa W k1 := by
  obtain ⟨f1, f2, f3, f4, f5, f6, f7⟩ := t.zero_fields
  rw [hz] at f1 f2 f7
  obtain ⟨⟨rv, kp, cp, hn⟩, hk⟩ := h.is.open
  have hkids : ∃ k0 k1, t.kids = [k0, k1] ∧ k0.zero = x ∧ k1.zero = y := by
    have f7 : [x, y] = TA.zeros t.kids := f7
    match hkk : t.kids with
    | [] => rw [hkk] at f7; simp [TA.zeros] at f7
    | [_] => rw [hkk] at f7; simp [TA.zeros] at f7
    | [k0, k1] => rw [hkk] at f7; simp [TA.zeros] at f7; exact ⟨k0, k1, rfl, f7.1.symm, f7.2.symm⟩
    | _ :: _ :: _ :: _ => rw [hkk] at f7; simp [TA.zeros] at f7
  obtain ⟨k0, k1, hkk, hx, hy⟩ := hkids
  obtain ⟨c0, c1, _, _, _, _, c6⟩ := hn.cells
  have hrow := hn.2.2
  rw [hkk] at hrow c6 hk
  obtain ⟨kb, ko, rfl, hcell⟩ := hrow.at (by simp)
  have e0 := hcell 0 (by simp)
  have e1 := hcell 1 (by simp)
  exact ⟨k0, k1, kb, ko, cp, by rw [c0, ← f1]; rfl, by rw [c1, ← f2]; rfl, c6, by simpa using e0, by simpa using e1, hx, hy, hk k0 (by simp), hk k1 (by simp)⟩
theorem tm_cells {t : TA} {o : Nat} {q : Int} {n tx bk : List UInt8} {r : Option RE} {ks : List TA} (h : IsTa W t) (hz : t.zero = TA.node 0 o q n r tx bk ks) :
    W.cell? ⟨t.b, 0, none⟩ = some (.int .i64 (o : Nat)) ∧ W.cell? ⟨t.b, 2, none⟩ = some (.string ⟨n.toArray⟩) ∧ W.cell? ⟨t.b, 4, none⟩ = some (.string ⟨tx.toArray⟩) := by
  obtain ⟨f1, f2, f3, f4, f5, f6, f7⟩ := t.zero_fields
  rw [hz] at f1 f3 f5
  obtain ⟨⟨rv, kp, cp, hn⟩, _⟩ := h.open
  obtain ⟨c0, _, c2, _, c4, _, _⟩ := hn.cells
  exact ⟨by rw [c0, ← f1]; rfl, by rw [c2, ← f3]; rfl, by rw [c4, ← f5]; rfl⟩
/-- a program of one name -/
theorem pg_one {w0 : World} {B : Nat} {kv bv : Value} {l : PR.LetT} {lts : List (PR.LetT × TA)} (h : PgAt w0 W B [l] kv bv lts) :
    ∃ gl cp, kv = .slice (some ⟨gl, 0, none⟩) 1 cp ∧ W.cell? ⟨gl, 0, none⟩ = some (.string ⟨l.name.toArray⟩) ∧ W.cell? ⟨gl, 1, none⟩ = some (.int .i64 (l.at_ : Nat)) := by
  obtain ⟨h1, h2, h3⟩ := h.lets
  match lts, h1, h2 with
  | [x], h1, h2 =>
    obtain ⟨l', t⟩ := x
    simp only [List.map_cons, List.map_nil, List.cons.injEq, and_true] at h1
    subst h1
    obtain ⟨gl, cp, rfl, _, _⟩ := h2.form (by show 0 < 1; decide)
    have e0 := h2.cellAt 0 (by show 0 < 1 * 3; decide)
    have e1 := h2.cellAt 1 (by show 1 < 1 * 3; decide)
    simp [cellsLet] at e0 e1
    exact ⟨gl, cp, rfl, e0, e1⟩
set_option maxRecDepth 100000 in
set_option maxHeartbeats 1600000 in
theorem prHead_any (w : World) (hE : EnvP w) : Calls Tryz.prog 36 #[] w fun e w' => e = .returned (.bool true) ∧ Below w.heap.size w w' := by
  have HA := Lib.hid (prRead_any PR.headT w hE (by decide))
  rw [PR.head_parse] at HA
  have ht : PR.headT = [108, 101, 116, 32, 97, 32, 61, 32, 47, 120, 47, 32, 105, 110, 32, 99, 111, 112, 121, 32, 97, 32, 46, 32, 105, 110, 115, 32, 34, 98, 34] := rfl
  rw [ht] at HA
  clear ht hE
  go_enter Tryz.func36, Tryz.ntmps36
  go_wp2_with fail
  refine HA.out.mono ?_
  rintro e w1 ⟨v, rfl, hb, B, kv, lts, t, rfl, hpg, ht, hz⟩
  have HB := Lib.hid hb
  obtain ⟨p0, p1⟩ := hpg.cells
  obtain ⟨gl, cp, rfl, l0, l1⟩ := pg_one hpg
  obtain ⟨k0, k1, kb, ko, cp2, t0, t1, t6, e0, e1, hx, hy, hk0, hk1⟩ := tm_two ht hz
  obtain ⟨a0, _, _⟩ := tm_cells hk0 hx
  obtain ⟨_, _, b4⟩ := tm_cells hk1 hy
  have l0 : w1.cell? ⟨gl, 0, none⟩ = some (.string ⟨#[97]⟩) := l0
  have l1 : w1.cell? ⟨gl, 1, none⟩ = some (.int .i64 4) := l1
  have b4 : w1.cell? ⟨k1.b, 4, none⟩ = some (.string ⟨#[98]⟩) := b4
  clear hpg ht hz hb hx hy hk0 hk1 HA
  go_wp2_with fail
  go_ret
  exact ⟨rfl, HB.out⟩
set_option maxRecDepth 100000 in
set_option maxHeartbeats 1600000 in
theorem ParseLexed_any (s : List UInt8) (w : World) (hT : Tab w) (hWo : WordsAt w) (hs0 : s.length ≤ 9223372036854775807) : Calls Tryz.prog 7 #[.string ⟨s.toArray⟩] w fun e w' => e = .returned (.bool true) ∧ Below w.heap.size w w' := by
  have hsz : (⟨s.toArray⟩ : ByteArray).size = s.length := str_size s
  have HE := Lib.hid (EnvP.mk hT hWo)
  have HH := Lib.hid (prHead_any w HE.out)
  have HLA : Hid (s.length ≤ 300 → ∀ W, Tab W → Calls Tryz.prog 20 #[.string ⟨s.toArray⟩] W (LexPost W (lexW s))) := fun h W hW => lxAll_any W s hW (by omega)
  have HPR : Hid (s.length ≤ 300 → ∀ W, EnvP W → Calls Tryz.prog 37 #[.string ⟨s.toArray⟩] W (PReadPost W (parseW s))) := fun h W hW => prRead_any s W hW (by omega)
  have HX : Hid ((lexW s).2.1 ≠ 0 → parseW s = (none, (lexW s).2.1, (lexW s).2.2)) := fun h => by unfold parseW; rw [if_pos h]
  generalize parseW s = P at *
  generalize lexW s = L at *
  generalize (⟨s.toArray⟩ : ByteArray) = S at *
  obtain ⟨out, en, q⟩ := L
  clear hT hWo
  by_cases h300 : 300 < s.length
  · have h300' : (300 : Int) < (s.length : Nat) := by omega
    go_enter Tryz.func7, Tryz.ntmps7
    go_wp2_with fail
    refine HH.out.mono ?_
    rintro e w1 ⟨rfl, hb⟩
    go_wp2_with fail
    go_ret
    exact ⟨rfl, hb⟩
  · have h300' : ¬ (300 : Int) < (s.length : Nat) := by omega
    go_enter Tryz.func7, Tryz.ntmps7
    go_wp2_with fail
    refine HH.out.mono ?_
    rintro e w1 ⟨rfl, hb1⟩
    go_wp2_with fail
    refine (HLA.out (by omega) _ (HE.out.tab.later hb1)).mono ?_
    rintro e w2 ⟨v, rfl, _, hb2⟩
    have HB2 := Lib.hid (ext_step hb1 hb2)
    clear hb1 hb2
    go_wp2_with fail
    refine (HPR.out (by omega) _ (HE.out.later HB2.out)).mono ?_
    rintro e w3 ⟨v3, rfl, hb3, hv3⟩
    have HB3 := Lib.hid (ext_step HB2.out hb3)
    clear hb3
    by_cases hen : en = 0
    · have e0 : (((en : Nat) : Int) == 0) = true := by rw [hen]; rfl
      go_wp2_with fail
      go_ret
      exact ⟨rfl, HB3.out⟩
    · have hp := HX.out hen
      subst hp
      have hv3 : v3 = .pointer none := hv3
      subst hv3
      have e0 := (ne_tuple en hen).2
      go_wp2_with fail
      go_ret
      exact ⟨rfl, HB3.out⟩
end Go.Proofs.YticpjjmacmmpjaaGreatDoor
