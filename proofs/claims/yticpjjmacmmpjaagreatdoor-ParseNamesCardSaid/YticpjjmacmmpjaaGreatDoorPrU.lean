/-
  ParseNames, walked through the program.
-/
import Derived.Test.YticpjjmacmmpjaaGreatDoorPrV
import Derived.Test.YticpjjmacmmpjaaGreatDoorPrR
set_option linter.unusedSimpArgs false
set_option linter.unusedVariables false
set_option maxRecDepth 100000
set_option linter.unnecessarySimpa false
namespace Go.Proofs.YticpjjmacmmpjaaGreatDoor
open Go.RowKit
/-- a term of one kid, as it lies in memory -/
theorem tm_kid {W : World} {t : TA} {o : Nat} {q : Int} {n tx bk : List UInt8} {r : Option RE} {x : TA} (h : IsTa W t) (hz : t.zero = TA.node 0 o q n r tx bk [x]) :
    ∃ (k0 : TA) (kb ko cp : Nat), W.cell? ⟨t.b, 6, none⟩ = some (.slice (some ⟨kb, ko, none⟩) 1 cp) ∧ W.cell? ⟨kb, ko, none⟩ = some (ptr k0.b) ∧ k0.zero = x ∧ IsTa W k0 := by
  obtain ⟨f1, f2, f3, f4, f5, f6, f7⟩ := t.zero_fields
  rw [hz] at f7
  obtain ⟨⟨rv, kp, cp, hn⟩, hk⟩ := h.open
  have hkids : ∃ k0, t.kids = [k0] ∧ k0.zero = x := by
    have f7 : [x] = TA.zeros t.kids := f7
    match hkk : t.kids with
    | [] => rw [hkk] at f7; simp [TA.zeros] at f7
    | [k0] => rw [hkk] at f7; simp [TA.zeros] at f7; exact ⟨k0, rfl, f7.symm⟩
    | _ :: _ :: _ => rw [hkk] at f7; simp [TA.zeros] at f7
  obtain ⟨k0, hkk, hx⟩ := hkids
  obtain ⟨_, _, _, _, _, _, c6⟩ := hn.cells
  have hrow := hn.2.2
  rw [hkk] at hrow c6 hk
  obtain ⟨kb, ko, rfl, hcell⟩ := hrow.at (by simp)
  have e0 := hcell 0 (by simp)
  exact ⟨k0, kb, ko, cp, c6, by simpa using e0, hx, hk k0 (by simp)⟩
theorem app_size (a b : ByteArray) (x y : Nat) (ha : a.size = x) (hb : b.size = y) : (a ++ b).size = x + y := by rw [ByteArray.size_append, ha, hb]
theorem nmT3_bytes (s : List UInt8) : (⟨#[108, 101, 116, 32]⟩ ++ ⟨s.toArray⟩ ++ ⟨#[32, 61, 32, 99, 111, 112, 121, 32]⟩ ++ ⟨s.toArray⟩ ++ ⟨#[32, 105, 110, 32, 107, 101, 121, 32]⟩ ++ ⟨s.toArray⟩ ++ ⟨#[32]⟩ ++ ⟨s.toArray⟩ ++ ⟨#[32, 124, 32]⟩ ++ ⟨s.toArray⟩ : ByteArray) = ⟨(PR.nmT3 s).toArray⟩ := ByteArray.ext (by simp [PR.nmT3])
set_option maxRecDepth 100000 in
set_option maxHeartbeats 4000000 in
theorem ParseNames_any (n : Int) (s : List UInt8) (w : World) (hT : Tab w) (hWo : WordsAt w) (hs0 : s.length ≤ 9223372036854775807) : Calls Tryz.prog 11 #[.int .i64 n, .string ⟨s.toArray⟩] w fun e w' => e = .returned (.bool true) ∧ Below w.heap.size w w' := by
  have hu : (IntKind.u64.wrap n).tmod 14 = (uRem n 14 : Nat) := uRem_eq n 14
  have hul := uRem_lt n 14 (by omega)
  generalize uRem n 14 = i at *
  have hsz : (⟨s.toArray⟩ : ByteArray).size = s.length := str_size s
  have HE := Lib.hid (EnvP.mk hT hWo)
  have HH := Lib.hid (prHead_any w HE.out)
  have HNM := Lib.hid (fun W => Name_any s W hs0)
  have HP3 : Hid (LX.nameB s = true → ∃ b c e g x j : Nat, ∀ W, EnvP W → Calls Tryz.prog 37 #[.string (⟨#[108, 101, 116, 32]⟩ ++ ⟨s.toArray⟩ ++ ⟨#[32, 61, 32, 99, 111, 112, 121, 32]⟩ ++ ⟨s.toArray⟩ ++ ⟨#[32, 105, 110, 32, 107, 101, 121, 32]⟩ ++ ⟨s.toArray⟩ ++ ⟨#[32]⟩ ++ ⟨s.toArray⟩ ++ ⟨#[32, 124, 32]⟩ ++ ⟨s.toArray⟩)] W (PReadPost W (some ([⟨s, 4, PR.copyT s b c⟩], TA.node 0 7 (x : Nat) [] none [] [] [PR.keyT s e g, PR.nameT ⟨1, s, none, j⟩]), 0, 0))) := fun h => by
    obtain ⟨b, c, e, g, x, j, hp⟩ := PR.nm_parse h
    have hlen : s.length ≤ 30 := by
      obtain ⟨b, n, rfl, _, _, h3⟩ := PR.name_open h
      simp; omega
    refine ⟨b, c, e, g, x, j, fun W hW => ?_⟩
    rw [nmT3_bytes, ← hp]
    exact prRead_any _ W hW (by simp [PR.nmT3]; omega)
  have hcase : i = 0 ∨ i = 1 ∨ i = 2 ∨ i = 3 ∨ i = 4 ∨ i = 5 ∨ i = 6 ∨ i = 7 ∨ i = 8 ∨ i = 9 ∨ i = 10 ∨ i = 11 ∨ i = 12 ∨ i = 13 := by omega
  clear hT hWo hs0
  go_enter Tryz.func11, Tryz.ntmps11
  go_wp2_with fail
  refine HH.out.mono ?_
  rintro e w1 ⟨rfl, hb⟩
  have HB1 := Lib.hid hb
  clear hb HH
  have HALL := Lib.hid (PR.nmW_kernel i hul)
  have htl : ∀ j, j < 14 → (PR.nmW.getD j []).length ≤ 5 := by decide
  have hti := htl i hul
  clear htl
  go_upto_region 4 with fail
  generalize hW1 : World.alloc w1 _ = W1 at *
  have hc0 : W1.cell? ⟨w1.heap.size, i, none⟩ = some (.string ⟨(PR.nmW.getD i []).toArray⟩) := by
    rw [← hW1, cell_of_row _ _ _ _ _ _ (heap_alloc_last w1 _)]
    rcases hcase with rfl | rfl | rfl | rfl | rfl | rfl | rfl | rfl | rfl | rfl | rfl | rfl | rfl | rfl
    all_goals rfl
  have hbx : Below w1.heap.size w1 W1 := by rw [← hW1]; exact re_alloc w1 _
  have HBX := Lib.hid (HB1.out.trans (hbx.mono HB1.out.size))
  clear hW1 hbx hcase
  obtain ⟨T, hT⟩ : ∃ T, PR.nmW.getD i [] = T := ⟨_, rfl⟩
  rw [hT] at hc0 hti HALL
  clear hT
  have hTs : (⟨T.toArray⟩ : ByteArray).size = T.length := str_size T
  have HK1 : Hid (∀ W, EnvP W → Calls Tryz.prog 37 #[.string (⟨#[107, 101, 121, 32]⟩ ++ ⟨T.toArray⟩ ++ ⟨#[32, 47, 97, 47]⟩)] W fun e w' => ∃ v, e = .returned (.tuple #[v, .int .i64 2, .int .i64 4]) ∧ Below W.heap.size W w') := fun W hEW => by
    have eb : (⟨#[107, 101, 121, 32]⟩ ++ ⟨T.toArray⟩ ++ ⟨#[32, 47, 97, 47]⟩ : ByteArray) = ⟨([107, 101, 121, 32] ++ T ++ [32, 47, 97, 47]).toArray⟩ := ByteArray.ext (by simp)
    rw [eb]
    have hg := HALL.out.1
    refine (prRead_any _ W hEW (by simp; omega)).mono ?_
    rintro e w' ⟨v, rfl, hb, _⟩
    rw [hg]
    exact ⟨v, rfl, hb⟩
  have HK2 : Hid (∀ W, EnvP W → Calls Tryz.prog 37 #[.string (⟨#[108, 101, 116, 32]⟩ ++ ⟨T.toArray⟩ ++ ⟨#[32, 61, 32, 47, 97, 47, 32, 105, 110, 32, 120]⟩)] W fun e w' => ∃ v, e = .returned (.tuple #[v, .int .i64 2, .int .i64 4]) ∧ Below W.heap.size W w') := fun W hEW => by
    have eb : (⟨#[108, 101, 116, 32]⟩ ++ ⟨T.toArray⟩ ++ ⟨#[32, 61, 32, 47, 97, 47, 32, 105, 110, 32, 120]⟩ : ByteArray) = ⟨([108, 101, 116, 32] ++ T ++ [32, 61, 32, 47, 97, 47, 32, 105, 110, 32, 120]).toArray⟩ := ByteArray.ext (by simp)
    rw [eb]
    have hg := HALL.out.2
    refine (prRead_any _ W hEW (by simp; omega)).mono ?_
    rintro e w' ⟨v, rfl, hb, _⟩
    rw [hg]
    exact ⟨v, rfl, hb⟩
  clear HALL
  generalize (⟨T.toArray⟩ : ByteArray) = Z at *
  have hz1 : (⟨#[107, 101, 121, 32]⟩ ++ Z : ByteArray).size = 4 + T.length := app_size _ _ _ _ rfl hTs
  have hz2 : (⟨#[108, 101, 116, 32]⟩ ++ Z : ByteArray).size = 4 + T.length := app_size _ _ _ _ rfl hTs
  go_wp2_with fail
  refine (HK1.out _ (HE.out.later HBX.out)).mono ?_
  rintro e w2 ⟨v1, rfl, hb⟩
  have HB2 := Lib.hid (ext_step HBX.out hb)
  clear hb HK1
  go_wp2_with fail
  refine (HK2.out _ (HE.out.later HB2.out)).mono ?_
  rintro e w3 ⟨v2, rfl, hb⟩
  have HB3 := Lib.hid (ext_step HB2.out hb)
  clear hb HK2 hz1 hz2
  by_cases h40 : 40 < s.length
  · have h40' : (40 : Int) < (s.length : Nat) := by omega
    generalize (⟨s.toArray⟩ : ByteArray) = S at *
    go_wp2_with fail
    go_ret
    exact ⟨rfl, HB3.out⟩
  · have h40' : ¬ (40 : Int) < (s.length : Nat) := by omega
    obtain ⟨S, hS⟩ : ∃ S : ByteArray, (⟨s.toArray⟩ : ByteArray) = S := ⟨_, rfl⟩
    have HS := Lib.hid hS
    rw [hS] at HNM HP3 hsz
    rw [hS]
    clear hS
    go_wp2_with fail
    refine (HNM.out _).mono ?_
    rintro e w4 ⟨rfl, rfl⟩
    by_cases hn : LX.nameB s = true
    · obtain ⟨b, c, e, g, x, j, HP⟩ := HP3.out hn
      have HP := Lib.hid HP
      rw [hn]
      have y1 : (⟨#[108, 101, 116, 32]⟩ ++ S : ByteArray).size = 4 + s.length := app_size _ _ _ _ rfl hsz
      have y2 := app_size (⟨#[108, 101, 116, 32]⟩ ++ S) ⟨#[32, 61, 32, 99, 111, 112, 121, 32]⟩ _ 8 y1 rfl
      have y3 := app_size _ _ _ _ y2 hsz
      have y4 := app_size _ ⟨#[32, 105, 110, 32, 107, 101, 121, 32]⟩ _ 8 y3 rfl
      have y5 := app_size _ _ _ _ y4 hsz
      have y6 := app_size _ ⟨#[32]⟩ _ 1 y5 rfl
      have y7 := app_size _ _ _ _ y6 hsz
      have y8 := app_size _ ⟨#[32, 124, 32]⟩ _ 3 y7 rfl
      clear hn HP3 HNM
      go_wp2_with fail
      refine (HP.out _ (HE.out.later HB3.out)).mono ?_
      rintro e w5 ⟨v, rfl, hb, B, kv, lts, t, rfl, hpg, ht, hz⟩
      have HB4 := Lib.hid (ext_step HB3.out hb)
      obtain ⟨p0, p1⟩ := hpg.cells
      obtain ⟨gl, cp, rfl, l0, _⟩ := pg_one hpg
      obtain ⟨k0, k1, kb, ko, cp2, t0, _, t6, e0, e1, hx, hy, hk0, hk1⟩ := tm_two ht hz
      obtain ⟨_, a2, _⟩ := tm_cells hk0 hx
      obtain ⟨_, b2, _⟩ := tm_cells hk1 hy
      obtain ⟨k2, kb2, ko2, cp3, a6, e2, hx2, hk2⟩ := tm_kid hk0 hx
      obtain ⟨_, c2, _⟩ := tm_cells hk2 hx2
      replace l0 : w5.cell? ⟨gl, 0, none⟩ = some (.string S) := by rw [← HS.out]; exact l0
      replace t0 : w5.cell? ⟨t.b, 0, none⟩ = some (.int .i64 7) := t0
      replace a2 : w5.cell? ⟨k0.b, 2, none⟩ = some (.string S) := by rw [← HS.out]; exact a2
      replace b2 : w5.cell? ⟨k1.b, 2, none⟩ = some (.string S) := by rw [← HS.out]; exact b2
      replace c2 : w5.cell? ⟨k2.b, 2, none⟩ = some (.string S) := by rw [← HS.out]; exact c2
      clear hpg ht hz hb hx hy hk0 hk1 hx2 hk2 HP y1 y2 y3 y4 y5 y6 y7 y8
      go_wp2_with fail
      go_ret
      exact ⟨rfl, HB4.out⟩
    · have hn' : LX.nameB s = false := by simpa using hn
      rw [hn']
      clear hn hn' HP3 HNM
      go_wp2_with fail
      go_ret
      exact ⟨rfl, HB3.out⟩
end Go.Proofs.YticpjjmacmmpjaaGreatDoor
