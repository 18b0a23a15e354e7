/-
  ParseReads, walked through the program. What the listed variables' data give the walks: the library's table and the ops' words lie as their initialisers lay them.
-/
import Derived.Test.YtgamknphlmcgnaaGreatDoorRows
import Derived.Test.YtgamknphlmcgnaaGreatDoorTie
import Derived.ProofKit
import Derived.LaidMore
import Derived.OpenShut
import Derived.Stop.Joined
import Derived.Test.YtgamknphlmcgnaaGreatDoorZrA
import Derived.Test.YtgamknphlmcgnaaGreatDoorZrB
import Derived.Test.YtgamknphlmcgnaaGreatDoorZrC
import Derived.Test.YtgamknphlmcgnaaGreatDoorZrD
import Derived.Test.YtgamknphlmcgnaaGreatDoorZrE
import Derived.Test.YtgamknphlmcgnaaGreatDoorZrF
import Derived.Test.YtgamknphlmcgnaaGreatDoorZrG
import Derived.Test.YtgamknphlmcgnaaGreatDoorZrH
import Derived.Test.YtgamknphlmcgnaaGreatDoorZrI
import Derived.Test.YtgamknphlmcgnaaGreatDoorZrJ
import Derived.Test.YtgamknphlmcgnaaGreatDoorZrK
import Derived.Test.YtgamknphlmcgnaaGreatDoorZrL
import Derived.Test.YtgamknphlmcgnaaGreatDoorZrM
import Derived.Test.YtgamknphlmcgnaaGreatDoorZrN
import Derived.Test.YtgamknphlmcgnaaGreatDoorZrO
import Derived.Test.YtgamknphlmcgnaaGreatDoorZrP
section
set_option linter.unusedSimpArgs false
set_option linter.unusedVariables false
set_option maxRecDepth 100000
set_option linter.unnecessarySimpa false
namespace Go.Proofs.YtgamknphlmcgnaaGreatDoor
open Go.RowKit
namespace PR
theorem mem_size {l : LetT} {ls : List LetT} (h : l ∈ ls) : l.term.size ≤ szs ls := by
  induction ls with
  | nil => simp at h
  | cons a ls ih =>
    have e : szs (a :: ls) = a.term.size + szs ls := by simp [szs]
    rcases List.mem_cons.1 h with rfl | h
    · omega
    · have := ih h; omega
theorem progOk_pg {M : Nat} (hM : M ≤ 300) {ls : List LetT} {b : TA} (h : ProgOk RE.nf M ls b) : PgOk ls b := by
  obtain ⟨h1, h2, h3, h4, h5⟩ := h
  have hK : ∀ s, s ≤ 1000 → s * wK M ≤ 1073741824 := fun s hs => by
    have : s * wK M ≤ 1000 * wK M := Nat.mul_le_mul hs (Nat.le_refl _)
    unfold wK at *; omega
  refine ⟨fun l hl => ?_, (sh_fine (fun _ h => h) h2).1, ?_, by omega⟩
  · obtain ⟨g1, g2, g3⟩ := h1 l hl
    have := mem_size hl
    exact ⟨by have := nameB_len g1; omega, (sh_fine (fun _ h => h) g2).1, Nat.le_trans (sh_fine (fun _ h => h) g2).2 (hK _ (by omega))⟩
  · exact Nat.le_trans (sh_fine (fun _ h => h) h2).2 (hK _ (by omega))
theorem LetsEq.mem {ls ms : List LetT} (h : LetsEq ls ms) : ∀ l ∈ ls, ∃ m ∈ ms, LetEq l m := by
  induction h with
  | nil => intro l hl; simp at hl
  | cons h hs ih =>
    intro l hl
    rcases List.mem_cons.1 hl with rfl | hl
    · exact ⟨_, by simp, h⟩
    · obtain ⟨m, h1, h2⟩ := ih l hl
      exact ⟨m, by simp [h1], h2⟩
theorem pgOk_eq {ls ms : List LetT} {b b' : TA} (h : LetsEq ls ms) (hb : b.bare = b'.bare) (ho : PgOk ms b') : PgOk ls b := by
  obtain ⟨h1, h2, h3, h4⟩ := ho
  refine ⟨fun l hl => ?_, ?_, ?_, by rw [h.length]; exact h4⟩
  · obtain ⟨m, hm, e1, e2⟩ := h.mem l hl
    obtain ⟨g1, g2, g3⟩ := h1 m hm
    exact ⟨by rw [e1]; exact g1, by rw [← TA.ok_bare, e2, TA.ok_bare]; exact g2, by rw [← TA.wt_bare, e2, TA.wt_bare]; exact g3⟩
  · rw [← TA.ok_bare, hb, TA.ok_bare]; exact h2
  · rw [← TA.wt_bare, hb, TA.wt_bare]; exact h3
end PR
/-- what is read of a text, and of the text of what was read -/
theorem reads_all (s : List UInt8) (hs : s.length ≤ 300) : (∃ e a, parseW s = (none, e, a) ∧ (e = 2 ∨ e = 3 ∨ e = 4) ∧ a ≤ s.length) ∨
    ∃ ls b, parseW s = (some (ls, b), 0, 0) ∧ PgOk ls b ∧ PR.szs ls + b.size ≤ 1000 ∧ ((PR.progStr ls b).length ≤ 65536 → ∃ ls' b', parseW (PR.progStr ls b) = (some (ls', b'), 0, 0) ∧ PgOk ls' b' ∧ PR.progStr ls' b' = PR.progStr ls b ∧ PR.samePg ls' b' ls b = true ∧ PR.szs ls' + b'.size ≤ 1000) := by
  rcases parseW_all s with ⟨ls, b, h1, h2⟩ | ⟨e, a, h1, h2⟩
  · right
    have hok := PR.progOk_pg hs h2
    refine ⟨ls, b, h1, hok, h2.2.2.2.1, fun hl => ?_⟩
    obtain ⟨ls', b', g1, g2, g3⟩ := parse_again h2 (fun x hx hxl => by
      have hb := hx.2
      have hsz := PR.big_size hb
      have hdp : deepW (RE.ofW x) ≤ 60 := by
        unfold PR.big at hb
        simp only [Bool.or_eq_false_iff, decide_eq_false_iff_not] at hb
        have : RE.ofO (some x) = RE.ofW x := rfl
        rw [this] at hb
        omega
      rcases again x hx.1 hsz hdp (.inr trivial) with h | h
      · exact h
      · omega) hl
    refine ⟨ls', b', g1, PR.pgOk_eq g2 g3 hok, g2.str g3, PR.same_pg g2 g3, ?_⟩
    rcases parseW_all (PR.progStr ls b) with ⟨l2, b2, k1, k2⟩ | ⟨e, a, k1, _⟩
    · rw [g1] at k1
      injection k1 with k1 _
      injection k1 with k1
      injection k1 with k3 k4
      subst k3 k4
      exact k2.2.2.2.1
    · rw [g1] at k1
      injection k1 with k1 _
      cases k1
  · exact .inl ⟨e, a, h1, h2⟩
set_option maxRecDepth 100000 in
set_option maxHeartbeats 4000000 in
theorem ParseReads_any (s : List UInt8) (w : World) (hT : Tab w) (hWo : WordsAt w) (hs0 : s.length ≤ 9223372036854775807) : Calls Tryz.prog 9 #[.string ⟨s.toArray⟩] w fun e w' => e = .returned (.bool true) ∧ Below w.heap.size w w' := by
  have hsz : (⟨s.toArray⟩ : ByteArray).size = s.length := str_size s
  have HE := Lib.hid (EnvP.mk hT hWo)
  have HH := Lib.hid (prHead_any w HE.out)
  have HPR : Hid (s.length ≤ 300 → ∀ W, EnvP W → Calls Tryz.prog 16 #[.string ⟨s.toArray⟩] W (PReadPost W (parseW s))) := fun h W hW => prRead_any s W hW (by omega)
  have HX : Hid (s.length ≤ 300 → (∃ e a, parseW s = (none, e, a) ∧ (e = 2 ∨ e = 3 ∨ e = 4) ∧ a ≤ s.length) ∨ ∃ ls b, parseW s = (some (ls, b), 0, 0) ∧ PgOk ls b ∧ PR.szs ls + b.size ≤ 1000 ∧ ((PR.progStr ls b).length ≤ 65536 → ∃ ls' b', parseW (PR.progStr ls b) = (some (ls', b'), 0, 0) ∧ PgOk ls' b' ∧ PR.progStr ls' b' = PR.progStr ls b ∧ PR.samePg ls' b' ls b = true ∧ PR.szs ls' + b'.size ≤ 1000)) := reads_all s
  generalize parseW s = P at *
  generalize (⟨s.toArray⟩ : ByteArray) = S at *
  clear hT hWo
  by_cases h300 : 300 < s.length
  · have h300' : (300 : Int) < (s.length : Nat) := by omega
    go_enter Tryz.func9, Tryz.ntmps9
    go_wp2_with fail
    refine HH.out.mono ?_
    rintro e w1 ⟨rfl, hb⟩
    go_wp2_with fail
    go_ret
    exact ⟨rfl, hb⟩
  · have h300' : ¬ (300 : Int) < (s.length : Nat) := by omega
    rcases HX.out (by omega) with ⟨en, q, rfl, hen, hq⟩ | ⟨ls, b, rfl, hok, hsz1, hag⟩
    · have hq0 : (0 : Int) ≤ (q : Nat) := by omega
      have hq1 : (q : Int) ≤ (s.length : Nat) := by omega
      clear HX
      go_enter Tryz.func9, Tryz.ntmps9
      go_wp2_with fail
      refine HH.out.mono ?_
      rintro e w1 ⟨rfl, hb1⟩
      go_wp2_with fail
      refine (HPR.out (by omega) _ (HE.out.later hb1)).mono ?_
      rintro e w2 ⟨v, rfl, hb2, hv⟩
      have hv : v = .pointer none := hv
      subst hv
      have hB := ext_step hb1 hb2
      clear hb1 hb2 hq
      rcases hen with rfl | rfl | rfl
      all_goals
        go_wp2_with fail
        go_ret
        exact ⟨rfl, hB⟩
    · clear HX
      have HOK := Lib.hid hok
      have HAG := Lib.hid hag
      have HSZ := Lib.hid hsz1
      clear hok hag hsz1
      go_enter Tryz.func9, Tryz.ntmps9
      go_wp2_with fail
      refine HH.out.mono ?_
      rintro e w1 ⟨rfl, hb1⟩
      go_wp2_with fail
      refine (HPR.out (by omega) _ (HE.out.later hb1)).mono ?_
      rintro e w2 ⟨v, rfl, hb2, hv⟩
      have hv : PgV w1 w2 v (ls, b) := hv
      obtain ⟨B, kv, b0, ts, rfl, hpm, hbz⟩ := hv.m
      have hbz : b0.zero = b := hbz
      have hpm : PgM w2 B ls kv b0 ts := hpm
      have HPM := Lib.hid hpm
      have HBZ := Lib.hid hbz
      have HB2 := Lib.hid (ext_step hb1 hb2)
      have HST := Lib.hid (pgString_any w2 (HE.out.later HB2.out) hpm (by rw [hbz]; exact HOK.out))
      rw [hbz] at HST
      clear hb1 hb2 hv hpm hbz HPR
      obtain ⟨tx, htx⟩ : ∃ tx, PR.progStr ls b = tx := ⟨_, rfl⟩
      rw [htx] at HST HAG
      have HTX := Lib.hid htx
      have htl := str_size tx
      clear htx
      obtain ⟨TX, hTX⟩ : ∃ TX : ByteArray, (⟨tx.toArray⟩ : ByteArray) = TX := ⟨_, rfl⟩
      have HTXE := Lib.hid hTX
      rw [hTX] at htl
      have HST2 : Hid (Calls Tryz.prog 45 #[ptr B] w2 fun e w' => e = .returned (.string TX) ∧ Below w2.heap.size w2 w') := by
        show Calls _ _ _ _ _
        rw [← hTX]; exact HST.out
      clear hTX HST
      go_wp2_with fail
      refine HST2.out.mono ?_
      rintro e w3 ⟨rfl, hb3⟩
      have HB3 := Lib.hid (ext_step HB2.out hb3)
      have HPM3 := Lib.hid (HPM.out.later hb3)
      clear hb3 HST2
      by_cases hbig : 65536 < tx.length
      · have hbig' : (65536 : Int) < (tx.length : Nat) := by omega
        go_wp2_with fail
        go_ret
        exact ⟨rfl, HB3.out⟩
      · have hbig' : ¬ (65536 : Int) < (tx.length : Nat) := by omega
        obtain ⟨ls', b', hp2, hok2, hstr, hsame, hsz2⟩ := HAG.out (by omega)
        have HRD : Hid (Calls Tryz.prog 16 #[.string TX] w3 (PReadPost w3 (some (ls', b'), 0, 0))) := by
          show Calls _ _ _ _ _
          rw [← HTXE.out, ← hp2]
          exact prRead_any tx w3 (HE.out.later HB3.out) (by omega)
        have HOK2 := Lib.hid hok2
        have HSTR := Lib.hid hstr
        have HSM := Lib.hid hsame
        have HSZ2 := Lib.hid hsz2
        clear hp2 hok2 hstr hsame hsz2 HAG
        go_wp2_with fail
        refine HRD.out.mono ?_
        rintro e w4 ⟨v4, rfl, hb4, hv4⟩
        have hv4 : PgV w3 w4 v4 (ls', b') := hv4
        obtain ⟨B4, kv4, b4, ts4, rfl, hpm4, hbz4⟩ := hv4.m
        have hbz4 : b4.zero = b' := hbz4
        have hpm4 : PgM w4 B4 ls' kv4 b4 ts4 := hpm4
        have HPM4 := Lib.hid hpm4
        have HB4 := Lib.hid (ext_step HB3.out hb4)
        have HPMo := Lib.hid (HPM3.out.later hb4)
        have HSA := Lib.hid (pgSame_any w4 hpm4 HPMo.out (fun i hi => by
          have hm : ls'.getD i letT0 ∈ ls' := by simp only [List.getD, List.getElem?_eq_getElem hi, Option.getD_some]; exact List.getElem_mem hi
          have := PR.mem_size hm
          have := HSZ2.out; omega) (by have := HSZ2.out; rw [← TA.size_zero, hbz4]; omega) (by have := HOK2.out.2.2.2; omega))
        rw [hbz4, HBZ.out, HSM.out] at HSA
        have HBZ4 := Lib.hid hbz4
        clear hb4 hv4 hpm4 hbz4 HRD
        go_wp2_with fail
        refine HSA.out.mono ?_
        rintro e w5 ⟨rfl, hb5⟩
        have HB5 := Lib.hid (ext_step HB4.out hb5)
        have HPM5 := Lib.hid (HPM4.out.later hb5)
        have HST5 : Hid (Calls Tryz.prog 45 #[ptr B4] w5 fun e w' => e = .returned (.string TX) ∧ Below w5.heap.size w5 w') := by
          show Calls _ _ _ _ _
          have := pgString_any w5 (HE.out.later HB5.out) HPM5.out (by rw [HBZ4.out]; exact HOK2.out)
          rw [HBZ4.out, HSTR.out] at this
          rw [← HTXE.out]; exact this
        clear hb5
        go_wp2_with fail
        refine HST5.out.mono ?_
        rintro e w6 ⟨rfl, hb6⟩
        have HB6 := Lib.hid (ext_step HB5.out hb6)
        clear hb6
        go_wp2_with fail
        go_ret
        exact ⟨rfl, HB6.out⟩
end Go.Proofs.YtgamknphlmcgnaaGreatDoor
end
section
set_option linter.unusedSimpArgs false
set_option linter.unusedVariables false
set_option maxRecDepth 100000
set_option linter.unnecessarySimpa false
namespace Go.Proofs.YtgamknphlmcgnaaGreatDoor
open Go.ChangeShapes Go.WideShapes Go.ChangeAt Go.WideMaps Go.WideElems Go.RowKit
abbrev allLaid : List (String × DataW Unit) := [("math/bits.deBruijn32tab", Rows.laid_math_bits_deBruijn32tab), ("math/bits.deBruijn64tab", Rows.laid_math_bits_deBruijn64tab), ("internal/strconv.uint64pow10", Rows.laid_internal_strconv_uint64pow10), ("periscope/lens.words", Rows.laid_periscope_lens_words)]
theorem gTab : Tryz.prog.globalNamed "math/bits.deBruijn64tab" = some (Tryz.lays29_ren.g 1) := by kernel_rfl
theorem door_met (os : Os) (args : Array Value) : laidMetH Tryz.prog allLaid ((World.doorLaid Tryz.prog 400 os).forCall (fun _ _ => 0) ⟨#[], args, []⟩).memory :=
  laidMetH_of_parts3 (fuel := 8) (laidMet_of_run' 8 (by kernel_rfl) (by kernel_rfl)) (by kernel_rfl) (by kernel_rfl)
theorem tTab : (Tryz.prog.globals[Tryz.lays29_ren.g 1]?).map (·.type) = some 216 := by kernel_rfl
theorem cTab : Tryz.prog.cellsOf 5 = 1 := by kernel_rfl
theorem lTab : (Rows.laid_math_bits_deBruijn64tab : DataW Unit) = .agg (Lib.deBruijn64tab.map fun (n : Nat) => .lit (.int .u8 (n : Int))) := by kernel_rfl
theorem gWo : Tryz.prog.globalNamed "periscope/lens.words" = some 0 := by kernel_rfl
theorem tWo : (Tryz.prog.globals[0]?).map (·.type) = some 182 := by kernel_rfl
theorem cWo : Tryz.prog.cellsOf 9 = 1 := by kernel_rfl
theorem lWo : (Rows.laid_periscope_lens_words : DataW Unit) = .agg (opWords.map fun l => .lit (.string l)) := by kernel_rfl
theorem of_laid {W : World} (h : laidMetH Tryz.prog allLaid W) : Tab W ∧ WordsAt W := by
  rw [MakeChecks.laidMetH_plain _ _ _ (by kernel_rfl)] at h
  obtain ⟨ps, ⟨g0, t0, cs0, f0, p0, q0, hg0, ht0, hv0, hd0, ⟨g1, t1, cs1, f1, p1, q1, hg1, ht1, hv1, hd1, ⟨g2, t2, cs2, f2, p2, q2, hg2, ht2, hv2, hd2, ⟨g3, t3, cs3, f3, p3, q3, hg3, ht3, hv3, hd3, _⟩, _⟩, _⟩, _⟩, h2, h3⟩ := h
  clear h2 h3 hg0 ht0 hv0 hd0 hg2 ht2 hv2 hd2
  constructor
  · obtain rfl := Option.some.inj (gTab.symm.trans hg1)
    obtain rfl := Option.some.inj (tTab.symm.trans ht1)
    rw [lTab] at hd1
    obtain ⟨xs, m, rfl, hx, hlen, hn, hel⟩ := DataW.trod_array Tryz.underlying216 hd1
    simp only [Prod.mk.injEq, DataW.agg.injEq] at hx
    intro j hj
    have hj64 : j < 64 := hj
    have h0 := hel j hj64
    rw [cTab, Nat.mul_one, List.getElem?_eq_getElem (by omega)] at h0
    obtain ⟨n, e1, e2, _⟩ := DataW.trod_int Tryz.underlying5 h0
    have hm := congrArg (fun l => l[j]?) hx.1
    simp only [List.getElem?_map] at hm
    rw [List.getElem?_eq_getElem (show j < xs.length by omega), List.getElem?_eq_getElem hj] at hm
    simp only [Option.map_some, Option.some.injEq] at hm
    rw [e2] at hm
    simp only [DataW.lit.injEq, Lit.int.injEq, true_and] at hm
    rw [World.var?_cell hg1 hv1 j]
    have e3 := congrArg (fun l => l[0]?) e1
    simp only [List.getElem?_take, List.getElem?_drop] at e3
    simp at e3
    rw [e3, ← hm, List.getD_eq_getElem?_getD, List.getElem?_eq_getElem hj]
    rfl
  · obtain rfl := Option.some.inj (gWo.symm.trans hg3)
    obtain rfl := Option.some.inj (tWo.symm.trans ht3)
    rw [lWo] at hd3
    obtain ⟨xs, m, rfl, hx, hlen, hn, hel⟩ := DataW.trod_array Tryz.underlying182 hd3
    simp only [Prod.mk.injEq, DataW.agg.injEq] at hx
    intro j hj
    have h0 := hel j hj
    rw [cWo, Nat.mul_one, List.getElem?_eq_getElem (by omega)] at h0
    obtain ⟨n, e1, e2, _⟩ := DataW.trod_string Tryz.underlying9 h0
    have hjo : j < opWords.length := hj
    have hm := congrArg (fun l => l[j]?) hx.1
    simp only [List.getElem?_map] at hm
    rw [List.getElem?_eq_getElem (show j < xs.length by omega), List.getElem?_eq_getElem hjo] at hm
    simp only [Option.map_some, Option.some.injEq] at hm
    rw [e2] at hm
    simp only [DataW.lit.injEq, Lit.string.injEq] at hm
    rw [World.var?_cell hg3 hv3 j]
    have e3 := congrArg (fun l => l[0]?) e1
    simp only [List.getElem?_take, List.getElem?_drop] at e3
    simp at e3
    rw [e3, List.getD_eq_getElem?_getD, List.getElem?_eq_getElem hjo, Option.getD_some, hm]
end Go.Proofs.YtgamknphlmcgnaaGreatDoor
end
