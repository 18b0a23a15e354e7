/-
  A text in quotes, read as a token: walked through the program.
-/
import Derived.Test.YticpjjmacmmpjaaGreatDoorLxX
import Derived.Deep.AppendLies
import Derived.Laws.IdiomStrings
import Derived.Laws.BytesArg
set_option linter.unusedSimpArgs false
set_option linter.unusedVariables false
set_option maxRecDepth 100000
set_option linter.unnecessarySimpa false
namespace Go.Proofs.YticpjjmacmmpjaaGreatDoor
open Go.RowKit
theorem infoU8 : (Tryz.prog.info? 5).map (fun i => (i.zero, i.size, i.bytes)) = some (some (.int .u8 0), 1, 1) := by kernel_rfl
def byV (c : UInt8) : Value := .int .u8 (c.toNat : Nat)
/-- bytes in a row of one's own -/
def BytAt (w : World) (v : Value) (out : List UInt8) (W : World) : Prop := W.ownsRow (w.heap.size + 2) 5 1 v out.length (out.map byV)
theorem BytAt.conv {w W : World} {v : Value} {out : List UInt8} (h : BytAt w v out W) : (convert 138 9 v).run Tryz.prog W = .ok (.string ⟨out.toArray⟩) W := by
  rcases h.2 with ⟨rfl, h0⟩ | ⟨g, cap, cur, rfl, hb, hg, hrest⟩
  · have : out = [] := List.length_eq_zero_iff.1 h0
    subst this
    rw [run_convert_bytes_nil W 138 5 Tryz.underlying138 Tryz.underlying5 0 0 9 Tryz.underlying9]
    rfl
  · refine run_convert_bytes_back W 138 9 5 ⟨g, 0, none⟩ cap out Tryz.underlying138 Tryz.underlying5 Tryz.underlying9 fun j hj => ?_
    exact World.ownsRow.cells h (g := g) rfl j (.int .u8 (out[j].toNat : Int)) (by simp [hj, byV])
theorem BytAt.kept {w W W' : World} {v : Value} {out : List UInt8} (h : BytAt w v out W) (hb : Below W.heap.size W W') : BytAt w v out W' :=
  World.ownsRow.kept h (re_grownBy hb) (by cases v.ownBlock <;> simp)
theorem TkW.grown {w W W' : World} {p a : Nat} {s : List UInt8} {row : Option Nat} (h : TkW w p s a (.pointer none) none W) (hg : W.grownBy W' row) (hrow : ∀ g, row = some g → w.heap.size + 2 ≤ g) : TkW w p s a (.pointer none) none W' := by
  obtain ⟨cs, hc⟩ := h.t0
  obtain ⟨ds, hd⟩ := h.t1
  have hp := h.pl
  have keep : ∀ k, k < w.heap.size + 2 → k < W.heap.size → W'.heap[k]? = W.heap[k]? := fun k hk hl => hg.block k hl fun e => by
    have h2 := fun g (hg : row = some g) => hrow g hg
    first
      | (have := h2 k e; omega)
      | (have := h2 k e.symm; omega)
  have hsz := h.far.size
  exact ⟨hp, (keep p (by omega) (by omega)).trans h.lx, ⟨hg.os.trans h.far.os, hg.tape.trans h.far.tape, hg.output.trans h.far.output, Nat.le_trans hsz hg.size, fun k hk hne => (keep k (by omega) (by omega)).trans (h.far.block k hk hne)⟩,
    ⟨cs, (keep _ (by omega) (Array.getElem?_eq_some_iff.1 hc).1).trans hc⟩, ⟨ds, (keep _ (by omega) (Array.getElem?_eq_some_iff.1 hd).1).trans hd⟩, rfl⟩
theorem BytAt.low {w W : World} {v : Value} {out : List UInt8} (h : BytAt w v out W) : ∀ g, v.ownBlock = some g → w.heap.size + 2 ≤ g := fun g hg => (World.ownsRow.lt h g hg).1
/-- what is left between two places -/
def part (s : List UInt8) (i E : Nat) : List UInt8 := (s.drop i).take (E - i)
theorem part_nil (s : List UInt8) (i E : Nat) (h : E ≤ i) : part s i E = [] := by unfold part; rw [Nat.sub_eq_zero_of_le h]; rfl
theorem part_cons (s : List UInt8) (i E : Nat) (h : i < E) (hE : E ≤ s.length) : part s i E = s.getD i 0 :: part s (i + 1) E := by
  unfold part
  rw [List.drop_eq_getElem_cons (by omega : i < s.length), show E - i = (E - (i + 1)) + 1 by omega, List.take_succ_cons]
  congr 1
  simp [List.getD, (by omega : i < s.length)]
theorem part_drop (s : List UInt8) (i E n : Nat) : (part s i E).drop n = part s (i + n) E := by
  unfold part
  rw [List.drop_take, List.drop_drop]
  congr 1
  omega
theorem part_take (s : List UInt8) (i E n J : Nat) (hJ : J = min (i + n) E) (h : i ≤ E) : (part s i E).take n = (s.drop i).take (J - i) := by
  unfold part
  rw [List.take_take]
  congr 1
  omega
theorem part_len (s : List UInt8) (i E : Nat) : (part s i E).length ≤ E - i := by unfold part; rw [List.length_take]; omega
theorem part_head (s : List UInt8) (i E : Nat) (hE : E ≤ s.length) : (part s i E).head? = if i < E then some (s.getD i 0) else none := by
  by_cases h : i < E
  · rw [part_cons s i E h hE, if_pos h]; rfl
  · rw [part_nil s i E (by omega), if_neg h]; rfl
theorem qGo_step (f : Nat) (c : UInt8) (r : List UInt8) (i : Nat) (out : List UInt8) (hnp : ¬ (c ≠ 92 ∧ LX.plainQ.contains c = true)) (n : Nat) (hn : LX.qStep c r = n) :
    (LX.single1 (readW ((c :: r).take n)).1 = none → LX.qGo (f + 1) (c :: r) i out = (out, some i)) ∧ ∀ b, LX.single1 (readW ((c :: r).take n)).1 = some b → LX.qGo (f + 1) (c :: r) i out = LX.qGo f ((c :: r).drop n) (i + n) (out ++ [b.toUInt8]) := by
  subst hn
  rw [LX.qGo, if_neg hnp]
  generalize readW ((c :: r).take (LX.qStep c r)) = x
  have e : LX.single x = LX.single1 x.1 := rfl
  rw [e]
  exact ⟨fun h => by rw [h], fun b h => by rw [h]⟩
theorem SingleIs.split {o : Option RE} {b : Nat} {ok : Bool} (h : SingleIs o b ok) : (∃ x, LX.single1 o = some x ∧ b = x ∧ ok = true) ∨ (LX.single1 o = none ∧ ok = false) := by
  unfold SingleIs at h
  generalize LX.single1 o = q at *
  cases q with
  | none => exact .inr ⟨rfl, h⟩
  | some x => exact .inl ⟨x, rfl, h⟩
theorem single_lt {o : Option RE} {b : Nat} (h : LX.single1 o = some b) : b < 256 ∧ o ≠ none := by
  cases o with
  | none => cases h
  | some r =>
    unfold LX.single1 at h
    simp only at h
    split at h
    · cases h; exact ⟨r.set.least_lt, by simp⟩
    · cases h
theorem readW_ok0 (s : List UInt8) (h : (readW s).1 ≠ none) : (readW s).2.1 = 0 := by
  rcases readW_out s with ⟨r, hr⟩ | ⟨e, q, hr, _⟩
  · rw [hr]
  · rw [hr] at h; exact absurd rfl h
def QAt (w : World) (p : Nat) (s : List UInt8) (a E : Nat) (R : List UInt8 × Option Nat) (v i : Value) (wr : World) : Prop :=
  ∃ (f j : Nat) (out : List UInt8), i = .int .i64 (j : Nat) ∧ a + 1 ≤ j ∧ j ≤ E + 4 ∧ LX.qGo f (part s j E) j out = R ∧ E - j < f ∧ out.length ≤ j ∧ BytAt w v out wr ∧ TkW w p s a (.pointer none) none wr ∧ ∃ ds, wr.heap[w.heap.size + 1]? = some (.cells #[.int .i64 3, .string ⟨#[]⟩, .pointer none, .int .i64 (a : Nat)] 40 (0, 0)) ∧ wr.heap[w.heap.size]? = some (.cells #[.int .i64 0, .string ⟨#[]⟩, .pointer none, .int .i64 0] 40 (0, 0)) ∧ ds = 0
set_option maxRecDepth 100000 in
set_option maxHeartbeats 16000000 in
theorem lxQuoted_any (w : World) (p a : Nat) (s : List UInt8) (ha : a < s.length) (hs : s.length ≤ 65536) (h : LxAt w p s a) (hT : Tab w) :
    Calls Tryz.prog 94 #[ptr p] w (TokPost p s w (LX.quoted s a (s.drop (a + 1)))) := by
  obtain ⟨c0, c1⟩ := h.cells
  have hpl := h.lt
  have f1 := h.frz 1
  have hsz : (⟨s.toArray⟩ : ByteArray).size = s.length := str_size s
  have HT := Lib.hid hT
  have HL0 := Lib.hid h
  have HUN := Lib.hid (fun W (h : LxAt W p s a) => until_any (w := W) 34 (a + 1) (by omega) hs h)
  have hcast : ((a + 1 : Nat) : Int) = (a : Int) + 1 := by omega
  rw [hcast, untilI_eq] at HUN
  have HE : Hid (LX.quoted s a (s.drop (a + 1)) = match LX.untilN 34 (s.drop (a + 1)) with
    | none => (⟨3, [], none, a⟩, 2, s.length)
    | some k => match LX.qGo (k + 1) ((s.drop (a + 1)).take k) (a + 1) [] with
      | (out, none) => (⟨3, out, none, a⟩, 0, a + k + 2)
      | (_, some i) => (⟨3, [], none, a⟩, 2, i)) := rfl
  have HLTK := Lib.hid (fun k (hk : LX.untilN 34 (s.drop (a + 1)) = some k) => (LX.untilN_lt _ _ k (Nat.le_refl _) hk).1)
  generalize LX.quoted s a (s.drop (a + 1)) = OUT at *
  have hx2 := ext_alloc (re_alloc w (.cells #[.int .i64 0, .string ⟨#[]⟩, .pointer none, .int .i64 0] 40)) (.cells #[.int .i64 3, .string ⟨#[]⟩, .pointer none, .int .i64 (a : Nat)] 40)
  have HLX := Lib.hid (h.later hx2)
  clear hx2 hcast hT h
  obtain ⟨U, hU⟩ : ∃ U, LX.untilN 34 (s.drop (a + 1)) = U := ⟨_, rfl⟩
  rw [hU] at HE HUN
  have HU := Lib.hid hU
  clear hU
  cases U with
  | none =>
    simp only at HE HUN
    have HO := Lib.hid HE.out
    generalize hS : (⟨s.toArray⟩ : ByteArray) = S at *
    go_enter Tryz.func94, Tryz.ntmps94
    go_wp2_with fail
    refine (HUN.out _ HLX.out).mono ?_
    rintro e w1 ⟨rfl, rfl⟩
    go_wp2_with fail
    refine bodyPost_ret (v := .tuple #[.agg #[.int .i64 3, .string ⟨#[]⟩, .pointer none, .int .i64 (a : Nat)], .int .i64 2]) (by simp [results, Tryz.results94, go_sem]) rfl ?_
    rw [HO.out]
    exact ⟨.pointer none, rfl, rfl, (HL0.out.put' s.length _ rfl).later (ext_alloc (re_alloc _ _) _), ((Far.refl p w).set 1 _).trans (Far.below (ext_alloc (re_alloc _ _) _))⟩
  | some k =>
    simp only at HE HUN
    have hk := HLTK.out k HU.out
    rw [List.length_drop] at hk
    obtain ⟨E, hE⟩ : ∃ E, a + 1 + k = E := ⟨_, rfl⟩
    have hEi : ((a + 1 + k : Nat) : Int) = (E : Nat) := by omega
    have hEl : E < s.length := by omega
    have hpt : (s.drop (a + 1)).take k = part s (a + 1) E := by unfold part; congr 1; omega
    rw [hpt] at HE
    rw [hEi] at HUN
    obtain ⟨R, hR⟩ : ∃ R, LX.qGo (k + 1) (part s (a + 1) E) (a + 1) [] = R := ⟨_, rfl⟩
    rw [hR] at HE
    have HR := Lib.hid hR
    have HOUT := Lib.hid HE.out
    have hk2 : a + k + 2 = E + 1 := by omega
    rw [hk2] at HOUT
    have h0 : ¬ ((E : Int) < 0) := by omega
    have hfst : QAt w p s a E R (.slice none 0 0) (.int .i64 ((a : Int) + 1)) ((w.alloc (.cells #[.int .i64 0, .string ⟨#[]⟩, .pointer none, .int .i64 0] 40)).alloc (.cells #[.int .i64 3, .string ⟨#[]⟩, .pointer none, .int .i64 (a : Nat)] 40)) := by
      have e1 : (w.alloc (.cells #[.int .i64 0, .string ⟨#[]⟩, .pointer none, .int .i64 0] 40)).heap.size = w.heap.size + 1 := by simp
      have h4 := heap_alloc_last (w.alloc (.cells #[.int .i64 0, .string ⟨#[]⟩, .pointer none, .int .i64 0] 40)) (.cells #[.int .i64 3, .string ⟨#[]⟩, .pointer none, .int .i64 (a : Nat)] 40)
      rw [e1] at h4
      exact ⟨k + 1, a + 1, [], by congr 1, Nat.le_refl _, by omega, HR.out, by omega, Nat.zero_le _, World.ownsRow_nil _ _ _ _, TkW.first HL0.out _ _, 0, h4, heap_in (heap_alloc_last w _) (re_alloc _ _), rfl⟩
    have HFST := Lib.hid hfst
    have HIX := Lib.hid (fun (c : Int) W => IndexByte_any ⟨#[40, 41, 91, 93, 124, 38, 45, 42, 43, 63, 46, 32]⟩ c W)
    obtain ⟨i0, hi, hz0, hz1, hz2⟩ := info_parts infoU8
    have HI := Lib.hid hi; have HZ0 := Lib.hid hz0; have HZ1 := Lib.hid hz1; have HZ2 := Lib.hid hz2
    have hne1 : p ≠ w.heap.size := by omega
    have hne2 : p ≠ w.heap.size + 1 := by omega
    clear hR hpt hk2 hfst hi hz0 hz1 hz2 HE hEi
    go_enter Tryz.func94, Tryz.ntmps94
    go_wp2_with fail
    refine (HUN.out _ HLX.out).mono ?_
    rintro e w1 ⟨rfl, rfl⟩
    go_wp2_with fail
    go_loopw [7, 8] (fun v i wr => QAt w p s a E R v i wr) (fun _ i _ => E + 5 - (intOf i).toNat)
    case atStart => exact HFST.out
    case round =>
      clear HFST HR
      obtain ⟨f, j, out, rfl, hj1, hj2, hgo, hf, hol, hby, htk, ds, hh4, hh2, hds⟩ := hrel
      obtain ⟨f', rfl⟩ : ∃ g, f = g + 1 := ⟨f - 1, by omega⟩
      have HGO := Lib.hid hgo
      have HBY := Lib.hid hby
      have HTK := Lib.hid htk
      have HH4 := Lib.hid hh4
      have HH2 := Lib.hid hh2
      obtain ⟨c0, c1⟩ := htk.lx.cells
      clear hgo hby htk hds
      by_cases hlt : j < E
      · have hlt' : (j : Int) < (E : Int) := by omega
        have hjs : j < s.length := by omega
        have hidx := fun W => str_at s j hjs W
        have hpc := part_cons s j E hlt (by omega)
        have HPC := Lib.hid hpc
        have hph := part_head s (j + 1) E (by omega)
        have HPH := Lib.hid hph
        have hjn : j ≤ 65536 := by omega
        have e2 := byteIs (s.getD j 0) 92 (by omega)
        have HST0 : Hid (∀ r, LX.qStep (s.getD j 0) r = if s.getD j 0 = 92 then (if r.head? = some 120 then 4 else 2) else 1) := fun r => rfl
        have hge := index_ge LX.plainQ (s.getD j 0)
        clear hpc hph
        by_cases g92 : s.getD j 0 = 92
        · have e3 : ((((s.getD j 0).toNat : Nat) : Int) == 92) = true := by rw [g92]; rfl
          have HNP : Hid (¬ (s.getD j 0 ≠ 92 ∧ LX.plainQ.contains (s.getD j 0) = true)) := fun h => h.1 g92
          clear e2 hge
          by_cases hx1 : j + 1 < E
          · have hx1' : (j : Int) + 1 < (E : Int) := by omega
            have hidx1 := fun W => str_at s (j + 1) (by omega) W
            have hcj : ((j + 1 : Nat) : Int) = (j : Int) + 1 := by omega
            rw [hcj] at hidx1
            by_cases g120 : s.getD (j + 1) 0 = 120
            · have e4 : ((((s.getD (j + 1) 0).toNat : Nat) : Int) == 120) = true := by rw [g120]; rfl
              have HST : Hid (LX.qStep (s.getD j 0) (part s (j + 1) E) = 4) := by
                show _ = _
                rw [HST0.out, if_pos g92, HPH.out, if_pos hx1, g120, if_pos rfl]
              clear g120 g92 hcj
              generalize s.getD (j + 1) 0 = c' at *
              by_cases hle : j + 4 ≤ E
              · have hmin : min ((j : Int) + 4) (E : Int) = (j : Int) + 4 := by omega
                have htk := part_take s j E 4 (j + 4) (by omega) (by omega)
                have hsl := fun W => strBetweenAt s j (j + 4) (by omega) (by omega) (j : Int) ((j : Int) + 4) (by omega) (by omega) W
                have hsl2 := fun W => strBetween s j (j + 4) (by omega) (by omega) (j : Int) ((j : Int) + 4) (by omega) (by omega) W
                rw [← htk] at hsl hsl2
                have hrd := Read_any ((part s j E).take 4) (by rw [List.length_take]; have := part_len s j E; omega)
                have hqs := qGo_step f' (s.getD j 0) (part s (j + 1) E) j out HNP.out 4 HST.out
                rw [← HPC.out, HGO.out, part_drop s j E 4] at hqs
                have HQS := Lib.hid hqs
                clear hqs
                generalize (part s j E).take 4 = T at *
                have HRD := Lib.hid hrd
                have HSG := Lib.hid (fun W v (hT : Tab W) (h : IsReO W v (readW T).1) => single_any v (readW T).1 W hT h)
                have HOK := Lib.hid (readW_ok0 T)
                clear hrd htk
                generalize hS : (⟨s.toArray⟩ : ByteArray) = S at *
                generalize hTT : (⟨T.toArray⟩ : ByteArray) = TT at *
                clear hS hTT
                generalize s.getD j 0 = ch at *
                go_wp2_with fail
                refine (HRD.out _).mono ?_
                rintro e w2 ⟨v, rfl, hre, hb⟩
                have HRE := Lib.hid hre
                have HB2 := Lib.hid hb
                have HTK2 := Lib.hid (HTK.out.later hb)
                have HBY2 := Lib.hid (HBY.out.kept hb)
                have HH42 := Lib.hid (heap_in HH4.out hb)
                have HH22 := Lib.hid (heap_in HH2.out hb)
                have HT2 := Lib.hid (HT.out.farL HL0.out HTK2.out.far)
                have hvp := hre.ptr
                clear hre hb
                obtain ⟨qv, rfl⟩ := hvp
                go_wp2_with fail
                refine (HSG.out _ _ HT2.out HRE.out).mono ?_
                rintro e w3 ⟨b, ok, rfl, hsi, hb⟩
                have HSM := Lib.hid hsi.split
                have HTK3 := Lib.hid (HTK2.out.later hb)
                have HBY3 := Lib.hid (HBY2.out.kept hb)
                have hh4 := heap_in HH42.out hb
                have hh2 := heap_in HH22.out hb
                have HH43 := Lib.hid hh4
                have HH23 := Lib.hid hh2
                clear hb hsi
                obtain ⟨d0, d1⟩ := HTK3.out.lx.cells
                have g1 := HTK3.out.lx.frz 1
                have k0 : w3.cell? ⟨w.heap.size + 1, 0, none⟩ = some (.int .i64 3) := by rw [cell_of_row _ _ _ _ _ _ hh4]; rfl
                have k1 : w3.cell? ⟨w.heap.size + 1, 1, none⟩ = some (.string ⟨#[]⟩) := by rw [cell_of_row _ _ _ _ _ _ hh4]; rfl
                have k2 : w3.cell? ⟨w.heap.size + 1, 2, none⟩ = some (.pointer none) := by rw [cell_of_row _ _ _ _ _ _ hh4]; rfl
                have k3 : w3.cell? ⟨w.heap.size + 1, 3, none⟩ = some (.int .i64 (a : Nat)) := by rw [cell_of_row _ _ _ _ _ _ hh4]; rfl
                have kf : ∀ j, w3.frozen? ⟨w.heap.size + 1, j, none⟩ = false := fun j => frozen_of_row _ _ j _ _ hh4
                have q0 : w3.cell? ⟨w.heap.size, 0, none⟩ = some (.int .i64 0) := by rw [cell_of_row _ _ _ _ _ _ hh2]; rfl
                have q1 : w3.cell? ⟨w.heap.size, 1, none⟩ = some (.string ⟨#[]⟩) := by rw [cell_of_row _ _ _ _ _ _ hh2]; rfl
                have q2 : w3.cell? ⟨w.heap.size, 2, none⟩ = some (.pointer none) := by rw [cell_of_row _ _ _ _ _ _ hh2]; rfl
                have q3 : w3.cell? ⟨w.heap.size, 3, none⟩ = some (.int .i64 0) := by rw [cell_of_row _ _ _ _ _ _ hh2]; rfl
                have qf : ∀ j, w3.frozen? ⟨w.heap.size, j, none⟩ = false := fun j => frozen_of_row _ _ j _ _ hh2
                clear hh4 hh2
                obtain ⟨en, HEN⟩ : ∃ en, Hid ((readW T).2.1 = en) := ⟨_, rfl⟩
                rw [HEN.out]
                rcases HSM.out with ⟨x, hx, rfl, rfl⟩ | ⟨hx, rfl⟩
                · have HQ : Hid (LX.qGo f' (part s (j + 4) E) (j + 4) (out ++ [b.toUInt8]) = R) := (HQS.out.2 b hx).symm
                  obtain ⟨hb256, hnn⟩ := single_lt hx
                  have he : en = 0 := by rw [← HEN.out]; exact HOK.out hnn
                  have HBV : Hid (byV b.toUInt8 = .int .u8 (b : Nat)) := by
                    show _ = _
                    unfold byV
                    rw [show b.toUInt8.toNat = b by rw [Nat.toUInt8_eq, UInt8.toNat_ofNat']; omega]
                  clear hx hnn HEN
                  subst he
                  go_wp2_with (at_builtin; refine wpList_append_lies _ rfl _ _ _ rfl (w.heap.size + 2) 5 i0 _ 1 1 Tryz.underlying138 HI.out HZ0.out HZ1.out HZ2.out rfl (by omega) _ out.length (out.map byV) rfl (World.ownsRow.alloc HBY3.out _) ⟨w3.heap.size, 0, none⟩ 1 1 [byV b.toUInt8] rfl rfl (by rw [HBV.out]; exact World.news_of_block (cs := #[.int .u8 (b : Nat)]) (t := 5) (fr := (0, 0)) (heap_alloc_last w3 _)) (by intro u hu; rw [List.mem_singleton.1 hu]; rfl) (by omega) (by unfold maxLen; omega) (by omega) (by have := HTK3.out.t1; obtain ⟨cs, hc⟩ := this; have := (Array.getElem?_eq_some_iff.1 hc).1; simp; omega) (w3.heap.size + 1) (by simp) ?_; intro g5 cp5 W9 hown9 hg9 hat9 hlt9)
                  have HTK9 : Hid (TkW w p s a (.pointer none) none W9) := (HTK3.out.later (re_alloc w3 _)).grown hg9 HBY3.out.low
                  have HBY9 : Hid (BytAt w (.slice (some ⟨g5, 0, none⟩) (out.length + 1) cp5) (out ++ [b.toUInt8]) W9) := by
                    show World.ownsRow _ _ _ _ _ _ _
                    rw [List.length_append, List.length_singleton, List.map_append]; exact hown9
                  have HKP : Hid (∀ c o, c < w.heap.size + 2 → w3.heap[c]? = some o → W9.heap[c]? = some o) := fun c o hc ho => by
                    refine (hg9.block c (by simp; have := (Array.getElem?_eq_some_iff.1 ho).1; omega) fun e => ?_).trans (heap_in ho (re_alloc w3 _))
                    first
                      | (have := HBY3.out.low c e; omega)
                      | (have := HBY3.out.low c e.symm; omega)
                  have H49 := Lib.hid (HKP.out _ _ (by omega) HH43.out)
                  have H29 := Lib.hid (HKP.out _ _ (by omega) HH23.out)
                  clear hown9 hg9 hat9 hlt9
                  go_wp2_with fail
                  go_roundw
                  case rel => exact ⟨f', j + 4, out ++ [b.toUInt8], by go_num, by omega, by omega, HQ.out, by omega, by simp; omega, HBY9.out, HTK9.out, 0, H49.out, H29.out, rfl⟩
                  case measure => simp [intOf]; omega
                · have HR : Hid (R = (out, some j)) := HQS.out.1 hx
                  have HO : Hid (OUT = (⟨3, [], none, a⟩, 2, j)) := by
                    show _ = _
                    rw [HOUT.out, HR.out]
                  clear hx HEN
                  by_cases he0 : en = 0
                  · subst he0
                    go_wp2_with fail
                    refine bodyPost_ret (v := .tuple #[.agg #[.int .i64 3, .string ⟨#[]⟩, .pointer none, .int .i64 (a : Nat)], .int .i64 2]) (by simp [results, Tryz.results94, go_sem, q0, q1, q2, q3, k0, k1, k2, k3, d1, hne1, hne2, Ne.symm hne1, Ne.symm hne2]) rfl ?_
                    rw [HO.out]
                    have hfin := ((((HTK3.out.pos j (j : Int) rfl).tok0 0 (.int .i64 3)).tok0 1 (.string ⟨#[]⟩)).tok0 2 (.pointer none)).tok0 3 (.int .i64 (a : Nat))
                    exact ⟨.pointer none, rfl, rfl, hfin.lx, hfin.far⟩
                  · have hen : (((en : Nat) : Int) != 0) = true := by simp; omega
                    go_wp2_with fail
                    refine bodyPost_ret (v := .tuple #[.agg #[.int .i64 3, .string ⟨#[]⟩, .pointer none, .int .i64 (a : Nat)], .int .i64 2]) (by simp [results, Tryz.results94, go_sem, q0, q1, q2, q3, k0, k1, k2, k3, d1, hne1, hne2, Ne.symm hne1, Ne.symm hne2]) rfl ?_
                    rw [HO.out]
                    have hfin := ((((HTK3.out.pos j (j : Int) rfl).tok0 0 (.int .i64 3)).tok0 1 (.string ⟨#[]⟩)).tok0 2 (.pointer none)).tok0 3 (.int .i64 (a : Nat))
                    exact ⟨.pointer none, rfl, rfl, hfin.lx, hfin.far⟩
              · have hmin : min ((j : Int) + 4) (E : Int) = (E : Int) := by omega
                have htk := part_take s j E 4 (E) (by omega) (by omega)
                have hsl := fun W => strBetweenAt s j (E) (by omega) (by omega) (j : Int) ((E : Int)) (by omega) (by omega) W
                have hsl2 := fun W => strBetween s j (E) (by omega) (by omega) (j : Int) ((E : Int)) (by omega) (by omega) W
                rw [← htk] at hsl hsl2
                have hrd := Read_any ((part s j E).take 4) (by rw [List.length_take]; have := part_len s j E; omega)
                have hqs := qGo_step f' (s.getD j 0) (part s (j + 1) E) j out HNP.out 4 HST.out
                rw [← HPC.out, HGO.out, part_drop s j E 4] at hqs
                have HQS := Lib.hid hqs
                clear hqs
                generalize (part s j E).take 4 = T at *
                have HRD := Lib.hid hrd
                have HSG := Lib.hid (fun W v (hT : Tab W) (h : IsReO W v (readW T).1) => single_any v (readW T).1 W hT h)
                have HOK := Lib.hid (readW_ok0 T)
                clear hrd htk
                generalize hS : (⟨s.toArray⟩ : ByteArray) = S at *
                generalize hTT : (⟨T.toArray⟩ : ByteArray) = TT at *
                clear hS hTT
                generalize s.getD j 0 = ch at *
                go_wp2_with fail
                refine (HRD.out _).mono ?_
                rintro e w2 ⟨v, rfl, hre, hb⟩
                have HRE := Lib.hid hre
                have HB2 := Lib.hid hb
                have HTK2 := Lib.hid (HTK.out.later hb)
                have HBY2 := Lib.hid (HBY.out.kept hb)
                have HH42 := Lib.hid (heap_in HH4.out hb)
                have HH22 := Lib.hid (heap_in HH2.out hb)
                have HT2 := Lib.hid (HT.out.farL HL0.out HTK2.out.far)
                have hvp := hre.ptr
                clear hre hb
                obtain ⟨qv, rfl⟩ := hvp
                go_wp2_with fail
                refine (HSG.out _ _ HT2.out HRE.out).mono ?_
                rintro e w3 ⟨b, ok, rfl, hsi, hb⟩
                have HSM := Lib.hid hsi.split
                have HTK3 := Lib.hid (HTK2.out.later hb)
                have HBY3 := Lib.hid (HBY2.out.kept hb)
                have hh4 := heap_in HH42.out hb
                have hh2 := heap_in HH22.out hb
                have HH43 := Lib.hid hh4
                have HH23 := Lib.hid hh2
                clear hb hsi
                obtain ⟨d0, d1⟩ := HTK3.out.lx.cells
                have g1 := HTK3.out.lx.frz 1
                have k0 : w3.cell? ⟨w.heap.size + 1, 0, none⟩ = some (.int .i64 3) := by rw [cell_of_row _ _ _ _ _ _ hh4]; rfl
                have k1 : w3.cell? ⟨w.heap.size + 1, 1, none⟩ = some (.string ⟨#[]⟩) := by rw [cell_of_row _ _ _ _ _ _ hh4]; rfl
                have k2 : w3.cell? ⟨w.heap.size + 1, 2, none⟩ = some (.pointer none) := by rw [cell_of_row _ _ _ _ _ _ hh4]; rfl
                have k3 : w3.cell? ⟨w.heap.size + 1, 3, none⟩ = some (.int .i64 (a : Nat)) := by rw [cell_of_row _ _ _ _ _ _ hh4]; rfl
                have kf : ∀ j, w3.frozen? ⟨w.heap.size + 1, j, none⟩ = false := fun j => frozen_of_row _ _ j _ _ hh4
                have q0 : w3.cell? ⟨w.heap.size, 0, none⟩ = some (.int .i64 0) := by rw [cell_of_row _ _ _ _ _ _ hh2]; rfl
                have q1 : w3.cell? ⟨w.heap.size, 1, none⟩ = some (.string ⟨#[]⟩) := by rw [cell_of_row _ _ _ _ _ _ hh2]; rfl
                have q2 : w3.cell? ⟨w.heap.size, 2, none⟩ = some (.pointer none) := by rw [cell_of_row _ _ _ _ _ _ hh2]; rfl
                have q3 : w3.cell? ⟨w.heap.size, 3, none⟩ = some (.int .i64 0) := by rw [cell_of_row _ _ _ _ _ _ hh2]; rfl
                have qf : ∀ j, w3.frozen? ⟨w.heap.size, j, none⟩ = false := fun j => frozen_of_row _ _ j _ _ hh2
                clear hh4 hh2
                obtain ⟨en, HEN⟩ : ∃ en, Hid ((readW T).2.1 = en) := ⟨_, rfl⟩
                rw [HEN.out]
                rcases HSM.out with ⟨x, hx, rfl, rfl⟩ | ⟨hx, rfl⟩
                · have HQ : Hid (LX.qGo f' (part s (j + 4) E) (j + 4) (out ++ [b.toUInt8]) = R) := (HQS.out.2 b hx).symm
                  obtain ⟨hb256, hnn⟩ := single_lt hx
                  have he : en = 0 := by rw [← HEN.out]; exact HOK.out hnn
                  have HBV : Hid (byV b.toUInt8 = .int .u8 (b : Nat)) := by
                    show _ = _
                    unfold byV
                    rw [show b.toUInt8.toNat = b by rw [Nat.toUInt8_eq, UInt8.toNat_ofNat']; omega]
                  clear hx hnn HEN
                  subst he
                  go_wp2_with (at_builtin; refine wpList_append_lies _ rfl _ _ _ rfl (w.heap.size + 2) 5 i0 _ 1 1 Tryz.underlying138 HI.out HZ0.out HZ1.out HZ2.out rfl (by omega) _ out.length (out.map byV) rfl (World.ownsRow.alloc HBY3.out _) ⟨w3.heap.size, 0, none⟩ 1 1 [byV b.toUInt8] rfl rfl (by rw [HBV.out]; exact World.news_of_block (cs := #[.int .u8 (b : Nat)]) (t := 5) (fr := (0, 0)) (heap_alloc_last w3 _)) (by intro u hu; rw [List.mem_singleton.1 hu]; rfl) (by omega) (by unfold maxLen; omega) (by omega) (by have := HTK3.out.t1; obtain ⟨cs, hc⟩ := this; have := (Array.getElem?_eq_some_iff.1 hc).1; simp; omega) (w3.heap.size + 1) (by simp) ?_; intro g5 cp5 W9 hown9 hg9 hat9 hlt9)
                  have HTK9 : Hid (TkW w p s a (.pointer none) none W9) := (HTK3.out.later (re_alloc w3 _)).grown hg9 HBY3.out.low
                  have HBY9 : Hid (BytAt w (.slice (some ⟨g5, 0, none⟩) (out.length + 1) cp5) (out ++ [b.toUInt8]) W9) := by
                    show World.ownsRow _ _ _ _ _ _ _
                    rw [List.length_append, List.length_singleton, List.map_append]; exact hown9
                  have HKP : Hid (∀ c o, c < w.heap.size + 2 → w3.heap[c]? = some o → W9.heap[c]? = some o) := fun c o hc ho => by
                    refine (hg9.block c (by simp; have := (Array.getElem?_eq_some_iff.1 ho).1; omega) fun e => ?_).trans (heap_in ho (re_alloc w3 _))
                    first
                      | (have := HBY3.out.low c e; omega)
                      | (have := HBY3.out.low c e.symm; omega)
                  have H49 := Lib.hid (HKP.out _ _ (by omega) HH43.out)
                  have H29 := Lib.hid (HKP.out _ _ (by omega) HH23.out)
                  clear hown9 hg9 hat9 hlt9
                  go_wp2_with fail
                  go_roundw
                  case rel => exact ⟨f', j + 4, out ++ [b.toUInt8], by go_num, by omega, by omega, HQ.out, by omega, by simp; omega, HBY9.out, HTK9.out, 0, H49.out, H29.out, rfl⟩
                  case measure => simp [intOf]; omega
                · have HR : Hid (R = (out, some j)) := HQS.out.1 hx
                  have HO : Hid (OUT = (⟨3, [], none, a⟩, 2, j)) := by
                    show _ = _
                    rw [HOUT.out, HR.out]
                  clear hx HEN
                  by_cases he0 : en = 0
                  · subst he0
                    go_wp2_with fail
                    refine bodyPost_ret (v := .tuple #[.agg #[.int .i64 3, .string ⟨#[]⟩, .pointer none, .int .i64 (a : Nat)], .int .i64 2]) (by simp [results, Tryz.results94, go_sem, q0, q1, q2, q3, k0, k1, k2, k3, d1, hne1, hne2, Ne.symm hne1, Ne.symm hne2]) rfl ?_
                    rw [HO.out]
                    have hfin := ((((HTK3.out.pos j (j : Int) rfl).tok0 0 (.int .i64 3)).tok0 1 (.string ⟨#[]⟩)).tok0 2 (.pointer none)).tok0 3 (.int .i64 (a : Nat))
                    exact ⟨.pointer none, rfl, rfl, hfin.lx, hfin.far⟩
                  · have hen : (((en : Nat) : Int) != 0) = true := by simp; omega
                    go_wp2_with fail
                    refine bodyPost_ret (v := .tuple #[.agg #[.int .i64 3, .string ⟨#[]⟩, .pointer none, .int .i64 (a : Nat)], .int .i64 2]) (by simp [results, Tryz.results94, go_sem, q0, q1, q2, q3, k0, k1, k2, k3, d1, hne1, hne2, Ne.symm hne1, Ne.symm hne2]) rfl ?_
                    rw [HO.out]
                    have hfin := ((((HTK3.out.pos j (j : Int) rfl).tok0 0 (.int .i64 3)).tok0 1 (.string ⟨#[]⟩)).tok0 2 (.pointer none)).tok0 3 (.int .i64 (a : Nat))
                    exact ⟨.pointer none, rfl, rfl, hfin.lx, hfin.far⟩
            · have e4 : ((((s.getD (j + 1) 0).toNat : Nat) : Int) == 120) = false := by rw [beq_eq_false_iff_ne]; exact fun h => g120 (UInt8.toNat_inj.1 (by show (s.getD (j + 1) 0).toNat = 120; omega))
              have HST : Hid (LX.qStep (s.getD j 0) (part s (j + 1) E) = 2) := by
                show _ = _
                rw [HST0.out, if_pos g92, HPH.out, if_pos hx1, if_neg (fun h => g120 (Option.some.inj h))]
              clear g120 g92 hcj
              generalize s.getD (j + 1) 0 = c' at *
              have hmin : min ((j : Int) + 2) (E : Int) = (j : Int) + 2 := by omega
              have htk := part_take s j E 2 (j + 2) (by omega) (by omega)
              have hsl := fun W => strBetweenAt s j (j + 2) (by omega) (by omega) (j : Int) ((j : Int) + 2) (by omega) (by omega) W
              have hsl2 := fun W => strBetween s j (j + 2) (by omega) (by omega) (j : Int) ((j : Int) + 2) (by omega) (by omega) W
              rw [← htk] at hsl hsl2
              have hrd := Read_any ((part s j E).take 2) (by rw [List.length_take]; have := part_len s j E; omega)
              have hqs := qGo_step f' (s.getD j 0) (part s (j + 1) E) j out HNP.out 2 HST.out
              rw [← HPC.out, HGO.out, part_drop s j E 2] at hqs
              have HQS := Lib.hid hqs
              clear hqs
              generalize (part s j E).take 2 = T at *
              have HRD := Lib.hid hrd
              have HSG := Lib.hid (fun W v (hT : Tab W) (h : IsReO W v (readW T).1) => single_any v (readW T).1 W hT h)
              have HOK := Lib.hid (readW_ok0 T)
              clear hrd htk
              generalize hS : (⟨s.toArray⟩ : ByteArray) = S at *
              generalize hTT : (⟨T.toArray⟩ : ByteArray) = TT at *
              clear hS hTT
              generalize s.getD j 0 = ch at *
              go_wp2_with fail
              refine (HRD.out _).mono ?_
              rintro e w2 ⟨v, rfl, hre, hb⟩
              have HRE := Lib.hid hre
              have HB2 := Lib.hid hb
              have HTK2 := Lib.hid (HTK.out.later hb)
              have HBY2 := Lib.hid (HBY.out.kept hb)
              have HH42 := Lib.hid (heap_in HH4.out hb)
              have HH22 := Lib.hid (heap_in HH2.out hb)
              have HT2 := Lib.hid (HT.out.farL HL0.out HTK2.out.far)
              have hvp := hre.ptr
              clear hre hb
              obtain ⟨qv, rfl⟩ := hvp
              go_wp2_with fail
              refine (HSG.out _ _ HT2.out HRE.out).mono ?_
              rintro e w3 ⟨b, ok, rfl, hsi, hb⟩
              have HSM := Lib.hid hsi.split
              have HTK3 := Lib.hid (HTK2.out.later hb)
              have HBY3 := Lib.hid (HBY2.out.kept hb)
              have hh4 := heap_in HH42.out hb
              have hh2 := heap_in HH22.out hb
              have HH43 := Lib.hid hh4
              have HH23 := Lib.hid hh2
              clear hb hsi
              obtain ⟨d0, d1⟩ := HTK3.out.lx.cells
              have g1 := HTK3.out.lx.frz 1
              have k0 : w3.cell? ⟨w.heap.size + 1, 0, none⟩ = some (.int .i64 3) := by rw [cell_of_row _ _ _ _ _ _ hh4]; rfl
              have k1 : w3.cell? ⟨w.heap.size + 1, 1, none⟩ = some (.string ⟨#[]⟩) := by rw [cell_of_row _ _ _ _ _ _ hh4]; rfl
              have k2 : w3.cell? ⟨w.heap.size + 1, 2, none⟩ = some (.pointer none) := by rw [cell_of_row _ _ _ _ _ _ hh4]; rfl
              have k3 : w3.cell? ⟨w.heap.size + 1, 3, none⟩ = some (.int .i64 (a : Nat)) := by rw [cell_of_row _ _ _ _ _ _ hh4]; rfl
              have kf : ∀ j, w3.frozen? ⟨w.heap.size + 1, j, none⟩ = false := fun j => frozen_of_row _ _ j _ _ hh4
              have q0 : w3.cell? ⟨w.heap.size, 0, none⟩ = some (.int .i64 0) := by rw [cell_of_row _ _ _ _ _ _ hh2]; rfl
              have q1 : w3.cell? ⟨w.heap.size, 1, none⟩ = some (.string ⟨#[]⟩) := by rw [cell_of_row _ _ _ _ _ _ hh2]; rfl
              have q2 : w3.cell? ⟨w.heap.size, 2, none⟩ = some (.pointer none) := by rw [cell_of_row _ _ _ _ _ _ hh2]; rfl
              have q3 : w3.cell? ⟨w.heap.size, 3, none⟩ = some (.int .i64 0) := by rw [cell_of_row _ _ _ _ _ _ hh2]; rfl
              have qf : ∀ j, w3.frozen? ⟨w.heap.size, j, none⟩ = false := fun j => frozen_of_row _ _ j _ _ hh2
              clear hh4 hh2
              obtain ⟨en, HEN⟩ : ∃ en, Hid ((readW T).2.1 = en) := ⟨_, rfl⟩
              rw [HEN.out]
              rcases HSM.out with ⟨x, hx, rfl, rfl⟩ | ⟨hx, rfl⟩
              · have HQ : Hid (LX.qGo f' (part s (j + 2) E) (j + 2) (out ++ [b.toUInt8]) = R) := (HQS.out.2 b hx).symm
                obtain ⟨hb256, hnn⟩ := single_lt hx
                have he : en = 0 := by rw [← HEN.out]; exact HOK.out hnn
                have HBV : Hid (byV b.toUInt8 = .int .u8 (b : Nat)) := by
                  show _ = _
                  unfold byV
                  rw [show b.toUInt8.toNat = b by rw [Nat.toUInt8_eq, UInt8.toNat_ofNat']; omega]
                clear hx hnn HEN
                subst he
                go_wp2_with (at_builtin; refine wpList_append_lies _ rfl _ _ _ rfl (w.heap.size + 2) 5 i0 _ 1 1 Tryz.underlying138 HI.out HZ0.out HZ1.out HZ2.out rfl (by omega) _ out.length (out.map byV) rfl (World.ownsRow.alloc HBY3.out _) ⟨w3.heap.size, 0, none⟩ 1 1 [byV b.toUInt8] rfl rfl (by rw [HBV.out]; exact World.news_of_block (cs := #[.int .u8 (b : Nat)]) (t := 5) (fr := (0, 0)) (heap_alloc_last w3 _)) (by intro u hu; rw [List.mem_singleton.1 hu]; rfl) (by omega) (by unfold maxLen; omega) (by omega) (by have := HTK3.out.t1; obtain ⟨cs, hc⟩ := this; have := (Array.getElem?_eq_some_iff.1 hc).1; simp; omega) (w3.heap.size + 1) (by simp) ?_; intro g5 cp5 W9 hown9 hg9 hat9 hlt9)
                have HTK9 : Hid (TkW w p s a (.pointer none) none W9) := (HTK3.out.later (re_alloc w3 _)).grown hg9 HBY3.out.low
                have HBY9 : Hid (BytAt w (.slice (some ⟨g5, 0, none⟩) (out.length + 1) cp5) (out ++ [b.toUInt8]) W9) := by
                  show World.ownsRow _ _ _ _ _ _ _
                  rw [List.length_append, List.length_singleton, List.map_append]; exact hown9
                have HKP : Hid (∀ c o, c < w.heap.size + 2 → w3.heap[c]? = some o → W9.heap[c]? = some o) := fun c o hc ho => by
                  refine (hg9.block c (by simp; have := (Array.getElem?_eq_some_iff.1 ho).1; omega) fun e => ?_).trans (heap_in ho (re_alloc w3 _))
                  first
                    | (have := HBY3.out.low c e; omega)
                    | (have := HBY3.out.low c e.symm; omega)
                have H49 := Lib.hid (HKP.out _ _ (by omega) HH43.out)
                have H29 := Lib.hid (HKP.out _ _ (by omega) HH23.out)
                clear hown9 hg9 hat9 hlt9
                go_wp2_with fail
                go_roundw
                case rel => exact ⟨f', j + 2, out ++ [b.toUInt8], by go_num, by omega, by omega, HQ.out, by omega, by simp; omega, HBY9.out, HTK9.out, 0, H49.out, H29.out, rfl⟩
                case measure => simp [intOf]; omega
              · have HR : Hid (R = (out, some j)) := HQS.out.1 hx
                have HO : Hid (OUT = (⟨3, [], none, a⟩, 2, j)) := by
                  show _ = _
                  rw [HOUT.out, HR.out]
                clear hx HEN
                by_cases he0 : en = 0
                · subst he0
                  go_wp2_with fail
                  refine bodyPost_ret (v := .tuple #[.agg #[.int .i64 3, .string ⟨#[]⟩, .pointer none, .int .i64 (a : Nat)], .int .i64 2]) (by simp [results, Tryz.results94, go_sem, q0, q1, q2, q3, k0, k1, k2, k3, d1, hne1, hne2, Ne.symm hne1, Ne.symm hne2]) rfl ?_
                  rw [HO.out]
                  have hfin := ((((HTK3.out.pos j (j : Int) rfl).tok0 0 (.int .i64 3)).tok0 1 (.string ⟨#[]⟩)).tok0 2 (.pointer none)).tok0 3 (.int .i64 (a : Nat))
                  exact ⟨.pointer none, rfl, rfl, hfin.lx, hfin.far⟩
                · have hen : (((en : Nat) : Int) != 0) = true := by simp; omega
                  go_wp2_with fail
                  refine bodyPost_ret (v := .tuple #[.agg #[.int .i64 3, .string ⟨#[]⟩, .pointer none, .int .i64 (a : Nat)], .int .i64 2]) (by simp [results, Tryz.results94, go_sem, q0, q1, q2, q3, k0, k1, k2, k3, d1, hne1, hne2, Ne.symm hne1, Ne.symm hne2]) rfl ?_
                  rw [HO.out]
                  have hfin := ((((HTK3.out.pos j (j : Int) rfl).tok0 0 (.int .i64 3)).tok0 1 (.string ⟨#[]⟩)).tok0 2 (.pointer none)).tok0 3 (.int .i64 (a : Nat))
                  exact ⟨.pointer none, rfl, rfl, hfin.lx, hfin.far⟩
          · have hx1' : ¬ (j : Int) + 1 < (E : Int) := by omega
            have HST : Hid (LX.qStep (s.getD j 0) (part s (j + 1) E) = 2) := by
              show _ = _
              rw [HST0.out, if_pos g92, HPH.out, if_neg hx1, if_neg (by simp)]
            clear g92
            have hmin : min ((j : Int) + 2) (E : Int) = (E : Int) := by omega
            have htk := part_take s j E 2 (E) (by omega) (by omega)
            have hsl := fun W => strBetweenAt s j (E) (by omega) (by omega) (j : Int) ((E : Int)) (by omega) (by omega) W
            have hsl2 := fun W => strBetween s j (E) (by omega) (by omega) (j : Int) ((E : Int)) (by omega) (by omega) W
            rw [← htk] at hsl hsl2
            have hrd := Read_any ((part s j E).take 2) (by rw [List.length_take]; have := part_len s j E; omega)
            have hqs := qGo_step f' (s.getD j 0) (part s (j + 1) E) j out HNP.out 2 HST.out
            rw [← HPC.out, HGO.out, part_drop s j E 2] at hqs
            have HQS := Lib.hid hqs
            clear hqs
            generalize (part s j E).take 2 = T at *
            have HRD := Lib.hid hrd
            have HSG := Lib.hid (fun W v (hT : Tab W) (h : IsReO W v (readW T).1) => single_any v (readW T).1 W hT h)
            have HOK := Lib.hid (readW_ok0 T)
            clear hrd htk
            generalize hS : (⟨s.toArray⟩ : ByteArray) = S at *
            generalize hTT : (⟨T.toArray⟩ : ByteArray) = TT at *
            clear hS hTT
            generalize s.getD j 0 = ch at *
            go_wp2_with fail
            refine (HRD.out _).mono ?_
            rintro e w2 ⟨v, rfl, hre, hb⟩
            have HRE := Lib.hid hre
            have HB2 := Lib.hid hb
            have HTK2 := Lib.hid (HTK.out.later hb)
            have HBY2 := Lib.hid (HBY.out.kept hb)
            have HH42 := Lib.hid (heap_in HH4.out hb)
            have HH22 := Lib.hid (heap_in HH2.out hb)
            have HT2 := Lib.hid (HT.out.farL HL0.out HTK2.out.far)
            have hvp := hre.ptr
            clear hre hb
            obtain ⟨qv, rfl⟩ := hvp
            go_wp2_with fail
            refine (HSG.out _ _ HT2.out HRE.out).mono ?_
            rintro e w3 ⟨b, ok, rfl, hsi, hb⟩
            have HSM := Lib.hid hsi.split
            have HTK3 := Lib.hid (HTK2.out.later hb)
            have HBY3 := Lib.hid (HBY2.out.kept hb)
            have hh4 := heap_in HH42.out hb
            have hh2 := heap_in HH22.out hb
            have HH43 := Lib.hid hh4
            have HH23 := Lib.hid hh2
            clear hb hsi
            obtain ⟨d0, d1⟩ := HTK3.out.lx.cells
            have g1 := HTK3.out.lx.frz 1
            have k0 : w3.cell? ⟨w.heap.size + 1, 0, none⟩ = some (.int .i64 3) := by rw [cell_of_row _ _ _ _ _ _ hh4]; rfl
            have k1 : w3.cell? ⟨w.heap.size + 1, 1, none⟩ = some (.string ⟨#[]⟩) := by rw [cell_of_row _ _ _ _ _ _ hh4]; rfl
            have k2 : w3.cell? ⟨w.heap.size + 1, 2, none⟩ = some (.pointer none) := by rw [cell_of_row _ _ _ _ _ _ hh4]; rfl
            have k3 : w3.cell? ⟨w.heap.size + 1, 3, none⟩ = some (.int .i64 (a : Nat)) := by rw [cell_of_row _ _ _ _ _ _ hh4]; rfl
            have kf : ∀ j, w3.frozen? ⟨w.heap.size + 1, j, none⟩ = false := fun j => frozen_of_row _ _ j _ _ hh4
            have q0 : w3.cell? ⟨w.heap.size, 0, none⟩ = some (.int .i64 0) := by rw [cell_of_row _ _ _ _ _ _ hh2]; rfl
            have q1 : w3.cell? ⟨w.heap.size, 1, none⟩ = some (.string ⟨#[]⟩) := by rw [cell_of_row _ _ _ _ _ _ hh2]; rfl
            have q2 : w3.cell? ⟨w.heap.size, 2, none⟩ = some (.pointer none) := by rw [cell_of_row _ _ _ _ _ _ hh2]; rfl
            have q3 : w3.cell? ⟨w.heap.size, 3, none⟩ = some (.int .i64 0) := by rw [cell_of_row _ _ _ _ _ _ hh2]; rfl
            have qf : ∀ j, w3.frozen? ⟨w.heap.size, j, none⟩ = false := fun j => frozen_of_row _ _ j _ _ hh2
            clear hh4 hh2
            obtain ⟨en, HEN⟩ : ∃ en, Hid ((readW T).2.1 = en) := ⟨_, rfl⟩
            rw [HEN.out]
            rcases HSM.out with ⟨x, hx, rfl, rfl⟩ | ⟨hx, rfl⟩
            · have HQ : Hid (LX.qGo f' (part s (j + 2) E) (j + 2) (out ++ [b.toUInt8]) = R) := (HQS.out.2 b hx).symm
              obtain ⟨hb256, hnn⟩ := single_lt hx
              have he : en = 0 := by rw [← HEN.out]; exact HOK.out hnn
              have HBV : Hid (byV b.toUInt8 = .int .u8 (b : Nat)) := by
                show _ = _
                unfold byV
                rw [show b.toUInt8.toNat = b by rw [Nat.toUInt8_eq, UInt8.toNat_ofNat']; omega]
              clear hx hnn HEN
              subst he
              go_wp2_with (at_builtin; refine wpList_append_lies _ rfl _ _ _ rfl (w.heap.size + 2) 5 i0 _ 1 1 Tryz.underlying138 HI.out HZ0.out HZ1.out HZ2.out rfl (by omega) _ out.length (out.map byV) rfl (World.ownsRow.alloc HBY3.out _) ⟨w3.heap.size, 0, none⟩ 1 1 [byV b.toUInt8] rfl rfl (by rw [HBV.out]; exact World.news_of_block (cs := #[.int .u8 (b : Nat)]) (t := 5) (fr := (0, 0)) (heap_alloc_last w3 _)) (by intro u hu; rw [List.mem_singleton.1 hu]; rfl) (by omega) (by unfold maxLen; omega) (by omega) (by have := HTK3.out.t1; obtain ⟨cs, hc⟩ := this; have := (Array.getElem?_eq_some_iff.1 hc).1; simp; omega) (w3.heap.size + 1) (by simp) ?_; intro g5 cp5 W9 hown9 hg9 hat9 hlt9)
              have HTK9 : Hid (TkW w p s a (.pointer none) none W9) := (HTK3.out.later (re_alloc w3 _)).grown hg9 HBY3.out.low
              have HBY9 : Hid (BytAt w (.slice (some ⟨g5, 0, none⟩) (out.length + 1) cp5) (out ++ [b.toUInt8]) W9) := by
                show World.ownsRow _ _ _ _ _ _ _
                rw [List.length_append, List.length_singleton, List.map_append]; exact hown9
              have HKP : Hid (∀ c o, c < w.heap.size + 2 → w3.heap[c]? = some o → W9.heap[c]? = some o) := fun c o hc ho => by
                refine (hg9.block c (by simp; have := (Array.getElem?_eq_some_iff.1 ho).1; omega) fun e => ?_).trans (heap_in ho (re_alloc w3 _))
                first
                  | (have := HBY3.out.low c e; omega)
                  | (have := HBY3.out.low c e.symm; omega)
              have H49 := Lib.hid (HKP.out _ _ (by omega) HH43.out)
              have H29 := Lib.hid (HKP.out _ _ (by omega) HH23.out)
              clear hown9 hg9 hat9 hlt9
              go_wp2_with fail
              go_roundw
              case rel => exact ⟨f', j + 2, out ++ [b.toUInt8], by go_num, by omega, by omega, HQ.out, by omega, by simp; omega, HBY9.out, HTK9.out, 0, H49.out, H29.out, rfl⟩
              case measure => simp [intOf]; omega
            · have HR : Hid (R = (out, some j)) := HQS.out.1 hx
              have HO : Hid (OUT = (⟨3, [], none, a⟩, 2, j)) := by
                show _ = _
                rw [HOUT.out, HR.out]
              clear hx HEN
              by_cases he0 : en = 0
              · subst he0
                go_wp2_with fail
                refine bodyPost_ret (v := .tuple #[.agg #[.int .i64 3, .string ⟨#[]⟩, .pointer none, .int .i64 (a : Nat)], .int .i64 2]) (by simp [results, Tryz.results94, go_sem, q0, q1, q2, q3, k0, k1, k2, k3, d1, hne1, hne2, Ne.symm hne1, Ne.symm hne2]) rfl ?_
                rw [HO.out]
                have hfin := ((((HTK3.out.pos j (j : Int) rfl).tok0 0 (.int .i64 3)).tok0 1 (.string ⟨#[]⟩)).tok0 2 (.pointer none)).tok0 3 (.int .i64 (a : Nat))
                exact ⟨.pointer none, rfl, rfl, hfin.lx, hfin.far⟩
              · have hen : (((en : Nat) : Int) != 0) = true := by simp; omega
                go_wp2_with fail
                refine bodyPost_ret (v := .tuple #[.agg #[.int .i64 3, .string ⟨#[]⟩, .pointer none, .int .i64 (a : Nat)], .int .i64 2]) (by simp [results, Tryz.results94, go_sem, q0, q1, q2, q3, k0, k1, k2, k3, d1, hne1, hne2, Ne.symm hne1, Ne.symm hne2]) rfl ?_
                rw [HO.out]
                have hfin := ((((HTK3.out.pos j (j : Int) rfl).tok0 0 (.int .i64 3)).tok0 1 (.string ⟨#[]⟩)).tok0 2 (.pointer none)).tok0 3 (.int .i64 (a : Nat))
                exact ⟨.pointer none, rfl, rfl, hfin.lx, hfin.far⟩
        · have e3 : ((((s.getD j 0).toNat : Nat) : Int) == 92) = false := by rw [beq_eq_false_iff_ne]; exact fun h => g92 (UInt8.toNat_inj.1 (by show (s.getD j 0).toNat = 92; omega))
          clear e2
          have hixe : ∀ W, Calls Tryz.prog 93 #[.string ⟨#[40, 41, 91, 93, 124, 38, 45, 42, 43, 63, 46, 32]⟩, .int .u8 ((s.getD j 0).toNat : Nat)] W fun e w' => e = .returned (.int .i64 (Lib.indexByte LX.plainQ (s.getD j 0))) ∧ w' = W := fun W => by
            have := HIX.out (((s.getD j 0).toNat : Nat) : Int) W
            simpa [LX.plainQ] using this
          have HIX2 := Lib.hid hixe
          clear hixe
          by_cases gpl : LX.plainQ.contains (s.getD j 0) = true
          · have hge2 : 0 ≤ Lib.indexByte LX.plainQ (s.getD j 0) := of_decide_eq_true (hge.trans gpl)
            have HQ : Hid (LX.qGo f' (part s (j + 1) E) (j + 1) (out ++ [s.getD j 0]) = R) := by
              show _ = _
              rw [← HGO.out, HPC.out, LX.qGo, if_pos ⟨g92, gpl⟩]
            have HBV : Hid (byV (s.getD j 0) = .int .u8 ((s.getD j 0).toNat : Nat)) := rfl
            clear hge gpl g92
            generalize Lib.indexByte LX.plainQ (s.getD j 0) = ix at *
            generalize s.getD j 0 = c at *
            generalize hS : (⟨s.toArray⟩ : ByteArray) = S at *
            clear hS
            go_wp2_with fail
            refine (HIX2.out _).mono ?_
            rintro e w' ⟨rfl, rfl⟩
            have hbyx := HBY.out
            go_wp2_with (at_builtin; refine wpList_append_lies _ rfl _ _ _ rfl (w.heap.size + 2) 5 i0 _ 1 1 Tryz.underlying138 HI.out HZ0.out HZ1.out HZ2.out rfl (by omega) _ out.length (out.map byV) rfl (World.ownsRow.alloc HBY.out _) ⟨w'.heap.size, 0, none⟩ 1 1 [byV c] rfl rfl (by rw [HBV.out]; exact World.news_of_block (cs := #[.int .u8 (c.toNat : Nat)]) (t := 5) (fr := (0, 0)) (heap_alloc_last w' _)) (by intro u hu; rw [List.mem_singleton.1 hu]; rfl) (by omega) (by unfold maxLen; omega) (by omega) (by have := HTK.out.t1; obtain ⟨cs, hc⟩ := this; have := (Array.getElem?_eq_some_iff.1 hc).1; simp; omega) (w'.heap.size + 1) (by simp) ?_; intro g5 cp5 W9 hown9 hg9 hat9 hlt9)
            have HTK9 : Hid (TkW w p s a (.pointer none) none W9) := (HTK.out.later (re_alloc w' _)).grown hg9 HBY.out.low
            have HBY9 : Hid (BytAt w (.slice (some ⟨g5, 0, none⟩) (out.length + 1) cp5) (out ++ [c]) W9) := by
              show World.ownsRow _ _ _ _ _ _ _
              rw [List.length_append, List.length_singleton, List.map_append]; exact hown9
            have HKP : Hid (∀ c o, c < w.heap.size + 2 → w'.heap[c]? = some o → W9.heap[c]? = some o) := fun c o hc ho => by
              refine (hg9.block c (by simp; have := (Array.getElem?_eq_some_iff.1 ho).1; omega) fun e => ?_).trans (heap_in ho (re_alloc w' _))
              first
                | (have := HBY.out.low c e; omega)
                | (have := HBY.out.low c e.symm; omega)
            have H49 := Lib.hid (HKP.out _ _ (by omega) HH4.out)
            have H29 := Lib.hid (HKP.out _ _ (by omega) HH2.out)
            clear hown9 hg9 hat9 hlt9
            go_wp2_with fail
            go_roundw
            case rel => exact ⟨f', j + 1, out ++ [c], by go_num, by omega, by omega, HQ.out, by omega, by simp; omega, HBY9.out, HTK9.out, 0, H49.out, H29.out, rfl⟩
            case measure => simp [intOf]; omega
          · have gpl' : LX.plainQ.contains (s.getD j 0) = false := by simpa using gpl
            have hge2 : ¬ 0 ≤ Lib.indexByte LX.plainQ (s.getD j 0) := of_decide_eq_false (hge.trans gpl')
            have HNP : Hid (¬ (s.getD j 0 ≠ 92 ∧ LX.plainQ.contains (s.getD j 0) = true)) := fun h => gpl h.2
            have HST : Hid (LX.qStep (s.getD j 0) (part s (j + 1) E) = 1) := by
              show _ = _
              rw [HST0.out, if_neg g92]
            clear hge gpl gpl' g92 HIX
            have HIX := HIX2
            generalize Lib.indexByte LX.plainQ (s.getD j 0) = ix at *
            have hmin : min ((j : Int) + 1) (E : Int) = (j : Int) + 1 := by omega
            have htk := part_take s j E 1 (j + 1) (by omega) (by omega)
            have hsl := fun W => strBetweenAt s j (j + 1) (by omega) (by omega) (j : Int) ((j : Int) + 1) (by omega) (by omega) W
            have hsl2 := fun W => strBetween s j (j + 1) (by omega) (by omega) (j : Int) ((j : Int) + 1) (by omega) (by omega) W
            rw [← htk] at hsl hsl2
            have hrd := Read_any ((part s j E).take 1) (by rw [List.length_take]; have := part_len s j E; omega)
            have hqs := qGo_step f' (s.getD j 0) (part s (j + 1) E) j out HNP.out 1 HST.out
            rw [← HPC.out, HGO.out, part_drop s j E 1] at hqs
            have HQS := Lib.hid hqs
            clear hqs
            generalize (part s j E).take 1 = T at *
            have HRD := Lib.hid hrd
            have HSG := Lib.hid (fun W v (hT : Tab W) (h : IsReO W v (readW T).1) => single_any v (readW T).1 W hT h)
            have HOK := Lib.hid (readW_ok0 T)
            clear hrd htk
            generalize hS : (⟨s.toArray⟩ : ByteArray) = S at *
            generalize hTT : (⟨T.toArray⟩ : ByteArray) = TT at *
            clear hS hTT
            generalize s.getD j 0 = ch at *
            go_wp2_with fail
            refine (HIX.out _).mono ?_
            rintro e w1 ⟨rfl, rfl⟩
            go_wp2_with fail
            refine (HRD.out _).mono ?_
            rintro e w2 ⟨v, rfl, hre, hb⟩
            have HRE := Lib.hid hre
            have HB2 := Lib.hid hb
            have HTK2 := Lib.hid (HTK.out.later hb)
            have HBY2 := Lib.hid (HBY.out.kept hb)
            have HH42 := Lib.hid (heap_in HH4.out hb)
            have HH22 := Lib.hid (heap_in HH2.out hb)
            have HT2 := Lib.hid (HT.out.farL HL0.out HTK2.out.far)
            have hvp := hre.ptr
            clear hre hb
            obtain ⟨qv, rfl⟩ := hvp
            go_wp2_with fail
            refine (HSG.out _ _ HT2.out HRE.out).mono ?_
            rintro e w3 ⟨b, ok, rfl, hsi, hb⟩
            have HSM := Lib.hid hsi.split
            have HTK3 := Lib.hid (HTK2.out.later hb)
            have HBY3 := Lib.hid (HBY2.out.kept hb)
            have hh4 := heap_in HH42.out hb
            have hh2 := heap_in HH22.out hb
            have HH43 := Lib.hid hh4
            have HH23 := Lib.hid hh2
            clear hb hsi
            obtain ⟨d0, d1⟩ := HTK3.out.lx.cells
            have g1 := HTK3.out.lx.frz 1
            have k0 : w3.cell? ⟨w.heap.size + 1, 0, none⟩ = some (.int .i64 3) := by rw [cell_of_row _ _ _ _ _ _ hh4]; rfl
            have k1 : w3.cell? ⟨w.heap.size + 1, 1, none⟩ = some (.string ⟨#[]⟩) := by rw [cell_of_row _ _ _ _ _ _ hh4]; rfl
            have k2 : w3.cell? ⟨w.heap.size + 1, 2, none⟩ = some (.pointer none) := by rw [cell_of_row _ _ _ _ _ _ hh4]; rfl
            have k3 : w3.cell? ⟨w.heap.size + 1, 3, none⟩ = some (.int .i64 (a : Nat)) := by rw [cell_of_row _ _ _ _ _ _ hh4]; rfl
            have kf : ∀ j, w3.frozen? ⟨w.heap.size + 1, j, none⟩ = false := fun j => frozen_of_row _ _ j _ _ hh4
            have q0 : w3.cell? ⟨w.heap.size, 0, none⟩ = some (.int .i64 0) := by rw [cell_of_row _ _ _ _ _ _ hh2]; rfl
            have q1 : w3.cell? ⟨w.heap.size, 1, none⟩ = some (.string ⟨#[]⟩) := by rw [cell_of_row _ _ _ _ _ _ hh2]; rfl
            have q2 : w3.cell? ⟨w.heap.size, 2, none⟩ = some (.pointer none) := by rw [cell_of_row _ _ _ _ _ _ hh2]; rfl
            have q3 : w3.cell? ⟨w.heap.size, 3, none⟩ = some (.int .i64 0) := by rw [cell_of_row _ _ _ _ _ _ hh2]; rfl
            have qf : ∀ j, w3.frozen? ⟨w.heap.size, j, none⟩ = false := fun j => frozen_of_row _ _ j _ _ hh2
            clear hh4 hh2
            obtain ⟨en, HEN⟩ : ∃ en, Hid ((readW T).2.1 = en) := ⟨_, rfl⟩
            rw [HEN.out]
            rcases HSM.out with ⟨x, hx, rfl, rfl⟩ | ⟨hx, rfl⟩
            · have HQ : Hid (LX.qGo f' (part s (j + 1) E) (j + 1) (out ++ [b.toUInt8]) = R) := (HQS.out.2 b hx).symm
              obtain ⟨hb256, hnn⟩ := single_lt hx
              have he : en = 0 := by rw [← HEN.out]; exact HOK.out hnn
              have HBV : Hid (byV b.toUInt8 = .int .u8 (b : Nat)) := by
                show _ = _
                unfold byV
                rw [show b.toUInt8.toNat = b by rw [Nat.toUInt8_eq, UInt8.toNat_ofNat']; omega]
              clear hx hnn HEN
              subst he
              go_wp2_with (at_builtin; refine wpList_append_lies _ rfl _ _ _ rfl (w.heap.size + 2) 5 i0 _ 1 1 Tryz.underlying138 HI.out HZ0.out HZ1.out HZ2.out rfl (by omega) _ out.length (out.map byV) rfl (World.ownsRow.alloc HBY3.out _) ⟨w3.heap.size, 0, none⟩ 1 1 [byV b.toUInt8] rfl rfl (by rw [HBV.out]; exact World.news_of_block (cs := #[.int .u8 (b : Nat)]) (t := 5) (fr := (0, 0)) (heap_alloc_last w3 _)) (by intro u hu; rw [List.mem_singleton.1 hu]; rfl) (by omega) (by unfold maxLen; omega) (by omega) (by have := HTK3.out.t1; obtain ⟨cs, hc⟩ := this; have := (Array.getElem?_eq_some_iff.1 hc).1; simp; omega) (w3.heap.size + 1) (by simp) ?_; intro g5 cp5 W9 hown9 hg9 hat9 hlt9)
              have HTK9 : Hid (TkW w p s a (.pointer none) none W9) := (HTK3.out.later (re_alloc w3 _)).grown hg9 HBY3.out.low
              have HBY9 : Hid (BytAt w (.slice (some ⟨g5, 0, none⟩) (out.length + 1) cp5) (out ++ [b.toUInt8]) W9) := by
                show World.ownsRow _ _ _ _ _ _ _
                rw [List.length_append, List.length_singleton, List.map_append]; exact hown9
              have HKP : Hid (∀ c o, c < w.heap.size + 2 → w3.heap[c]? = some o → W9.heap[c]? = some o) := fun c o hc ho => by
                refine (hg9.block c (by simp; have := (Array.getElem?_eq_some_iff.1 ho).1; omega) fun e => ?_).trans (heap_in ho (re_alloc w3 _))
                first
                  | (have := HBY3.out.low c e; omega)
                  | (have := HBY3.out.low c e.symm; omega)
              have H49 := Lib.hid (HKP.out _ _ (by omega) HH43.out)
              have H29 := Lib.hid (HKP.out _ _ (by omega) HH23.out)
              clear hown9 hg9 hat9 hlt9
              go_wp2_with fail
              go_roundw
              case rel => exact ⟨f', j + 1, out ++ [b.toUInt8], by go_num, by omega, by omega, HQ.out, by omega, by simp; omega, HBY9.out, HTK9.out, 0, H49.out, H29.out, rfl⟩
              case measure => simp [intOf]; omega
            · have HR : Hid (R = (out, some j)) := HQS.out.1 hx
              have HO : Hid (OUT = (⟨3, [], none, a⟩, 2, j)) := by
                show _ = _
                rw [HOUT.out, HR.out]
              clear hx HEN
              by_cases he0 : en = 0
              · subst he0
                go_wp2_with fail
                refine bodyPost_ret (v := .tuple #[.agg #[.int .i64 3, .string ⟨#[]⟩, .pointer none, .int .i64 (a : Nat)], .int .i64 2]) (by simp [results, Tryz.results94, go_sem, q0, q1, q2, q3, k0, k1, k2, k3, d1, hne1, hne2, Ne.symm hne1, Ne.symm hne2]) rfl ?_
                rw [HO.out]
                have hfin := ((((HTK3.out.pos j (j : Int) rfl).tok0 0 (.int .i64 3)).tok0 1 (.string ⟨#[]⟩)).tok0 2 (.pointer none)).tok0 3 (.int .i64 (a : Nat))
                exact ⟨.pointer none, rfl, rfl, hfin.lx, hfin.far⟩
              · have hen : (((en : Nat) : Int) != 0) = true := by simp; omega
                go_wp2_with fail
                refine bodyPost_ret (v := .tuple #[.agg #[.int .i64 3, .string ⟨#[]⟩, .pointer none, .int .i64 (a : Nat)], .int .i64 2]) (by simp [results, Tryz.results94, go_sem, q0, q1, q2, q3, k0, k1, k2, k3, d1, hne1, hne2, Ne.symm hne1, Ne.symm hne2]) rfl ?_
                rw [HO.out]
                have hfin := ((((HTK3.out.pos j (j : Int) rfl).tok0 0 (.int .i64 3)).tok0 1 (.string ⟨#[]⟩)).tok0 2 (.pointer none)).tok0 3 (.int .i64 (a : Nat))
                exact ⟨.pointer none, rfl, rfl, hfin.lx, hfin.far⟩
      · have hlt' : ¬ (j : Int) < (E : Int) := by omega
        have hcv := HBY.out.conv
        have HR : Hid (R = (out, none)) := by
          show _ = _
          rw [← HGO.out, part_nil s j E (by omega), LX.qGo]
        have HO : Hid (OUT = (⟨3, out, none, a⟩, 0, E + 1)) := by show _ = _; rw [HOUT.out, HR.out]
        obtain ⟨d0, d1⟩ := HTK.out.lx.cells
        have g1 := HTK.out.lx.frz 1
        have k0 : wr.cell? ⟨w.heap.size + 1, 0, none⟩ = some (.int .i64 3) := by rw [cell_of_row _ _ _ _ _ _ hh4]; rfl
        have k1 : wr.cell? ⟨w.heap.size + 1, 1, none⟩ = some (.string ⟨#[]⟩) := by rw [cell_of_row _ _ _ _ _ _ hh4]; rfl
        have k2 : wr.cell? ⟨w.heap.size + 1, 2, none⟩ = some (.pointer none) := by rw [cell_of_row _ _ _ _ _ _ hh4]; rfl
        have k3 : wr.cell? ⟨w.heap.size + 1, 3, none⟩ = some (.int .i64 (a : Nat)) := by rw [cell_of_row _ _ _ _ _ _ hh4]; rfl
        have kf : ∀ j, wr.frozen? ⟨w.heap.size + 1, j, none⟩ = false := fun j => frozen_of_row _ _ j _ _ hh4
        have q0 : wr.cell? ⟨w.heap.size, 0, none⟩ = some (.int .i64 0) := by rw [cell_of_row _ _ _ _ _ _ hh2]; rfl
        have q1 : wr.cell? ⟨w.heap.size, 1, none⟩ = some (.string ⟨#[]⟩) := by rw [cell_of_row _ _ _ _ _ _ hh2]; rfl
        have q2 : wr.cell? ⟨w.heap.size, 2, none⟩ = some (.pointer none) := by rw [cell_of_row _ _ _ _ _ _ hh2]; rfl
        have q3 : wr.cell? ⟨w.heap.size, 3, none⟩ = some (.int .i64 0) := by rw [cell_of_row _ _ _ _ _ _ hh2]; rfl
        have qf : ∀ j, wr.frozen? ⟨w.heap.size, j, none⟩ = false := fun j => frozen_of_row _ _ j _ _ hh2
        have hos : (⟨out.toArray⟩ : ByteArray).size = out.length := str_size out
        clear hh4 hh2 c0 c1
        generalize hOS : (⟨out.toArray⟩ : ByteArray) = OS at *
        go_wp2_with fail
        refine bodyPost_ret (v := .tuple #[.agg #[.int .i64 3, .string OS, .pointer none, .int .i64 (a : Nat)], .int .i64 0]) (by simp [results, Tryz.results94, go_sem, q0, q1, q2, q3, k0, k1, k2, k3, d1, hne1, hne2, Ne.symm hne1, Ne.symm hne2]) rfl ?_
        rw [HO.out]
        have hfin := (((((HTK.out.tok1 1 (.string OS)).pos (E + 1) ((E : Int) + 1) (by omega)).tok0 0 (.int .i64 3)).tok0 1 (.string OS)).tok0 2 (.pointer none)).tok0 3 (.int .i64 (a : Nat))
        exact ⟨.pointer none, by rw [← hOS]; rfl, rfl, hfin.lx, hfin.far⟩
end Go.Proofs.YticpjjmacmmpjaaGreatDoor
