/-
  'Then', walked through the program: expressions one behind the other.
-/
import Derived.Test.YtpajpjocakhcdaaGreatDoorReFlat
set_option linter.unusedSimpArgs false
set_option linter.unusedVariables false
set_option maxRecDepth 100000
set_option linter.unnecessarySimpa false
namespace Go.Proofs.YtpajpjocakhcdaaGreatDoor
open Go.RowKit

/-- what a function value answers of expressions, in whatever world they lie -/
def Asks (g : Nat) (p : RE → Bool) : Prop := ∀ (W : World) (b : Nat) (r : RE), IsRe W b r → Calls Tryz.prog g #[ptr b] W fun e w' => e = .returned (.bool (p r)) ∧ w' = W
set_option maxHeartbeats 800000 in
theorem isEps : Asks 77 (fun r => r.op == 1) := by
  intro W b r hb
  obtain ⟨kp1, cap1, bs1, hnode, hptr, hkids⟩ := hb.open
  have hop : W.cell? ⟨b, 0, none⟩ = some (.int .i64 (r.op : Nat)) := by rw [cell_of_row _ _ _ _ _ _ hnode]; rfl
  clear hnode hptr hkids hb
  have he : ((r.op : Int) == 1) = (r.op == 1) := by
    by_cases h : r.op = 1
    · simp [h]
    · have h2 : ¬ ((r.op : Int) = 1) := by omega
      rw [beq_eq_false_iff_ne.2 h, beq_eq_false_iff_ne.2 h2]
  have HE := Lib.hid he
  clear he
  go_enter Tryz.func77, Tryz.ntmps77
  go_wp2_with fail
  rw [HE.out]
  go_wp2_with fail
  go_ret
  exact ⟨rfl, rfl⟩
def IdxFAt (w : World) (p : RE → Bool) (ls : List RE) (i : Value) (wr : World) : Prop := ∃ k : Nat, k ≤ ls.length ∧ i = .int .i64 k ∧ wr = w ∧ ∀ j, j < k → p (ls.getD j RE.nothing) = false
set_option maxRecDepth 100000 in
set_option maxHeartbeats 2000000 in
/-- none of them -/
theorem IndexFunc_none (g : Nat) (p : RE → Bool) (hg : Asks g p) (eg : ∀ args w, (callFunc g args).run Tryz.prog w = .ok (.enter g args) w) (kp : Option Addr) (cap : Nat) (bs : List Nat) (ls : List RE) (w : World) (hr : PtrsAt w kp bs) (hk : AreRe w bs ls) (hn : ∀ r ∈ ls, p r = false) (hln : ls.length ≤ 1099511627776) :
    Calls Tryz.prog 106 #[.slice kp ls.length cap, .func (.func g) #[] #[]] w fun e w' => e = .returned (.int .i64 (-1)) ∧ w' = w := by
  have HR := Lib.hid hr
  have HK := Lib.hid hk
  have HN := Lib.hid hn
  have HG := Lib.hid hg
  clear hr hk hn hg
  go_enter Tryz.func106, Tryz.ntmps106
  go_wp2_with fail
  go_loopw [8] (fun i wr => IdxFAt w p ls i wr) (fun i _ => ls.length - (intOf i).toNat)
  case atStart => exact ⟨0, by omega, rfl, rfl, fun j hj => by omega⟩
  case round =>
    obtain ⟨k, hk, rfl, rfl, hno⟩ := hrel
    by_cases hlt : k < ls.length
    · obtain ⟨hbl, hkids⟩ := HK.out
      rcases HR.out with h0 | ⟨kb, ko, rfl, hrow⟩
      · rw [h0] at hbl; simp at hbl; omega
      have hptr : wr.cell? ⟨kb, ko + k, none⟩ = some (.pointer (some ⟨bs.getD k 0, 0, none⟩)) := hrow k (by omega)
      have hkid := hkids k hlt
      have hpf : p (ls.getD k RE.nothing) = false := HN.out _ (by simp [List.getD, hlt])
      have hc := HG.out wr _ _ hkid
      rw [hpf] at hc
      have HC := Lib.hid hc
      have HNO : Hid (∀ j, j < k + 1 → p (ls.getD j RE.nothing) = false) := fun j hj => if h : j < k then hno j h else by rw [show j = k by omega]; exact hpf
      clear hc hpf hkid hkids hrow hbl hno
      generalize bs.getD k 0 = b at *
      go_wp2_with fail
      refine HC.out.mono ?_
      rintro e w' ⟨rfl, rfl⟩
      go_wp2_with fail
      go_roundw
      case rel => exact ⟨k + 1, by omega, by go_num, rfl, HNO.out⟩
      case measure => simp [intOf]; omega
    · go_wp2
      go_ret
      exact ⟨rfl, rfl⟩
set_option maxRecDepth 100000 in
set_option maxHeartbeats 2000000 in
/-- nothing is taken away -/
theorem DeleteFunc_none (g : Nat) (p : RE → Bool) (hg : Asks g p) (eg : ∀ args w, (callFunc g args).run Tryz.prog w = .ok (.enter g args) w) (kp : Option Addr) (cap : Nat) (bs : List Nat) (ls : List RE) (w : World) (hr : PtrsAt w kp bs) (hk : AreRe w bs ls) (hn : ∀ r ∈ ls, p r = false) (hln : ls.length ≤ 1099511627776) :
    Calls Tryz.prog 75 #[.slice kp ls.length cap, .func (.func g) #[] #[]] w fun e w' => e = .returned (.slice kp ls.length cap) ∧ w' = w := by
  have HI := Lib.hid (IndexFunc_none g p hg eg kp cap bs ls w hr hk hn hln)
  clear hr hk hn hg
  go_enter Tryz.func75, Tryz.ntmps75
  go_wp2_with (go_at_call 106; refine HI.out.mono ?_; rintro e w' ⟨rfl, rfl⟩)
  go_ret
  exact ⟨rfl, rfl⟩
theorem OwnRe.row {w wr : World} {ls : List RE} {bs : List Nat} {v : Value} (h : OwnRe w ls bs v wr) : ∃ kp cap, v = .slice kp ls.length cap ∧ PtrsAt wr kp bs ∧ (∀ a : Addr, kp = some a → v.ownBlock = some a.block) := by
  rcases h.own.2 with ⟨h1, h0⟩ | ⟨g, cap, cur, hv, hg, hgb, hnc, h4, h5, h6⟩
  · refine ⟨none, 0, by rw [h1, ← h.are.1, h0], .inl (List.length_eq_zero_iff.1 h0), fun a ha => by cases ha⟩
  · refine ⟨some ⟨g, 0, none⟩, cap, by rw [hv, h.are.1], .inr ⟨g, 0, rfl, fun i hi => ?_⟩, fun a ha => by rw [hv]; cases ha; rfl⟩
    have ho := h.own
    rw [hv] at ho
    rw [Nat.zero_add, ho.cellAt i (by omega)]
    simp [List.getD, hi]
theorem OwnRe.ty {w wr : World} {ls : List RE} {bs : List Nat} {kp : Option Addr} {n cap : Nat} (h : OwnRe w ls bs (.slice kp n cap) wr) : TyAt wr bs kp := fun hne a ha => by
  rcases h.own.2 with ⟨h1, h0⟩ | ⟨g, cap', cur, hv, hg, hgb, _⟩
  · exact absurd (List.length_eq_zero_iff.1 h0) hne
  · rw [ha] at hv
    simp only [Value.slice.injEq, Option.some.injEq] at hv
    rw [hv.1]
    exact ⟨cur, _, hgb⟩
def ThenAt (w : World) (F : List RE) (v i : Value) (wr : World) : Prop := ∃ k : Nat, k ≤ F.length ∧ i = .int .i64 k ∧ v = .bool (RE.nullAll (F.take k)) ∧ wr = w ∧ ∀ j, j < k → (F.getD j RE.nothing).op ≠ 0
theorem RE.nullAll_snoc (l : List RE) (r : RE) : RE.nullAll (l ++ [r]) = (RE.nullAll l && r.null) := by simp [RE.nullAll_eq]
theorem thenL_zero {l : List (Option RE)} {k : Nat} (hne : ∀ r ∈ RE.flat 3 l, r.op ≠ 1) (hk : k < (RE.flat 3 l).length) (h0 : ((RE.flat 3 l).getD k RE.nothing).op = 0) : RE.thenL l = RE.nothing := by
  have hf : (RE.flat 3 l).filter (fun r => r.op != 1) = RE.flat 3 l := List.filter_eq_self.2 fun r hr => by simpa using hne r hr
  unfold RE.thenL
  rw [hf, if_pos]
  refine List.any_eq_true.2 ⟨_, List.getElem_mem hk, ?_⟩
  simpa [List.getD, hk] using h0
theorem thenL_seq {l : List (Option RE)} (hne : ∀ r ∈ RE.flat 3 l, r.op ≠ 1) (h0 : ∀ j, j < (RE.flat 3 l).length → ((RE.flat 3 l).getD j RE.nothing).op ≠ 0) : RE.thenL l = RE.seqL (RE.flat 3 l) := by
  have hf : (RE.flat 3 l).filter (fun r => r.op != 1) = RE.flat 3 l := List.filter_eq_self.2 fun r hr => by simpa using hne r hr
  unfold RE.thenL
  rw [hf, if_neg]
  intro ha
  obtain ⟨r, hr, hr0⟩ := List.any_eq_true.1 ha
  obtain ⟨j, hj, rfl⟩ := List.mem_iff_getElem.1 hr
  exact h0 j hj (by simpa [List.getD, hj] using hr0)
set_option maxRecDepth 100000 in
set_option maxHeartbeats 4000000 in
theorem Then_noeps (kp : Option Addr) (cap : Nat) (l : List (Option RE)) (w : World) (hl : ListO w kp l) (hne : ∀ r, some r ∈ l → r.op = 3 → r.kids ≠ []) (heps : ∀ r ∈ RE.flat 3 l, r.op ≠ 1) (hsz : RE.sizes (RE.flat 3 l) ≤ 1099511627776) (hln : l.length ≤ 1099511627776) :
    Calls Tryz.prog 40 #[.slice kp l.length cap] w fun e w' => ∃ b, e = .returned (ptr b) ∧ IsRe w' b (RE.thenL l) ∧ Below w.heap.size w w' := by
  have hlen := RE.len_sizes (RE.flat 3 l)
  have HF := Lib.hid (flat_any 3 kp cap l w hl hne (by omega) hln)
  have HZ := Lib.hid (fun k => thenL_zero (k := k) heps)
  have HS := Lib.hid (thenL_seq heps)
  have HE := Lib.hid heps
  clear hl hne heps
  generalize hT : RE.thenL l = T at *
  generalize hFF : RE.flat 3 l = F at *
  clear hT hFF
  go_enter Tryz.func40, Tryz.ntmps40
  go_wp2_with fail
  refine HF.out.mono ?_
  rintro e w1 ⟨v, bs, rfl, hO⟩
  obtain ⟨kp1, cap1, rfl, hrow, _⟩ := hO.row
  have HDel := Lib.hid (DeleteFunc_none 77 (fun r => r.op == 1) isEps (enters_of Tryz.func77 (by kernel_rfl) rfl) kp1 cap1 bs F w1 hrow hO.are.is (fun r hr => by simpa using HE.out r hr) (by omega))
  go_wp2_with fail
  refine HDel.out.mono ?_
  rintro e w' ⟨rfl, rfl⟩
  go_wp2_with fail
  go_loopw [4, 12] (fun v i wr => ThenAt w' F v i wr) (fun _ i _ => F.length - (intOf i).toNat)
  case atStart => exact ⟨0, by omega, rfl, rfl, rfl, fun j hj => by omega⟩
  case round =>
    obtain ⟨k, hk, rfl, rfl, rfl, hno⟩ := hrel
    by_cases hlt : k < F.length
    · obtain ⟨hbl, hkids⟩ := hO.are.is
      rcases hrow with h0 | ⟨kb, ko, rfl, hrw⟩
      · rw [h0] at hbl; simp at hbl; omega
      have hptr : wr.cell? ⟨kb, ko + k, none⟩ = some (.pointer (some ⟨bs.getD k 0, 0, none⟩)) := hrw k (by omega)
      have hkid := hkids k hlt
      obtain ⟨kp2, cap2, bs2, hnode, _, _⟩ := hkid.open
      have HNA : Hid (RE.nullAll (F.take (k + 1)) = (RE.nullAll (F.take k) && (F.getD k RE.nothing).null)) := by
        show _ = _
        rw [RE.take_snoc F k hlt, RE.nullAll_snoc]
      have HZK := Lib.hid (HZ.out k hlt)
      have hop : wr.cell? ⟨bs.getD k 0, 0, none⟩ = some (.int .i64 ((F.getD k RE.nothing).op : Nat)) := by rw [cell_of_row _ _ _ _ _ _ hnode]; rfl
      have hnl : wr.cell? ⟨bs.getD k 0, 2 + 3 + 1, none⟩ = some (.bool (F.getD k RE.nothing).null) := by rw [cell_of_row _ _ _ _ _ _ hnode]; rfl
      have HNO := Lib.hid hno
      have HRW := Lib.hid hrw
      have HOW := Lib.hid hO
      clear hnode hkid hkids hbl hno hrw hO
      generalize bs.getD k 0 = bk at *
      by_cases h0 : (F.getD k RE.nothing).op = 0
      · have hT := HZK.out h0
        subst hT
        rw [h0] at hop
        go_wp2_with fail
        refine (Nothing_any _).mono ?_
        rintro e w2 ⟨b, rfl, h1, h2⟩
        go_wp2_with fail
        go_ret
        exact ⟨b, rfl, h1.is, ext_step HOW.out.bel h2⟩
      · have HNO' : Hid (∀ j, j < k + 1 → (F.getD j RE.nothing).op ≠ 0) := fun j hj => if h : j < k then HNO.out j h else by rw [show j = k by omega]; exact h0
        have h0' : (((F.getD k RE.nothing).op : Int) == 0) = false := by
          rw [beq_eq_false_iff_ne]; omega
        generalize hq : RE.nullAll (F.take k) = q at *
        clear hq
        generalize (F.getD k RE.nothing).null = nl at *
        generalize (F.getD k RE.nothing).op = o at *
        clear h0
        cases q with
        | false =>
          go_wp2_with fail
          go_roundw
          case rel => exact ⟨k + 1, by omega, by go_num, by rw [HNA.out]; rfl, rfl, HNO'.out⟩
          case measure => simp [intOf]; omega
        | true =>
          go_wp2_with fail
          go_roundw
          case rel => exact ⟨k + 1, by omega, by go_num, by rw [HNA.out]; rfl, rfl, HNO'.out⟩
          case measure => simp [intOf]; omega
    · obtain rfl : k = F.length := by omega
      rw [List.take_length]
      have HT := Lib.hid (HS.out hno)
      have hk0 := hO.are.is
      by_cases h0 : F.length = 0
      · have HT2 : Hid (T = RE.empty) := by
          show _ = _
          rw [HT.out, List.length_eq_zero_iff.1 h0]; rfl
        rw [h0]
        go_wp2_with fail
        refine (EmptyRe_any _).mono ?_
        rintro e w2 ⟨b, rfl, h1, h2⟩
        go_wp2_with fail
        go_ret
        exact ⟨b, rfl, by rw [HT2.out]; exact h1.is, ext_step hO.bel h2⟩
      · rcases hrow with h1 | ⟨kb, ko, rfl, hrw⟩
        · have := hk0.1; rw [h1] at this; simp at this; omega
        by_cases h1 : F.length = 1
        · have HT2 : Hid (T = F.getD 0 RE.nothing) := by
            show _ = _
            rw [HT.out]
            match F, h1 with
            | [x], _ => rfl
          have hptr : wr.cell? ⟨kb, ko, none⟩ = some (.pointer (some ⟨bs.getD 0 0, 0, none⟩)) := by have := hrw 0 (by rw [hk0.1]; omega); simpa using this
          have HK0 := Lib.hid (hk0.2 0 (by omega))
          generalize bs.getD 0 0 = b0 at *
          rw [h1]
          go_wp2_with fail
          go_ret
          exact ⟨b0, rfl, by rw [HT2.out]; exact HK0.out, hO.bel⟩
        · have HT2 : Hid (T = RE.node 3 BS.none F) := by
            show _ = _
            rw [HT.out]
            match F, h0, h1 with
            | x :: y :: z, _, _ => rfl
          have HM := Lib.hid (made_zero 3 (by omega) (by omega) (RE.nullAll F) (some ⟨kb, ko, none⟩) cap1 bs F wr (.inr ⟨kb, ko, rfl, hrw⟩) hk0 (by simp [RE.null]) hsz)
          have h0' : ((F.length : Int) == 0) = false := by rw [beq_eq_false_iff_ne]; omega
          have h1' : ((F.length : Int) == 1) = false := by rw [beq_eq_false_iff_ne]; omega
          have HOW := Lib.hid hO
          have HK0 := Lib.hid hk0
          have HRW := Lib.hid hrw
          clear hO hk0 hrw h0 h1
          go_wp2_with fail
          refine HM.out.mono ?_
          rintro e w2 ⟨b, rfl, h3, h4, h5⟩
          go_wp2_with fail
          go_ret
          exact ⟨b, rfl, by rw [HT2.out]; exact IsRe.made h4 (.inr ⟨kb, ko, rfl, HRW.out⟩) HOW.out.ty HK0.out h5, ext_step HOW.out.bel h5⟩
end Go.Proofs.YtpajpjocakhcdaaGreatDoor
