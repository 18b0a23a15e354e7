/-
  Rows of pointers to expressions, rewritten in their places, walked through the program: the first one of which something is asked; those that are left when some are taken away.
-/
import Derived.Test.YticpjjmacmmpjaaGreatDoorReFlat
import Derived.Shelf.SlicesE.DeleteFunc
set_option linter.unusedSimpArgs false
set_option linter.unusedVariables false
set_option maxRecDepth 100000
set_option linter.unnecessarySimpa false
namespace Go.Proofs.YticpjjmacmmpjaaGreatDoor
open Go.RowKit

/-- what a function value answers of expressions, in whatever world they lie -/
def Asks (g : Nat) (p : RE → Bool) : Prop := ∀ (W : World) (b : Nat) (r : RE), IsRe W b r → Calls Tryz.prog g #[ptr b] W fun e w' => e = .returned (.bool (p r)) ∧ w' = W
set_option maxHeartbeats 800000 in
theorem isEps : Asks 77 (fun r => r.op == 1) := by
  intro W b r hb
  obtain ⟨kp1, cap1, bs1, hnode, hptr, hkids⟩ := hb.open
  have hop : W.cell? ⟨b, 0, none⟩ = some (.int .i64 (r.op : Nat)) := by rw [cell_of_row _ _ _ _ _ _ hnode]; rfl
  clear hnode hptr hkids hb
  have he : ((r.op : Int) == 1) = (r.op == 1) := by
    by_cases h : r.op = 1
    · simp [h]
    · have h2 : ¬ ((r.op : Int) = 1) := by omega
      rw [beq_eq_false_iff_ne.2 h, beq_eq_false_iff_ne.2 h2]
  have HE := Lib.hid he
  clear he
  go_enter Tryz.func77, Tryz.ntmps77
  go_wp2_with fail
  rw [HE.out]
  go_wp2_with fail
  go_ret
  exact ⟨rfl, rfl⟩
def IdxFAt (w : World) (p : RE → Bool) (ls : List RE) (i : Value) (wr : World) : Prop := ∃ k : Nat, k ≤ ls.length ∧ i = .int .i64 k ∧ wr = w ∧ ∀ j, j < k → p (ls.getD j RE.nothing) = false
set_option maxRecDepth 100000 in
set_option maxHeartbeats 2000000 in
/-- none of them -/
theorem IndexFunc_none (g : Nat) (p : RE → Bool) (hg : Asks g p) (eg : ∀ args w, (callFunc g args).run Tryz.prog w = .ok (.enter g args) w) (kp : Option Addr) (cap : Nat) (bs : List Nat) (ls : List RE) (w : World) (hr : PtrsAt w kp bs) (hk : AreRe w bs ls) (hn : ∀ r ∈ ls, p r = false) (hln : ls.length ≤ 1099511627776) :
    Calls Tryz.prog 120 #[.slice kp ls.length cap, .func (.func g) #[] #[]] w fun e w' => e = .returned (.int .i64 (-1)) ∧ w' = w := by
  have HR := Lib.hid hr
  have HK := Lib.hid hk
  have HN := Lib.hid hn
  have HG := Lib.hid hg
  clear hr hk hn hg
  go_enter Tryz.func120, Tryz.ntmps120
  go_wp2_with fail
  go_loopw [8] (fun i wr => IdxFAt w p ls i wr) (fun i _ => ls.length - (intOf i).toNat)
  case atStart => exact ⟨0, by omega, rfl, rfl, fun j hj => by omega⟩
  case round =>
    obtain ⟨k, hk, rfl, rfl, hno⟩ := hrel
    by_cases hlt : k < ls.length
    · obtain ⟨hbl, hkids⟩ := HK.out
      rcases HR.out with h0 | ⟨kb, ko, rfl, hrow⟩
      · rw [h0] at hbl; simp at hbl; omega
      have hptr : wr.cell? ⟨kb, ko + k, none⟩ = some (.pointer (some ⟨bs.getD k 0, 0, none⟩)) := hrow k (by omega)
      have hkid := hkids k hlt
      have hpf : p (ls.getD k RE.nothing) = false := HN.out _ (by simp [List.getD, hlt])
      have hc := HG.out wr _ _ hkid
      rw [hpf] at hc
      have HC := Lib.hid hc
      have HNO : Hid (∀ j, j < k + 1 → p (ls.getD j RE.nothing) = false) := fun j hj => if h : j < k then hno j h else by rw [show j = k by omega]; exact hpf
      clear hc hpf hkid hkids hrow hbl hno
      generalize bs.getD k 0 = b at *
      go_wp2_with fail
      refine HC.out.mono ?_
      rintro e w' ⟨rfl, rfl⟩
      go_wp2_with fail
      go_roundw
      case rel => exact ⟨k + 1, by omega, by go_num, rfl, HNO.out⟩
      case measure => simp [intOf]; omega
    · go_wp2
      go_ret
      exact ⟨rfl, rfl⟩
set_option maxRecDepth 100000 in
set_option maxHeartbeats 2000000 in
/-- nothing is taken away -/
theorem DeleteFunc_none (g : Nat) (p : RE → Bool) (hg : Asks g p) (eg : ∀ args w, (callFunc g args).run Tryz.prog w = .ok (.enter g args) w) (kp : Option Addr) (cap : Nat) (bs : List Nat) (ls : List RE) (w : World) (hr : PtrsAt w kp bs) (hk : AreRe w bs ls) (hn : ∀ r ∈ ls, p r = false) (hln : ls.length ≤ 1099511627776) :
    Calls Tryz.prog 75 #[.slice kp ls.length cap, .func (.func g) #[] #[]] w fun e w' => e = .returned (.slice kp ls.length cap) ∧ w' = w := by
  have HI := Lib.hid (IndexFunc_none g p hg eg kp cap bs ls w hr hk hn hln)
  clear hr hk hn hg
  go_enter Tryz.func75, Tryz.ntmps75
  go_wp2_with (go_at_call 120; refine HI.out.mono ?_; rintro e w' ⟨rfl, rfl⟩)
  go_ret
  exact ⟨rfl, rfl⟩
theorem OwnRe.row {w wr : World} {ls : List RE} {bs : List Nat} {v : Value} (h : OwnRe w ls bs v wr) : ∃ kp cap, v = .slice kp ls.length cap ∧ PtrsAt wr kp bs ∧ (∀ a : Addr, kp = some a → v.ownBlock = some a.block) := by
  rcases h.own.2 with ⟨h1, h0⟩ | ⟨g, cap, cur, hv, hg, hgb, hnc, h4, h5, h6⟩
  · refine ⟨none, 0, by rw [h1, ← h.are.1, h0], .inl (List.length_eq_zero_iff.1 h0), fun a ha => by cases ha⟩
  · refine ⟨some ⟨g, 0, none⟩, cap, by rw [hv, h.are.1], .inr ⟨g, 0, rfl, fun i hi => ?_⟩, fun a ha => by rw [hv]; cases ha; rfl⟩
    have ho := h.own
    rw [hv] at ho
    rw [Nat.zero_add, ho.cellAt i (by omega)]
    simp [List.getD, hi]
theorem OwnRe.ty {w wr : World} {ls : List RE} {bs : List Nat} {kp : Option Addr} {n cap : Nat} (h : OwnRe w ls bs (.slice kp n cap) wr) : TyAt wr bs kp := fun hne a ha => by
  rcases h.own.2 with ⟨h1, h0⟩ | ⟨g, cap', cur, hv, hg, hgb, _⟩
  · exact absurd (List.length_eq_zero_iff.1 h0) hne
  · rw [ha] at hv
    simp only [Value.slice.injEq, Option.some.injEq] at hv
    rw [hv.1]
    exact ⟨cur, _, hgb⟩
def ThenAt (w : World) (F : List RE) (v i : Value) (wr : World) : Prop := ∃ k : Nat, k ≤ F.length ∧ i = .int .i64 k ∧ v = .bool (RE.nullAll (F.take k)) ∧ wr = w ∧ ∀ j, j < k → (F.getD j RE.nothing).op ≠ 0
theorem RE.nullAll_snoc (l : List RE) (r : RE) : RE.nullAll (l ++ [r]) = (RE.nullAll l && r.null) := by simp [RE.nullAll_eq]
theorem thenL_zero {l : List (Option RE)} {k : Nat} (hne : ∀ r ∈ RE.flat 3 l, r.op ≠ 1) (hk : k < (RE.flat 3 l).length) (h0 : ((RE.flat 3 l).getD k RE.nothing).op = 0) : RE.thenL l = RE.nothing := by
  have hf : (RE.flat 3 l).filter (fun r => r.op != 1) = RE.flat 3 l := List.filter_eq_self.2 fun r hr => by simpa using hne r hr
  unfold RE.thenL
  rw [hf, if_pos]
  refine List.any_eq_true.2 ⟨_, List.getElem_mem hk, ?_⟩
  simpa [List.getD, hk] using h0
theorem thenL_seq {l : List (Option RE)} (hne : ∀ r ∈ RE.flat 3 l, r.op ≠ 1) (h0 : ∀ j, j < (RE.flat 3 l).length → ((RE.flat 3 l).getD j RE.nothing).op ≠ 0) : RE.thenL l = RE.seqL (RE.flat 3 l) := by
  have hf : (RE.flat 3 l).filter (fun r => r.op != 1) = RE.flat 3 l := List.filter_eq_self.2 fun r hr => by simpa using hne r hr
  unfold RE.thenL
  rw [hf, if_neg]
  intro ha
  obtain ⟨r, hr, hr0⟩ := List.any_eq_true.1 ha
  obtain ⟨j, hj, rfl⟩ := List.mem_iff_getElem.1 hr
  exact h0 j hj (by simpa [List.getD, hj] using hr0)
set_option maxRecDepth 100000 in
set_option maxHeartbeats 4000000 in
theorem Then_noeps (kp : Option Addr) (cap : Nat) (l : List (Option RE)) (w : World) (hl : ListO w kp l) (hne : ∀ r, some r ∈ l → r.op = 3 → r.kids ≠ []) (heps : ∀ r ∈ RE.flat 3 l, r.op ≠ 1) (hsz : RE.sizes (RE.flat 3 l) ≤ 1099511627776) (hln : l.length ≤ 1099511627776) :
    Calls Tryz.prog 40 #[.slice kp l.length cap] w fun e w' => ∃ b, e = .returned (ptr b) ∧ IsRe w' b (RE.thenL l) ∧ Below w.heap.size w w' := by
  have hlen := RE.len_sizes (RE.flat 3 l)
  have HF := Lib.hid (flat_any 3 kp cap l w hl hne (by omega) hln)
  have HZ := Lib.hid (fun k => thenL_zero (k := k) heps)
  have HS := Lib.hid (thenL_seq heps)
  have HE := Lib.hid heps
  clear hl hne heps
  generalize hT : RE.thenL l = T at *
  generalize hFF : RE.flat 3 l = F at *
  clear hT hFF
  go_enter Tryz.func40, Tryz.ntmps40
  go_wp2_with fail
  refine HF.out.mono ?_
  rintro e w1 ⟨v, bs, rfl, hO⟩
  obtain ⟨kp1, cap1, rfl, hrow, _⟩ := hO.row
  have HDel := Lib.hid (DeleteFunc_none 77 (fun r => r.op == 1) isEps (enters_of Tryz.func77 (by kernel_rfl) rfl) kp1 cap1 bs F w1 hrow hO.are.is (fun r hr => by simpa using HE.out r hr) (by omega))
  go_wp2_with fail
  refine HDel.out.mono ?_
  rintro e w' ⟨rfl, rfl⟩
  go_wp2_with fail
  go_loopw [4, 12] (fun v i wr => ThenAt w' F v i wr) (fun _ i _ => F.length - (intOf i).toNat)
  case atStart => exact ⟨0, by omega, rfl, rfl, rfl, fun j hj => by omega⟩
  case round =>
    obtain ⟨k, hk, rfl, rfl, rfl, hno⟩ := hrel
    by_cases hlt : k < F.length
    · obtain ⟨hbl, hkids⟩ := hO.are.is
      rcases hrow with h0 | ⟨kb, ko, rfl, hrw⟩
      · rw [h0] at hbl; simp at hbl; omega
      have hptr : wr.cell? ⟨kb, ko + k, none⟩ = some (.pointer (some ⟨bs.getD k 0, 0, none⟩)) := hrw k (by omega)
      have hkid := hkids k hlt
      obtain ⟨kp2, cap2, bs2, hnode, _, _⟩ := hkid.open
      have HNA : Hid (RE.nullAll (F.take (k + 1)) = (RE.nullAll (F.take k) && (F.getD k RE.nothing).null)) := by
        show _ = _
        rw [RE.take_snoc F k hlt, RE.nullAll_snoc]
      have HZK := Lib.hid (HZ.out k hlt)
      have hop : wr.cell? ⟨bs.getD k 0, 0, none⟩ = some (.int .i64 ((F.getD k RE.nothing).op : Nat)) := by rw [cell_of_row _ _ _ _ _ _ hnode]; rfl
      have hnl : wr.cell? ⟨bs.getD k 0, 2 + 3 + 1, none⟩ = some (.bool (F.getD k RE.nothing).null) := by rw [cell_of_row _ _ _ _ _ _ hnode]; rfl
      have HNO := Lib.hid hno
      have HRW := Lib.hid hrw
      have HOW := Lib.hid hO
      clear hnode hkid hkids hbl hno hrw hO
      generalize bs.getD k 0 = bk at *
      by_cases h0 : (F.getD k RE.nothing).op = 0
      · have hT := HZK.out h0
        subst hT
        rw [h0] at hop
        go_wp2_with fail
        refine (Nothing_any _).mono ?_
        rintro e w2 ⟨b, rfl, h1, h2⟩
        go_wp2_with fail
        go_ret
        exact ⟨b, rfl, h1.is, ext_step HOW.out.bel h2⟩
      · have HNO' : Hid (∀ j, j < k + 1 → (F.getD j RE.nothing).op ≠ 0) := fun j hj => if h : j < k then HNO.out j h else by rw [show j = k by omega]; exact h0
        have h0' : (((F.getD k RE.nothing).op : Int) == 0) = false := by
          rw [beq_eq_false_iff_ne]; omega
        generalize hq : RE.nullAll (F.take k) = q at *
        clear hq
        generalize (F.getD k RE.nothing).null = nl at *
        generalize (F.getD k RE.nothing).op = o at *
        clear h0
        cases q with
        | false =>
          go_wp2_with fail
          go_roundw
          case rel => exact ⟨k + 1, by omega, by go_num, by rw [HNA.out]; rfl, rfl, HNO'.out⟩
          case measure => simp [intOf]; omega
        | true =>
          go_wp2_with fail
          go_roundw
          case rel => exact ⟨k + 1, by omega, by go_num, by rw [HNA.out]; rfl, rfl, HNO'.out⟩
          case measure => simp [intOf]; omega
    · obtain rfl : k = F.length := by omega
      rw [List.take_length]
      have HT := Lib.hid (HS.out hno)
      have hk0 := hO.are.is
      by_cases h0 : F.length = 0
      · have HT2 : Hid (T = RE.empty) := by
          show _ = _
          rw [HT.out, List.length_eq_zero_iff.1 h0]; rfl
        rw [h0]
        go_wp2_with fail
        refine (EmptyRe_any _).mono ?_
        rintro e w2 ⟨b, rfl, h1, h2⟩
        go_wp2_with fail
        go_ret
        exact ⟨b, rfl, by rw [HT2.out]; exact h1.is, ext_step hO.bel h2⟩
      · rcases hrow with h1 | ⟨kb, ko, rfl, hrw⟩
        · have := hk0.1; rw [h1] at this; simp at this; omega
        by_cases h1 : F.length = 1
        · have HT2 : Hid (T = F.getD 0 RE.nothing) := by
            show _ = _
            rw [HT.out]
            match F, h1 with
            | [x], _ => rfl
          have hptr : wr.cell? ⟨kb, ko, none⟩ = some (.pointer (some ⟨bs.getD 0 0, 0, none⟩)) := by have := hrw 0 (by rw [hk0.1]; omega); simpa using this
          have HK0 := Lib.hid (hk0.2 0 (by omega))
          generalize bs.getD 0 0 = b0 at *
          rw [h1]
          go_wp2_with fail
          go_ret
          exact ⟨b0, rfl, by rw [HT2.out]; exact HK0.out, hO.bel⟩
        · have HT2 : Hid (T = RE.node 3 BS.none F) := by
            show _ = _
            rw [HT.out]
            match F, h0, h1 with
            | x :: y :: z, _, _ => rfl
          have HM := Lib.hid (made_zero 3 (by omega) (by omega) (RE.nullAll F) (some ⟨kb, ko, none⟩) cap1 bs F wr (.inr ⟨kb, ko, rfl, hrw⟩) hk0 (by simp [RE.null]) hsz)
          have h0' : ((F.length : Int) == 0) = false := by rw [beq_eq_false_iff_ne]; omega
          have h1' : ((F.length : Int) == 1) = false := by rw [beq_eq_false_iff_ne]; omega
          have HOW := Lib.hid hO
          have HK0 := Lib.hid hk0
          have HRW := Lib.hid hrw
          clear hO hk0 hrw h0 h1
          go_wp2_with fail
          refine HM.out.mono ?_
          rintro e w2 ⟨b, rfl, h3, h4, h5⟩
          go_wp2_with fail
          go_ret
          exact ⟨b, rfl, by rw [HT2.out]; exact IsRe.made h4 (.inr ⟨kb, ko, rfl, HRW.out⟩) HOW.out.ty HK0.out h5, ext_step HOW.out.bel h5⟩
end Go.Proofs.YticpjjmacmmpjaaGreatDoor
namespace Go.Proofs.YticpjjmacmmpjaaGreatDoor
open Go.RowKit Go.Sort Go.Lib

abbrev QE := Option (Nat × RE)
/-- a pointer that may be nil -/
def encQ : QE → Value | none => .pointer none | some q => ptr q.1
theorem encQ_one : OneCell encQ := fun x => by cases x <;> rfl
theorem putRow_block {α : Type} [Inhabited α] (enc : α → Value) (w : World) (n blk off : Nat) (d : Array α) (k : Nat) (h : k ≠ blk) : (putRow enc (Sort.ahead w n) blk off d).heap[k]? = w.heap[k]? := by
  show (w.heap.modify blk _)[k]? = _
  rw [Array.getElem?_modify, if_neg (fun e => h e.symm)]
theorem IsReX.inRow {α : Type} [Inhabited α] {w : World} {blk off : Nat} {b : Nat} {r : RE} (h : IsReX (· = blk) w b r) (enc : α → Value) (n : Nat) (d : Array α) : IsReX (· = blk) (putRow enc (Sort.ahead w n) blk off d) b r :=
  h.keep fun k _ hk => putRow_block enc w n blk off d k hk
/-- where the first one is of which p holds; below 0: nowhere -/
def IdxRes (p : RE → Bool) (ls : List RE) (i : Int) : Prop := (i = -1 ∧ ∀ r ∈ ls, p r = false) ∨ ∃ k, k < ls.length ∧ i = (k : Int) ∧ p (ls.getD k RE.nothing) = true ∧ ∀ j, j < k → p (ls.getD j RE.nothing) = false
def IdxPost (p : RE → Bool) (ls : List RE) (w : World) (e : Ending) (w' : World) : Prop := (∃ i, IdxRes p ls i ∧ e = .returned (.int .i64 i)) ∧ w' = w
set_option maxRecDepth 100000 in
set_option maxHeartbeats 2000000 in
theorem IndexFunc_any (g : Nat) (p : RE → Bool) (hg : Asks g p) (eg : ∀ args w, (callFunc g args).run Tryz.prog w = .ok (.enter g args) w) (kp : Option Addr) (cap : Nat) (bs : List Nat) (ls : List RE) (w : World) (hr : PtrsAt w kp bs) (hk : AreRe w bs ls) (hln : ls.length ≤ 1099511627776) :
    Calls Tryz.prog 120 #[.slice kp ls.length cap, .func (.func g) #[] #[]] w (IdxPost p ls w) := by
  have HR := Lib.hid hr
  have HK := Lib.hid hk
  have HG := Lib.hid hg
  clear hr hk hg
  go_enter Tryz.func120, Tryz.ntmps120
  go_wp2_with fail
  go_loopw [8] (fun i wr => IdxFAt w p ls i wr) (fun i _ => ls.length - (intOf i).toNat)
  case atStart => exact ⟨0, by omega, rfl, rfl, fun j hj => by omega⟩
  case round =>
    obtain ⟨k, hk, rfl, rfl, hno⟩ := hrel
    by_cases hlt : k < ls.length
    · obtain ⟨hbl, hkids⟩ := HK.out
      rcases HR.out with h0 | ⟨kb, ko, rfl, hrow⟩
      · rw [h0] at hbl; simp at hbl; omega
      have hptr : wr.cell? ⟨kb, ko + k, none⟩ = some (.pointer (some ⟨bs.getD k 0, 0, none⟩)) := hrow k (by omega)
      have hkid := hkids k hlt
      have hc := HG.out wr _ _ hkid
      have HNO := Lib.hid hno
      cases hpf : p (ls.getD k RE.nothing) with
      | false =>
        rw [hpf] at hc
        have HC := Lib.hid hc
        have HPF := Lib.hid hpf
        clear hc hpf hkid hkids hrow hbl hno
        generalize bs.getD k 0 = b at *
        go_wp2_with fail
        refine HC.out.mono ?_
        rintro e w' ⟨rfl, rfl⟩
        go_wp2_with fail
        go_roundw
        case rel => exact ⟨k + 1, by omega, by go_num, rfl, fun j hj => if h : j < k then HNO.out j h else by rw [show j = k by omega]; exact HPF.out⟩
        case measure => simp [intOf]; omega
      | true =>
        rw [hpf] at hc
        have HC := Lib.hid hc
        have HRS : Hid (IdxRes p ls k) := .inr ⟨k, hlt, rfl, hpf, hno⟩
        clear hc hpf hkid hkids hrow hbl hno HNO
        generalize bs.getD k 0 = b at *
        go_wp2_with fail
        refine HC.out.mono ?_
        rintro e w' ⟨rfl, rfl⟩
        go_wp2_with fail
        go_ret
        exact ⟨⟨_, HRS.out, rfl⟩, rfl⟩
    · have HRS : Hid (IdxRes p ls (-1)) := .inl ⟨rfl, fun r hr => by
        obtain ⟨j, hj, rfl⟩ := List.mem_iff_getElem.1 hr
        have := hno j (by omega)
        simpa [List.getD, hj] using this⟩
      clear hno
      go_wp2
      go_ret
      exact ⟨⟨_, HRS.out, rfl⟩, rfl⟩
theorem zeroPtr (w : World) : (zeroValue 37).run Tryz.prog w = .ok (encQ none) w := by kernel_rfl
/-- a row of expressions -/
def RowQ (w : World) (blk off : Nat) (d : Array QE) : Prop := Holds encQ w blk off d ∧ ∀ x ∈ d.toList, ∃ q, x = some q ∧ IsReX (· = blk) w q.1 q.2
def asksQ (p : RE → Bool) : QE → Bool | none => false | some q => p q.2
/-- what is left when some are taken away -/
def leftQ (p : RE → Bool) (d : Array QE) : List QE := d.toList.filter fun x => !asksQ p x
def DelPost (L : List QE) (blk off cap : Nat) (d : Array QE) (w : World) (e : Ending) (w' : World) : Prop :=
  e = .returned (.slice (some ⟨blk, off, none⟩) L.length cap) ∧ ∃ q, w' = putRow encQ (Sort.ahead w q) blk off (L ++ List.replicate (d.size - L.length) none).toArray
theorem RowQ.ptrs {w : World} {blk off : Nat} {d : Array QE} (h : RowQ w blk off d) : ∃ bs ls, bs.length = d.size ∧ ls.length = d.size ∧ (∀ j, j < d.size → d[j]! = some (bs.getD j 0, ls.getD j RE.nothing)) ∧ PtrsAt w (some ⟨blk, off, none⟩) bs ∧ AreReX (· = blk) w bs ls := by
  obtain ⟨hH, hX⟩ := h
  have hx : ∀ j, (hj : j < d.size) → ∃ q, d[j]! = some q ∧ IsReX (· = blk) w q.1 q.2 := fun j hj => by
    rw [getElem!_pos d j hj]
    exact hX _ (by simp)
  have hlen : ∀ f : QE → Nat, (d.toList.map f).length = d.size := by simp
  refine ⟨d.toList.map fun x => match x with | some q => q.1 | none => 0, d.toList.map fun x => match x with | some q => q.2 | none => RE.nothing, by simp, by simp, ?_, .inr ⟨blk, off, rfl, ?_⟩, by simp, ?_⟩
  · intro j hj
    obtain ⟨q, hq, _⟩ := hx j hj
    have : d[j] = some q := by rw [← getElem!_pos d j hj]; exact hq
    simp [List.getD, hj, this]
  · intro j hj
    have hj : j < d.size := by simpa using hj
    obtain ⟨q, hq, _⟩ := hx j hj
    have h2 : d[j] = some q := by rw [← getElem!_pos d j hj]; exact hq
    rw [(hH j hj).1, hq]
    simp [List.getD, hj, h2, encQ]
  · intro j hj
    have hj : j < d.size := by simpa using hj
    obtain ⟨q, hq, h3⟩ := hx j hj
    have h2 : d[j] = some q := by rw [← getElem!_pos d j hj]; exact hq
    simpa [List.getD, hj, h2] using h3
set_option maxRecDepth 1000000 in
set_option maxHeartbeats 4000000 in
theorem DeleteFunc_any (g : Nat) (p : RE → Bool) (hg : Asks g p) (eg : ∀ args w, (callFunc g args).run Tryz.prog w = .ok (.enter g args) w) (blk off cap : Nat) (d : Array QE) (w : World) (hQ : RowQ w blk off d) (hcap : d.size ≤ cap) (hsz : d.size ≤ 1099511627776) :
    Calls Tryz.prog 75 #[.slice (some ⟨blk, off, none⟩) d.size cap, .func (.func g) #[] #[]] w (DelPost (leftQ p d) blk off cap d w) := by
  obtain ⟨bs, ls, hbs, hls, hd, hptr, hare⟩ := hQ.ptrs
  have hH := hQ.1
  have hIF := IndexFunc_any g p hg eg (some ⟨blk, off, none⟩) cap bs ls w hptr hare.is (by omega)
  rw [hls] at hIF
  have HIF := Lib.hid hIF
  obtain ⟨kp, HK⟩ : ∃ kp : Nat → Bool, Hid (kp = fun j => !asksQ p d[j]!) := ⟨_, rfl⟩
  have hfil : leftQ p d = keptUpTo kp d d.size := by rw [HK.out]; exact (keptUpTo_filter (fun x => !asksQ p x) d).symm
  have HKP : Hid (∀ j, j < d.size → kp j = !p (ls.getD j RE.nothing)) := fun j hj => by rw [HK.out]; show (!asksQ p d[j]!) = _; rw [hd j hj]; rfl
  have HD := Lib.hid hd
  have HH : Hid (Holds encQ w blk off d) := hH
  have HA := Lib.hid hare
  have HG := Lib.hid hg
  rw [hfil]
  have undPtr := Tryz.underlying113
  clear hQ hIF hfil hd hH hptr hare hg HK
  go_enter Tryz.func75, Tryz.ntmps75
  go_wp2_with fail
  refine HIF.out.mono ?_
  rintro e w' ⟨⟨i, hres, rfl⟩, rfl⟩
  rcases hres with ⟨rfl, hall⟩ | ⟨k0, hk0, rfl, ht, hall⟩
  · have hkeep : ∀ j, j < d.size → kp j = true := fun j hj => by rw [HKP.out j hj, hall _ (by simp [List.getD, hls, hj])]; rfl
    have e3 : keptUpTo kp d d.size = d.toList := by rw [keptUpTo_all kp d _ hkeep, range_map_get]
    have HE : Hid (DelPost (keptUpTo kp d d.size) blk off cap d w' (.returned (.slice (some ⟨blk, off, none⟩) d.size cap)) w') := by
      show DelPost _ _ _ _ _ _ _ _
      rw [e3]
      refine ⟨by simp, 0, ?_⟩
      simp only [Array.length_toList, Nat.sub_self, List.replicate_zero, List.append_nil, Array.toArray_toList]
      exact (putRow_self encQ (Sort.ahead w' 0) blk off d (holds_ahead encQ w' 0 blk off d HH.out)).symm
    clear hall hkeep e3
    go_wp2_with fail
    go_ret
    exact HE.out
  · have hk0' : k0 < d.size := by omega
    have hkeep : ∀ j, j < k0 → kp j = true := fun j hj => by rw [HKP.out j (by omega), hall j hj]; rfl
    have hdrop : kp k0 = false := by rw [HKP.out k0 hk0', ht]; rfl
    have hne1 : ((k0 : Int) == -1) = false := beq_eq_false_iff_ne.2 (by omega)
    have HKE := Lib.hid hkeep
    have HDR := Lib.hid hdrop
    clear hall ht hkeep hdrop
    go_wp2_with fail
    go_loopg [5, 6, 7] d.size (fun gg s5 s6 _ wr => ∃ (i j : Nat) (dk : Array QE), s5 = .int .i64 i ∧ s6 = .int .i64 j ∧ j ≤ d.size ∧ d.size - j ≤ gg ∧ wr = putRow encQ (Sort.ahead w' 0) blk off dk ∧ Hid (KeptInv kp d j i dk))
    case atStart => exact ⟨k0, k0 + 1, d, rfl, by go_num, by omega, by omega, (putRow_self encQ (Sort.ahead w' 0) blk off d (holds_ahead encQ w' 0 blk off d HH.out)).symm, KeptInv.start HKE.out HDR.out⟩
    case round =>
      obtain ⟨i, j, dk, rfl, rfl, hjd, hgg, hwr, I2⟩ := hrel
      have hI := I2.out
      have hij := hI.lt
      have hds := hI.size
      have hHk : Holds encQ wr blk off dk := by rw [hwr]; exact holds_putRow encQ _ blk off d dk (holds_ahead encQ w' 0 blk off d HH.out) hds
      have W2 : Hid (wr = putRow encQ (Sort.ahead w' 0) blk off dk) := hwr
      by_cases hlt : j < d.size
      · have hltz : (j : Int) < (d.size : Int) := by omega
        obtain ⟨cj, _⟩ := hHk j (by omega)
        obtain ⟨ci, fi⟩ := hHk i (by omega)
        rw [hI.high j (by omega), HD.out j hlt] at cj
        change wr.cell? ⟨blk, off + j, none⟩ = some (.pointer (some ⟨bs.getD j 0, 0, none⟩)) at cj
        have hcall := HG.out wr (bs.getD j 0) (ls.getD j RE.nothing) (by rw [hwr]; exact ((HA.out.2 j (by omega)).inRow encQ 0 dk).is)
        have HKJ := Lib.hid (HKP.out j hlt)
        have HDJ := Lib.hid (HD.out j hlt)
        generalize dk[i]! = old at ci
        generalize bs.getD j 0 = b at *
        generalize ls.getD j RE.nothing = r at *
        clear hHk hI hwr
        cases hq : p r with
        | false =>
          rw [hq] at hcall
          have HC := Lib.hid hcall
          have HQ := Lib.hid hq
          clear hcall hq
          go_wp2_with fail
          refine HC.out.mono ?_
          rintro e w1 ⟨rfl, rfl⟩
          go_wp2_with fail
          go_roundg (d.size - (j + 1))
          case measure => omega
          case rel =>
            refine ⟨i + 1, j + 1, dk.setIfInBounds i (some (b, r)), by go_num, by go_num, by omega, Nat.le_refl _, ?_, (show Hid _ from ?_)⟩
            · rw [W2.out]; exact putRow_set encQ _ blk off dk i (some (b, r)) (by omega)
            · have := I2.out.keep hlt (by rw [HKJ.out, HQ.out]; rfl)
              rwa [HDJ.out] at this
        | true =>
          rw [hq] at hcall
          have HC := Lib.hid hcall
          have HQ := Lib.hid hq
          clear hcall hq
          go_wp2_with fail
          refine HC.out.mono ?_
          rintro e w1 ⟨rfl, rfl⟩
          go_wp2_with fail
          go_roundg (d.size - (j + 1))
          case measure => omega
          case rel => exact ⟨i, j + 1, dk, rfl, by go_num, by omega, Nat.le_refl _, W2.out, I2.out.skip (by rw [HKJ.out, HQ.out]; rfl)⟩
      · obtain rfl : j = d.size := by omega
        have hltz : ¬ (d.size : Int) < (d.size : Int) := by omega
        have hcl : ∀ ty, (Builtin.clear_ #[113] ty #[.slice (some ⟨blk, off + i, none⟩) (d.size - i) (cap - i)]).run Tryz.prog wr = .ok (.tuple #[]) (wr.setCells blk (off + i) (List.replicate (d.size - i) (encQ none))) :=
          fun ty => Lib.run_clear_slice wr _ _ ty _ undPtr zeroPtr (encQ_one.cells none) (encQ_one none) blk (off + i) _ _ (by omega) (fun t ht => by rw [show off + i + t = off + (i + t) by omega, (hHk (i + t) (by omega)).1]; rfl) (fun t ht => by rw [show off + i + t = off + (i + t) by omega]; exact (hHk (i + t) (by omega)).2)
        clear hHk hI hwr
        go_wp2
        go_ret
        have hI := I2.out
        refine ⟨by rw [hI.len]; rfl, 0, ?_⟩
        rw [hI.len, ← hI.done none, ← putRow_setCells encQ _ blk off _ dk i (by simp; omega), ← W2.out, List.map_replicate]
end Go.Proofs.YticpjjmacmmpjaaGreatDoor
