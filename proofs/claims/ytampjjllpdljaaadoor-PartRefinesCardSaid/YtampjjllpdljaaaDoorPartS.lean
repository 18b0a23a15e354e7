/-
  'sorted', walked through the program: parts in the order of their least bytes.
-/
import Derived.Test.YtampjjllpdljaaaDoorSetW
import Derived.Test.YtampjjllpdljaaaDoorPartI
import Derived.Test.YtampjjllpdljaaaDoorMix
import Derived.Deep.AppendLies
set_option linter.unusedSimpArgs false
set_option linter.unusedVariables false
set_option maxRecDepth 100000
namespace Go.Proofs.YtampjjllpdljaaaDoor
open Go.RowKit

/-- the four words of a set, as cells -/
def words (s : BS) : List Value := [.int .u64 (wN s.a), .int .u64 (wN s.b), .int .u64 (wN s.c), .int .u64 (wN s.d)]
/-- the words of a list of sets, one behind the other -/
def flat (l : List BS) : List Value := l.flatMap words
theorem flat_len (l : List BS) : (flat l).length = l.length * 4 := by
  induction l with
  | nil => rfl
  | cons s l ih => simp only [flat, List.flatMap_cons, List.length_append, List.length_cons] at ih ⊢; rw [ih]; simp [words]; omega
theorem flat_snoc (l : List BS) (s : BS) : flat (l ++ [s]) = flat l ++ words s := by simp [flat]
theorem flat_get (l : List BS) (i r : Nat) (hi : i < l.length) (hr : r < 4) : (flat l)[i * 4 + r]? = (words (l.getD i BS.none))[r]? := by
  induction l generalizing i with
  | nil => simp at hi
  | cons s l ih =>
    have e : flat (s :: l) = words s ++ flat l := by simp [flat]
    have hw : (words s).length = 4 := rfl
    rw [e]
    cases i with
    | zero => rw [List.getElem?_append_left (by rw [hw]; omega)]; simp
    | succ i =>
      rw [List.getElem?_append_right (by rw [hw]; omega), hw, show (i + 1) * 4 + r - 4 = i * 4 + r by omega, ih i (by simpa using hi)]
      simp
theorem addr_add (g j : Nat) : (⟨g, 0, none⟩ : Addr).add j = ⟨g, j, none⟩ := by unfold Addr.add; split <;> simp_all
theorem sets_of_owns {w : World} {base : Nat} {v : Value} {l : List BS} {e : TypeId} (h : w.ownsRow base e 4 v l.length (flat l)) : (v = .slice none 0 0 ∧ l.length = 0) ∨ ∃ g cap, v = .slice (some ⟨g, 0, none⟩) l.length cap ∧ base ≤ g ∧ g < w.heap.size ∧ SetsAt w g 0 l := by
  rcases h.2 with h2 | ⟨g, cap, cur, hv, hb, hg, h3, h4, h5, h6⟩
  · exact .inl h2
  · refine .inr ⟨g, cap, hv, hb, (Array.getElem?_eq_some_iff.1 hg).1, fun i hi => ?_⟩
    have hcells := h.cells (show v.ownBlock = some g by rw [hv]; rfl)
    have key : ∀ r u, r < 4 → (words (l.getD i BS.none))[r]? = some u → w.cell? ⟨g, 0 + i * 4 + r, none⟩ = some u := fun r u hr hu => by
      rw [show 0 + i * 4 + r = i * 4 + r by omega, ← addr_add]
      exact hcells _ _ ((flat_get l i r hi hr).trans hu)
    exact ⟨key 0 _ (by omega) rfl, key 1 _ (by omega) rfl, key 2 _ (by omega) rfl, key 3 _ (by omega) rfl⟩
theorem words_one (s : BS) : ∀ u ∈ words s, u.oneCell' = true := by intro u hu; simp [words] at hu; rcases hu with rfl | rfl | rfl | rfl <;> rfl
theorem infoSet : (Tryd.prog.info? 24).map (fun i => (i.zero, i.size, i.bytes)) = some (some (.agg #[.int .u64 0, .int .u64 0, .int .u64 0, .int .u64 0]), 4, 32) := by kernel_rfl

theorem find_at {ps : List BS} {b j : Nat} (hj : j < ps.length) (h : (ps.getD j BS.none).has b = true) (hn : ∀ q, q < j → (ps.getD q BS.none).has b = false) : ps.find? (fun p => p.has b) = some (ps.getD j BS.none) := by
  rw [List.find?_eq_some_iff_getElem]
  refine ⟨h, j, hj, by simp [hj], fun q hq => ?_⟩
  have := hn q hq
  simpa [show q < ps.length by omega] using this
theorem find_no {ps : List BS} {b : Nat} (hn : ∀ q, q < ps.length → (ps.getD q BS.none).has b = false) : ps.find? (fun p => p.has b) = none := by
  rw [List.find?_eq_none]
  intro p hp
  obtain ⟨q, hq, rfl⟩ := List.mem_iff_getElem.1 hp
  have := hn q hq
  simp [hq] at this
  simp [this]

/-- what has been put in order, what has been seen -/
structure SrtW (w : World) (S : Nat) (o : List BS) (sn : BS) (out : Value) (wr : World) : Prop where
  own : wr.ownsRow w.heap.size 24 4 out o.length (flat o)
  ne : out.ownBlock ≠ some S
  seen : wr.heap[S]? = some (.cells (words sn).toArray 24 (0, 0))
  bel : Below w.heap.size w wr
  lo : w.heap.size ≤ S
theorem SrtW.alloc {w : World} {S : Nat} {o : List BS} {sn : BS} {out : Value} {wr : World} (h : SrtW w S o sn out wr) (ob : Obj) : SrtW w S o sn out (wr.alloc ob) :=
  ⟨h.own.alloc _, h.ne, by rw [Below.heap_alloc _ _ _ (Array.getElem?_eq_some_iff.1 h.seen).1]; exact h.seen, ext_alloc h.bel _, h.lo⟩
theorem SrtW.cells {w : World} {S : Nat} {o : List BS} {s0 s1 s2 s3 : BitVec 64} {out : Value} {wr : World} (h : SrtW w S o ⟨s0, s1, s2, s3⟩ out wr) : SetAt wr S 0 ⟨s0, s1, s2, s3⟩ :=
  ⟨by rw [cell_of_row _ _ _ _ _ _ h.seen]; rfl, by rw [cell_of_row _ _ _ _ _ _ h.seen]; rfl, by rw [cell_of_row _ _ _ _ _ _ h.seen]; rfl, by rw [cell_of_row _ _ _ _ _ _ h.seen]; rfl⟩
def SrtAt (w : World) (S : Nat) (ps : List BS) (out i : Value) (wr : World) : Prop :=
  ∃ b : Nat, b ≤ 256 ∧ i = .int .i64 b ∧ SrtW w S (srt ps b).1 (srt ps b).2 out wr
def InAt (w : World) (S : Nat) (ps : List BS) (b : Nat) (o : List BS) (sn : BS) (out out' i : Value) (wr : World) : Prop :=
  ∃ j : Nat, j ≤ ps.length ∧ out' = out ∧ i = .int .i64 j ∧ (∀ q, q < j → (ps.getD q BS.none).has b = false) ∧ SrtW w S o sn out wr

set_option maxRecDepth 100000 in
set_option maxHeartbeats 4000000 in
theorem sorted_any (p : Option Addr) (B off cap : Nat) (ps : List BS) (hp : 0 < ps.length → p = some ⟨B, off, none⟩) (hl : ps.length ≤ 4096) (w : World) (hc : SetsAt w B off ps) :
    Calls Tryd.prog 29 #[.slice p ps.length cap] w fun e w' => ∃ v, e = .returned v ∧ w'.ownsRow w.heap.size 24 4 v (srt ps 256).1.length (flat (srt ps 256).1) ∧ Below w.heap.size w w' := by
  have HC := Lib.hid hc
  have HP := Lib.hid hp
  clear hc hp
  obtain ⟨i0, hi, hz0, hz1, hz2⟩ := info_parts infoSet
  have HI := Lib.hid hi; have HZ0 := Lib.hid hz0; have HZ1 := Lib.hid hz1; have HZ2 := Lib.hid hz2
  clear hi hz0 hz1 hz2
  go_enter Tryd.func29, Tryd.ntmps29
  go_wp2_with (at_make; refine wpList_make_own _ rfl _ _ 35 rfl w.heap.size 24 i0 _ 4 Tryd.underlying35 HI.out HZ0.out HZ1.out .i64 .i64 _ ps.length rfl rfl rfl (by rw [HZ2.out]; omega) (by unfold maxLen; omega) (Nat.le_refl _) ?_; intro w1 hown hgr)
  have hb1 : Below w.heap.size w w1 := (Below.refl _ w).grown hgr (Nat.le_refl _) (fun k e => by cases e)
  go_loopw [3, 11] (fun o i wr => SrtAt w w1.heap.size ps o i wr) (fun _ i _ => 256 - (intOf i).toNat)
  case atStart =>
    refine ⟨0, by omega, rfl, (hown.alloc _), ?_, ?_, ext_alloc hb1 _, hb1.size⟩
    · intro e
      have h1 : w.heap.size < w1.heap.size := (hown.lt _ rfl).2
      have h2 : w.heap.size = w1.heap.size := by simpa [Value.ownBlock] using e
      omega
    · exact heap_alloc_last _ _
  case round =>
    clear hown hgr
    obtain ⟨b, hb, rfl, hW⟩ := hrel
    by_cases hlt : b < 256
    · have hb0 : (0 : Int) ≤ b := by omega
      have hb255 : (b : Int) ≤ 255 := by omega
      have HSRT : Hid (srt ps b = ((srt ps b).1, (srt ps b).2)) := rfl
      generalize (srt ps b).1 = o at *
      generalize (srt ps b).2 = sn at *
      obtain ⟨s0, s1, s2, s3⟩ := sn
      obtain ⟨c0, c1, c2, c3⟩ := hW.cells
      dsimp only at c0 c1 c2 c3
      cases hhas : (⟨s0, s1, s2, s3⟩ : BS).has b with
      | true =>
        have HN : Hid (srt ps (b + 1) = (o, ⟨s0, s1, s2, s3⟩)) := by
          rw [srt_seen ps b (by rw [HSRT.out]; exact hhas)]; exact HSRT.out
        have HH := Lib.hid hhas
        clear hhas
        go_wp2_with (go_at_call 18; refine (Has_any s0 s1 s2 s3 b hb0 hb255 _).mono ?_; rintro e w' ⟨rfl, rfl⟩; rw [Int.toNat_natCast, HH.out])
        go_roundw
        case rel => exact ⟨b + 1, by omega, by go_num, by rw [HN.out]; exact hW.alloc _⟩
        case measure => simp [intOf]; omega
      | false =>
        have HH := Lib.hid hhas
        clear hhas
        go_wp2_with (go_at_call 18; refine (Has_any s0 s1 s2 s3 b hb0 hb255 _).mono ?_; rintro e w' ⟨rfl, rfl⟩; rw [Int.toNat_natCast, HH.out])
        go_loopw [3, 20] (fun o' i wr2 => InAt w w1.heap.size ps b o ⟨s0, s1, s2, s3⟩ u3 o' i wr2) (fun _ i _ => ps.length - (intOf i).toNat)
        case atStart => exact ⟨0, by omega, rfl, rfl, fun q h => by omega, hW.alloc _⟩
        case round =>
          clear hW c0 c1 c2 c3
          obtain ⟨j, hj, hou, rfl, hno, hW2⟩ := hrel
          subst hou
          have HNO := Lib.hid hno
          clear hno
          by_cases hjl : j < ps.length
          · have e := HP.out (by omega)
            subst e
            have hset := HC.out j hjl
            have hBl := hset.lt
            have hset := hset.same (hW2.bel.block B hBl)
            have HFIND := Lib.hid (find_at (ps := ps) (b := b) hjl)
            generalize hq : ps.getD j BS.none = q at *
            have HQ := Lib.hid hq
            clear hq
            obtain ⟨q0, q1, q2, q3⟩ := q
            obtain ⟨d0, d1, d2, d3⟩ := hset
            dsimp only at d0 d1 d2 d3
            have hj0 : (0 : Int) ≤ j := by omega
            cases hqh : (⟨q0, q1, q2, q3⟩ : BS).has b with
            | false =>
              have hno' : ∀ t, t < j + 1 → (ps.getD t BS.none).has b = false := fun t ht => if h : t < j then HNO.out t h else by
                rw [show t = j by omega, HQ.out]; exact hqh
              have HNO' := Lib.hid hno'
              have HQH := Lib.hid hqh
              clear hqh hno'
              go_wp2_with (go_at_call 18; refine (Has_any q0 q1 q2 q3 b hb0 hb255 _).mono ?_; rintro e w' ⟨rfl, rfl⟩; rw [Int.toNat_natCast, HQH.out])
              go_roundw
              case rel => exact ⟨j + 1, by omega, rfl, by go_num, HNO'.out, (hW2.alloc _).alloc _⟩
              case measure => simp [intOf]; omega
            | true =>
              have HN : Hid (srt ps (b + 1) = (o ++ [⟨q0, q1, q2, q3⟩], (⟨s0, s1, s2, s3⟩ : BS).or ⟨q0, q1, q2, q3⟩)) := by
                show _ = _
                rw [srt_some ps b ⟨q0, q1, q2, q3⟩ (by rw [HSRT.out]; exact HH.out) (HFIND.out hqh HNO.out), HSRT.out]
              have HQH := Lib.hid hqh
              clear hqh
              go_wp2_with (go_at_call 18; refine (Has_any q0 q1 q2 q3 b hb0 hb255 _).mono ?_; rintro e w' ⟨rfl, rfl⟩; rw [Int.toNat_natCast, HQH.out])
              have hG : wr.heap.size < ((wr.alloc (.cells #[.int .u64 (wN q0), .int .u64 (wN q1), .int .u64 (wN q2), .int .u64 (wN q3)] 24)).alloc (.cells #[.int .u64 (wN q0), .int .u64 (wN q1), .int .u64 (wN q2), .int .u64 (wN q3)] 24)).heap.size := by simp <;> omega
              have hS1 : SetAt ((wr.alloc (.cells #[.int .u64 (wN q0), .int .u64 (wN q1), .int .u64 (wN q2), .int .u64 (wN q3)] 24)).alloc (.cells #[.int .u64 (wN q0), .int .u64 (wN q1), .int .u64 (wN q2), .int .u64 (wN q3)] 24)) wr.heap.size 0 ⟨q0, q1, q2, q3⟩ := by refine ⟨?_, ?_, ?_, ?_⟩ <;> simp [go_sem]
              have hW3 := (hW2.alloc (.cells #[.int .u64 (wN q0), .int .u64 (wN q1), .int .u64 (wN q2), .int .u64 (wN q3)] 24)).alloc (.cells #[.int .u64 (wN q0), .int .u64 (wN q1), .int .u64 (wN q2), .int .u64 (wN q3)] 24)
              generalize hw3 : (wr.alloc (.cells #[.int .u64 (wN q0), .int .u64 (wN q1), .int .u64 (wN q2), .int .u64 (wN q3)] 24)).alloc (.cells #[.int .u64 (wN q0), .int .u64 (wN q1), .int .u64 (wN q2), .int .u64 (wN q3)] 24) = W3 at *
              have HW3 := Lib.hid hw3
              clear hw3 d0 d1 d2 d3
              obtain ⟨S, hS⟩ : ∃ S : World → Prop, ∀ W', S W' ↔ (SetAt W' wr.heap.size 0 ⟨q0, q1, q2, q3⟩ ∧ SetAt W' w1.heap.size 0 ⟨s0, s1, s2, s3⟩) := ⟨_, fun _ => Iff.rfl⟩
              have HS := Lib.hid hS
              clear hS
              have cs : ∀ p : InC S, (p.w.cell? ⟨wr.heap.size, 0, none⟩ = some (.int .u64 (wN q0)) ∧ p.w.cell? ⟨wr.heap.size, 1, none⟩ = some (.int .u64 (wN q1)) ∧ p.w.cell? ⟨wr.heap.size, 2, none⟩ = some (.int .u64 (wN q2)) ∧ p.w.cell? ⟨wr.heap.size, 3, none⟩ = some (.int .u64 (wN q3))) ∧
                  (p.w.cell? ⟨w1.heap.size, 0, none⟩ = some (.int .u64 (wN s0)) ∧ p.w.cell? ⟨w1.heap.size, 1, none⟩ = some (.int .u64 (wN s1)) ∧ p.w.cell? ⟨w1.heap.size, 2, none⟩ = some (.int .u64 (wN s2)) ∧ p.w.cell? ⟨w1.heap.size, 3, none⟩ = some (.int .u64 (wN s3))) := fun p => (HS.out p.w).1 p.h
              have hS0 : S W3.drew := (HS.out _).2 ⟨hS1, hW3.cells⟩
              have hne : Nonempty (InC S) := ⟨⟨_, hS0⟩⟩
              refine wp_region_mix S [0, 1, 4, 5, 7] [0, 1, 4, 5, 2, 3, 6, 7, 8] (by kernel_rfl) (by kernel_rfl) hS0 ?_
              repeat (refine wpMix_read rfl rfl ?_; go_big_quiet_step (fail); refine wpQuiet_nil ?_)
              refine wpMix_eff (k := true) rfl rfl (by kernel_rfl) ?_
              go_wp2_with fail
              have hrowne : ∀ k, u3.ownBlock = some k → k < wr.heap.size ∧ k ≠ w1.heap.size := fun k e => ⟨(hW2.own.lt k e).2, fun e' => hW2.ne (by rw [e, e'])⟩
              have hSlt : w1.heap.size < W3.heap.size := (Array.getElem?_eq_some_iff.1 hW3.seen).1
              have hSl : ∀ W' : World, W'.heap[wr.heap.size]? = W3.heap[wr.heap.size]? → W'.heap[w1.heap.size]? = W3.heap[w1.heap.size]? → S W' := fun W' h1 h2 => (HS.out _).2 ⟨hS1.same h1, hW3.cells.same h2⟩
              have hb4 : Below W3.heap.size W3 (W3.alloc (.cells #[.int .u64 (wN q0), .int .u64 (wN q1), .int .u64 (wN q2), .int .u64 (wN q3)] 24)).drew := by repeat (first | exact Below.refl _ _ | assumption | refine Below.drew ?_ | refine ext_drewN ?_ _ | refine ext_alloc ?_ _ | refine Below.setCell ?_ (by (try simp only [World.size_alloc, World.size_setCell, World.size_drew]); omega) _ | refine ext_step ?_ (by assumption))
              refine mixPost_keep (hSl _ (hb4.block _ hG) (hb4.block _ hSlt)) ?_
              refine wpMix_eff (k := true) rfl rfl (by kernel_rfl) ?_
              have holen := srt_len ps b
              have HOL : Hid ((srt ps b).1 = o) := by rw [HSRT.out]; rfl
              rw [HOL.out] at holen
              refine wpList_append_lies _ rfl _ _ _ rfl w.heap.size 24 i0 _ 4 32 Tryd.underlying35 HI.out HZ0.out HZ1.out HZ2.out rfl (by omega) u3 o.length (flat o) rfl (hW3.own.alloc _).drew ⟨W3.heap.size, 0, none⟩ 1 1 (words ⟨q0, q1, q2, q3⟩) rfl rfl
                (World.news_of_block (cs := (words ⟨q0, q1, q2, q3⟩).toArray) (t := 24) (fr := (0, 0)) (heap_alloc_last W3 _)) (words_one _) (by omega) (by unfold maxLen; omega) (by omega) (by have := hW3.bel.size; simp; omega) (W3.heap.size + 1) (by simp) ?_
              intro g cp W5 hown5 hg5 hat hlt5
              have hz4 : (W3.alloc (.cells #[.int .u64 (wN q0), .int .u64 (wN q1), .int .u64 (wN q2), .int .u64 (wN q3)] 24)).drew.heap.size = W3.heap.size + 1 := by simp
              have hk5 : ∀ k, k < W3.heap.size → (∀ r, u3.ownBlock = some r → k ≠ r) → W5.heap[k]? = W3.heap[k]? := fun k hk hne => (hg5.block k (by rw [hz4]; omega) (fun e => hne k e.symm rfl)).trans (hb4.block k hk)
              have hz5 : W3.heap.size + 1 ≤ W5.heap.size := by have := hg5.size; rw [hz4] at this; exact this
              have hkA : W5.heap[wr.heap.size]? = W3.heap[wr.heap.size]? := hk5 _ hG (fun r e => by have := (hrowne r e).1; omega)
              have hkB : W5.heap[w1.heap.size]? = W3.heap[w1.heap.size]? := hk5 _ hSlt (fun r e => by have := (hrowne r e).2; omega)
              refine wpList_nil (mixPost_keep (hSl _ hkA hkB) ?_)
              have hgne : g ≠ w1.heap.size := by
                rcases hat with h | h
                · have := (hrowne g h).2; omega
                · omega
              have hB5 : Below w.heap.size w W5 := (ext_step hW3.bel hb4).grown hg5 (by have := hW3.bel.size; rw [hz4]; omega) (fun k e => (hW2.own.lt k e).1)
              have hseen5 := hkB.trans hW3.seen
              rw [← flat_snoc] at hown5
              refine wpMix_eff (k := true) rfl rfl (by kernel_rfl) ?_
              go_wp2_with (go_at_call 10; refine (Or_any s0 s1 s2 s3 q0 q1 q2 q3 _).mono ?_; rintro e W6 ⟨rfl, hb6⟩)
              refine mixPost_keep (hSl _ ((hb6.block _ (by omega)).trans hkA) ((hb6.block _ (by omega)).trans hkB)) ?_
              (repeat (refine wpMix_read rfl rfl ?_; go_big_quiet_step (fail); refine wpQuiet_nil ?_))
              refine wpMix_eff (k := false) rfl rfl (by kernel_rfl) ?_
              have hseen6 : W6.heap[w1.heap.size]? = some (.cells (words ⟨s0, s1, s2, s3⟩).toArray 24 (0, 0)) := (hb6.block _ (by omega)).trans hseen5
              refine wpList_store_row rfl _ _ _ rfl w1.heap.size (words ((⟨s0, s1, s2, s3⟩ : BS).or ⟨q0, q1, q2, q3⟩)).toArray rfl rfl 24 _ hseen6 (by kernel_rfl) rfl (all_oneCell_toArray (words_one _)) ?_
              refine wpList_nil (mixPost_last (wpMix_nil ?_))
              have hgr6 : W5.grownBy (W6.setRow w1.heap.size (words ((⟨s0, s1, s2, s3⟩ : BS).or ⟨q0, q1, q2, q3⟩)).toArray) (some w1.heap.size) := ⟨hb6.os, hb6.tape, hb6.output, by have := hb6.size; simpa using this, fun k hk hne => by rw [setRow_other _ _ _ _ (fun e => hne (by rw [e])), hb6.block k hk]⟩
              have hWn : SrtW w w1.heap.size (o ++ [⟨q0, q1, q2, q3⟩]) ((⟨s0, s1, s2, s3⟩ : BS).or ⟨q0, q1, q2, q3⟩) (.slice (some ⟨g, 0, none⟩) (o.length + 1) cp) (W6.setRow w1.heap.size (words ((⟨s0, s1, s2, s3⟩ : BS).or ⟨q0, q1, q2, q3⟩)).toArray) := by
                refine ⟨?_, ?_, ?_, ?_, hW2.lo⟩
                · rw [List.length_append]; exact hown5.kept hgr6 (.inr (by simpa [Value.ownBlock] using hgne))
                · simpa [Value.ownBlock] using hgne
                · exact setRow_heap _ _ _ _ _ _ hseen6
                · exact hB5.grown hgr6 hB5.size (fun k e => by cases e; exact hW2.lo)
              have HWN := Lib.hid hWn
              clear hWn hgr6 hseen6 hb6 hseen5 hB5 hgne hkA hkB hz5 hk5 hz4 hat hg5 hown5 hSl hrowne cs hne hS0 hW3 hS1 hb4 holen
              go_wp2
              go_roundw
              case rel => exact ⟨b + 1, by omega, by go_num, by rw [HN.out]; exact HWN.out⟩
              case measure => simp [intOf]; omega
          · have hje : j = ps.length := by omega
            have HN : Hid (srt ps (b + 1) = (o, ⟨s0, s1, s2, s3⟩)) := by
              show _ = _
              rw [srt_none ps b (by rw [HSRT.out]; exact HH.out) (find_no (by rw [← hje]; exact HNO.out)), HSRT.out]
            have hji : ¬ (j : Int) < ps.length := by omega
            clear hje
            go_wp2
            go_roundw
            case rel => exact ⟨b + 1, by omega, by go_num, by rw [HN.out]; exact hW2⟩
            case measure => simp [intOf]; omega
    · obtain rfl : b = 256 := by omega
      go_wp2
      go_ret
      exact ⟨_, rfl, hW.own, hW.bel⟩
end Go.Proofs.YtampjjllpdljaaaDoor
