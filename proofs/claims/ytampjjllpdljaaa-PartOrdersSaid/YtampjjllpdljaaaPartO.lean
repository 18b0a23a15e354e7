/-
  'PartOrders', walked through the program: for whatever sets and whatever number the statement's function returns true, and nothing that lay has turned.
-/
import Derived.Test.YtampjjllpdljaaaPartH
set_option linter.unusedSimpArgs false
set_option linter.unusedVariables false
namespace Go.Proofs.Ytampjjllpdljaaa
open Go.RowKit

theorem flat_append (l l' : List BS) : flat (l ++ l') = flat l ++ flat l' := by simp [flat]
/-- the cells of the sets from the t-th on -/
theorem news_drop {W : World} {B off : Nat} {l : List BS} (h : SetsAt W B off l) (t : Nat) : ∀ j u, (flat (l.drop t))[j]? = some u → W.cell? ((⟨B, off + t * 4, none⟩ : Addr).add j) = some u := by
  intro j u hu
  have hadd : (⟨B, off + t * 4, none⟩ : Addr).add j = ⟨B, off + t * 4 + j, none⟩ := by unfold Addr.add; split <;> simp_all
  have hj : j < (l.drop t).length * 4 := by have := (List.getElem?_eq_some_iff.1 hu).1; rwa [flat_len] at this
  rw [List.length_drop] at hj
  have e : j = (j / 4) * 4 + j % 4 := by omega
  rw [e, flat_get _ _ _ (by rw [List.length_drop]; omega) (by omega)] at hu
  have hg : (l.drop t).getD (j / 4) BS.none = l.getD (t + j / 4) BS.none := by simp [List.getD, List.getElem?_drop]
  rw [hg] at hu
  obtain ⟨h0, h1, h2, h3⟩ := h (t + j / 4) (by omega)
  rw [hadd]
  have hr : j % 4 = 0 ∨ j % 4 = 1 ∨ j % 4 = 2 ∨ j % 4 = 3 := by omega
  rcases hr with hr | hr | hr | hr <;> rw [hr] at hu <;> simp [words] at hu <;> subst hu
  · rw [show off + t * 4 + j = off + (t + j / 4) * 4 by omega]; exact h0
  · rw [show off + t * 4 + j = off + (t + j / 4) * 4 + 1 by omega]; exact h1
  · rw [show off + t * 4 + j = off + (t + j / 4) * 4 + 2 by omega]; exact h2
  · rw [show off + t * 4 + j = off + (t + j / 4) * 4 + 3 by omega]; exact h3
theorem news_take {W : World} {B off : Nat} {l : List BS} (h : SetsAt W B off l) (t : Nat) : ∀ j u, (flat (l.take t))[j]? = some u → W.cell? ((⟨B, off, none⟩ : Addr).add j) = some u := by
  intro j u hu
  have h' := news_drop h 0
  rw [List.drop_zero, Nat.zero_mul, Nat.add_zero] at h'
  refine h' j u ?_
  have hj := (List.getElem?_eq_some_iff.1 hu).1
  conv => lhs; rw [← List.take_append_drop t l, flat_append]
  rw [List.getElem?_append_left hj]; exact hu
theorem flat_one (l : List BS) : ∀ u ∈ flat l, u.oneCell' = true := by
  intro u hu
  obtain ⟨s, _, hs⟩ := List.mem_flatMap.1 hu
  exact words_one s u hs
theorem srt_pos {R : Nat → Nat → Prop} {ps : List BS} (h : IsPart R ps) : ∀ b, 0 < b → 0 < (srt ps b).1.length
  | 0, h0 => by omega
  | b + 1, _ => by
    by_cases hb : b = 0
    · subst hb
      obtain ⟨p, hp, _⟩ := h.find (b := 0) (by omega)
      rw [srt_some ps 0 p (by simp [srt, BS.has_none]) hp]; simp
    · have ih := srt_pos h b (by omega)
      unfold srt
      split
      · exact ih
      · split
        · simp
        · exact ih
theorem refL_pos (l : List BS) : 0 < (refL l).length := srt_pos (parts0_part l) 256 (by omega)
theorem and255 (t : Int) : 0 ≤ bits .and .i64 t 255 ∧ bits .and .i64 t 255 ≤ 255 := by
  have h : (BitVec.ofInt 64 t &&& BitVec.ofInt 64 255).toNat ≤ 255 := by
    rw [BitVec.toNat_and]
    exact Nat.le_trans Nat.and_le_right (by decide)
  have e : bits .and .i64 t 255 = IntKind.i64.wrap ((BitVec.ofInt 64 t &&& BitVec.ofInt 64 255).toNat : Int) := rfl
  rw [e]
  generalize (BitVec.ofInt 64 t &&& BitVec.ofInt 64 255).toNat = m at h
  rw [IntWalk.i64_in _ (by omega)]
  omega
def CmpAt (w : World) (ga gb : Nat) (R : List BS) (i : Value) (wr : World) : Prop :=
  ∃ k : Nat, k ≤ R.length ∧ i = .int .i64 k ∧ SetsAt wr ga 0 R ∧ SetsAt wr gb 0 R ∧ Below w.heap.size w wr
set_option maxRecDepth 100000 in
set_option maxHeartbeats 8000000 in
theorem PartOrders_any (w : World) (p : Option Addr) (B off cap : Nat) (l : List BS) (hp : 0 < l.length → p = some ⟨B, off, none⟩) (hm : l.length ≤ 9223372036854775807) (hcap : l.length ≤ cap) (hc : SetsAt w B off l) (turn : Int) (ht : (Lit.int .i64 turn).wf = true) :
    Calls Try.prog 6 #[.slice p l.length cap, .int .i64 turn] w fun e w' => e = .returned (.bool true) ∧ Below w.heap.size w w' := by
  by_cases hbig : 8 < l.length
  · have hb' : (8 : Int) < l.length := by omega
    have hd : decide ((8 : Int) < l.length) = true := by simp; omega
    clear hp hc hbig
    go_enter Try.func6, Try.ntmps6
    go_wp2_with (go_at_call 22; refine (head2_any _).mono ?_; rintro e W0 ⟨rfl, hb0⟩)
    go_ret
    exact ⟨rfl, hb0⟩
  by_cases hzero : l.length = 0
  · have hl0 : l = [] := List.length_eq_zero_iff.1 hzero
    subst hl0
    clear hp hc hbig hzero
    simp only [List.length_nil]
    go_enter Try.func6, Try.ntmps6
    go_wp2_with (go_at_call 22; refine (head2_any _).mono ?_; rintro e W0 ⟨rfl, hb0⟩)
    go_ret
    exact ⟨rfl, hb0⟩
  have hl : l.length ≤ 8 := by omega
  have hpos : 0 < l.length := by omega
  have e := hp hpos
  subst e
  have hl' : (l.length : Int) ≤ 8 := by omega
  have hl1 : (1 : Int) ≤ l.length := by omega
  have hd1 : decide ((8 : Int) < l.length) = false := by simp; omega
  have hd2 : ((l.length : Int) == 0) = false := by rw [beq_eq_false_iff_ne]; omega
  clear hbig hzero hm hp
  obtain ⟨ha0, ha1⟩ := and255 turn
  have hlt : B < w.heap.size := (hc 0 hpos).lt
  have hrf : ∀ W : World, Below w.heap.size w W → Calls Try.prog 23 #[.slice (some ⟨B, off, none⟩) l.length cap] W fun e w' => ∃ v, e = .returned v ∧ w'.ownsRow W.heap.size 24 4 v (refL l).length (flat (refL l)) ∧ Below W.heap.size W w' :=
    fun W hb => Refine_any (some ⟨B, off, none⟩) B off cap l (fun _ => rfl) (by omega) W (hc.later hb (fun _ => hlt))
  have HRF := Lib.hid hrf
  have HC := Lib.hid hc
  clear hrf hc
  go_enter Try.func6, Try.ntmps6
  go_wp2_with (first | (go_at_call 22; refine (head2_any _).mono ?_; rintro e W0 ⟨rfl, hb0⟩) | (go_at_call 23; refine (HRF.out _ (by assumption)).mono ?_; rintro e W1 ⟨va, rfl, hown1, hb1⟩))
  obtain ⟨t, htl, hte⟩ : ∃ t : Nat, t < l.length ∧ bits .and .i64 turn 255 % (l.length : Int) = t := by
    refine ⟨(bits .and .i64 turn 255 % (l.length : Int)).toNat, ?_, ?_⟩
    · have := Int.emod_lt_of_pos (bits .and .i64 turn 255) (show (0 : Int) < l.length by omega)
      have := Int.emod_nonneg (bits .and .i64 turn 255) (show (l.length : Int) ≠ 0 by omega)
      omega
    · have := Int.emod_nonneg (bits .and .i64 turn 255) (show (l.length : Int) ≠ 0 by omega)
      omega
  rw [hte]
  generalize bits .and .i64 turn 255 = tb at *
  clear hte ha0 ha1 ht hd1 hd2
  have hB1 := ext_step hb0 hb1
  have hsets1 := HC.out.later hB1 (fun _ => hlt)
  have ht0 : (0 : Int) ≤ t := by omega
  have ht1 : (t : Int) ≤ l.length := by omega
  have ht2 : (t : Int) ≤ cap := by omega
  have ht3 : (l.length : Int) ≤ cap := by omega
  have ht4 : ¬ cap = t := by omega
  have hne : Nonempty (InC (fun _ => True)) := ⟨⟨w, trivial⟩⟩
  obtain ⟨i0, hi, hz0, hz1, hz2⟩ := info_parts infoSet
  have HI := Lib.hid hi; have HZ0 := Lib.hid hz0; have HZ1 := Lib.hid hz1; have HZ2 := Lib.hid hz2
  clear hi hz0 hz1 hz2 hb0 hb1
  refine wp_region_mix (fun _ => True) [1, 2, 3, 5, 6, 7, 9] [1, 2, 3, 5, 6, 7, 0, 4, 8, 9] (by kernel_rfl) (by kernel_rfl) trivial ?_
  (repeat (refine wpMix_read rfl rfl ?_; go_big_quiet_step (fail); refine wpQuiet_nil ?_))
  refine wpMix_eff (k := true) rfl rfl (by kernel_rfl) ?_
  go_wp2_with fail
  refine mixPost_keep trivial ?_
  refine wpMix_eff (k := true) rfl rfl (by kernel_rfl) ?_
  have hownE : (W1.alloc (.cells #[] 24)).drew.ownsRow W1.heap.size 24 4 (.slice (some ⟨W1.heap.size, 0, none⟩) 0 0) 0 (flat []) := (World.ownsRow_lit W1 #[] 0 (Nat.le_refl _) (by unfold maxLen; omega) rfl).drew
  have hzE : (W1.alloc (.cells #[] 24)).drew.heap.size = W1.heap.size + 1 := by simp
  have hbE : Below W1.heap.size W1 (W1.alloc (.cells #[] 24)).drew := by repeat (first | exact Below.refl _ _ | assumption | refine Below.drew ?_ | refine ext_drewN ?_ _ | refine ext_alloc ?_ _ | refine Below.setCell ?_ (by (try simp only [World.size_alloc, World.size_setCell, World.size_drew]); omega) _ | refine ext_step ?_ (by assumption))
  have hBE := ext_step hB1 hbE
  have hsetsE := HC.out.later hBE (fun _ => hlt)
  have hlB1 : B < W1.heap.size := by have := hB1.size; omega
  refine wpList_append_lies _ rfl _ _ _ rfl W1.heap.size 24 i0 _ 4 32 Try.underlying44 HI.out HZ0.out HZ1.out HZ2.out rfl (by omega) (.slice (some ⟨W1.heap.size, 0, none⟩) 0 0) 0 (flat []) rfl hownE ⟨B, off + t * 4, none⟩ (l.length - t) (cap - t) (flat (l.drop t)) rfl
    (by rw [flat_len, List.length_drop]) (news_drop hsetsE t) (flat_one _) (by omega) (by unfold maxLen; omega) (by omega) (by rw [hzE]; omega) (W1.heap.size + 1) hzE ?_
  intro g1 cp1 W2 hown2 hg2 hat2 hlt2
  have hB2 : Below w.heap.size w W2 := hBE.grown hg2 (by have := hBE.size; exact this) (fun k e => by have := (hownE.lt k e).1; have := hB1.size; omega)
  have hva2 : W2.ownsRow W0.heap.size 24 4 va (refL l).length (flat (refL l)) := by
    have h1 : (W1.alloc (.cells #[] 24)).drew.ownsRow W0.heap.size 24 4 va (refL l).length (flat (refL l)) := (hown1.alloc _).drew
    refine h1.kept hg2 (.inr fun e => ?_)
    have := (hown1.lt W1.heap.size (by rw [e]; rfl)).2
    omega
  have hsz2 : W1.heap.size + 1 ≤ W2.heap.size := by have := hg2.size; rw [hzE] at this; exact this
  refine wpList_nil (mixPost_keep trivial ?_)
  simp only [Act.put, List.setIfInBounds_toArray, List.set_cons_zero, List.set_cons_succ]
  refine wpMix_eff (k := true) rfl rfl (by kernel_rfl) ?_
  have hsets2 := HC.out.later hB2 (fun _ => hlt)
  refine wpList_append_own_at _ rfl _ _ _ rfl W1.heap.size 24 i0 _ 4 32 Try.underlying44 HI.out HZ0.out HZ1.out HZ2.out rfl (by omega) (.slice (some ⟨g1, 0, none⟩) (0 + (l.length - t)) cp1) (0 + (l.length - t)) (flat [] ++ flat (l.drop t)) rfl hown2 ⟨B, off, none⟩ t cap (flat (l.take t)) rfl
    (by rw [flat_len, List.length_take]; congr 1; omega) (news_take hsets2 t) (flat_one _) (by unfold maxLen; omega) (by omega) (by omega) ?_
  intro vo W3 hown3 hg3 _ hat3
  have hrow2 : (Value.slice (some ⟨g1, 0, none⟩) (0 + (l.length - t)) cp1).ownBlock = some g1 := rfl
  have hg1 : W1.heap.size ≤ g1 := (hown2.lt g1 hrow2).1
  have hB3 : Below w.heap.size w W3 := hB2.grown hg3 hB2.size (fun k e => by have := (hown2.lt k e).1; have := hB1.size; omega)
  have hva3 : W3.ownsRow W0.heap.size 24 4 va (refL l).length (flat (refL l)) := by
    refine hva2.kept hg3 (.inr fun e => ?_)
    have := (hown1.lt g1 (by rw [e]; rfl)).2
    omega
  have hsz3 : W1.heap.size + 1 ≤ W3.heap.size := by have := hg3.size; omega
  have hown3' : W3.ownsRow W1.heap.size 24 4 vo (l.drop t ++ l.take t).length (flat (l.drop t ++ l.take t)) := by
    rw [flat_append, List.length_append, List.length_drop, List.length_take, show min t l.length = t by omega, show l.length - t + t = 0 + (l.length - t) + t by omega]
    exact hown3
  have hvo : vo.ownBlock ≠ none ∧ ∀ k, vo.ownBlock = some k → W1.heap.size ≤ k := by
    refine ⟨?_, fun k e => (hown3'.lt k e).1⟩
    rcases hat3 with h | h <;> rw [h] <;> simp [Value.ownBlock]
  have hvane : va.ownBlock ≠ vo.ownBlock := fun e => by
    cases hv : vo.ownBlock with
    | none => exact hvo.1 hv
    | some k => have h1 := (hown1.lt k (by rw [e]; exact hv)).2; have h2 := hvo.2 k hv; omega
  refine wpList_nil (mixPost_keep trivial ?_)
  simp only [Act.put, List.setIfInBounds_toArray, List.set_cons_zero, List.set_cons_succ]
  (repeat (refine wpMix_read rfl rfl ?_; go_big_quiet_step (fail); refine wpQuiet_nil ?_))
  refine wpMix_nil ?_
  have hol : (l.drop t ++ l.take t).length = l.length := by rw [List.length_append, List.length_drop, List.length_take]; omega
  have HST := Lib.hid (sameIn_turned l (l.getD 0 BS.none) (by rw [List.getD_eq_getElem?_getD, List.getElem?_eq_getElem hpos]; exact List.getElem_mem _) t)
  have hset0 : SetAt W3 B off (l.getD 0 BS.none) := by
    have h := HC.out 0 hpos
    rw [Nat.zero_mul, Nat.add_zero] at h
    exact h.same (hB3.block B hlt)
  have hw1 := hB1.size
  clear hne hown3 hg3 hat3 hrow2 hown2 hg2 hat2 hlt2 hva2 hsets2 hB2 hsz2 hownE hzE hbE hBE hsetsE hsets1 hB1
  generalize l.getD 0 BS.none = z at *
  generalize l.drop t ++ l.take t = ol at *
  obtain ⟨z0, z1, z2, z3⟩ := z
  go_wp2_with fail
  have HRL : Hid (refL (ol ++ [⟨z0, z1, z2, z3⟩, (⟨z0, z1, z2, z3⟩ : BS).not]) = refL l) := refL_congr (fun a b => (HST.out a b).symm)
  have hRp := refL_pos l
  have hRl := refL_len l
  have hrf2 : ∀ (W : World) (g cp : Nat), SetsAt W g 0 (ol ++ [⟨z0, z1, z2, z3⟩, (⟨z0, z1, z2, z3⟩ : BS).not]) → Calls Try.prog 23 #[.slice (some ⟨g, 0, none⟩) (ol.length + 2) cp] W fun e w' => ∃ v, e = .returned v ∧ w'.ownsRow W.heap.size 24 4 v (refL l).length (flat (refL l)) ∧ Below W.heap.size W w' := by
    intro W g cp hs
    have h := Refine_any (some ⟨g, 0, none⟩) g 0 cp (ol ++ [⟨z0, z1, z2, z3⟩, (⟨z0, z1, z2, z3⟩ : BS).not]) (fun _ => rfl) (by simp; omega) W hs
    rw [HRL.out, List.length_append] at h
    exact h
  have HRF2 := Lib.hid hrf2
  have hol8 : ol.length ≤ 8 := by omega
  clear hol
  clear hrf2 HST
  generalize refL l = R at *
  rcases sets_of_owns hva3 with ⟨_, h0⟩ | ⟨ga, cpa, rfl, _, hga, hsa⟩
  · omega
  have hgane : vo.ownBlock ≠ some ga := fun e => hvane (by rw [e]; rfl)
  obtain ⟨S, hS⟩ : ∃ S : World → Prop, ∀ W', S W' ↔ SetAt W' B off ⟨z0, z1, z2, z3⟩ := ⟨_, fun _ => Iff.rfl⟩
  have HS := Lib.hid hS
  clear hS hva3 hvane
  have cs : ∀ p : InC S, p.w.cell? ⟨B, off, none⟩ = some (.int .u64 (wN z0)) ∧ p.w.cell? ⟨B, off + 1, none⟩ = some (.int .u64 (wN z1)) ∧ p.w.cell? ⟨B, off + 2, none⟩ = some (.int .u64 (wN z2)) ∧ p.w.cell? ⟨B, off + 3, none⟩ = some (.int .u64 (wN z3)) := fun p => (HS.out p.w).1 p.h
  have hSl : ∀ W' : World, W'.heap[B]? = W3.heap[B]? → S W' := fun W' hb => (HS.out _).2 (hset0.same hb)
  have hB3l : B < W3.heap.size := by omega
  have hne : Nonempty (InC S) := ⟨⟨W3, hSl _ rfl⟩⟩
  refine wp_region_mix S [0, 1, 2, 3, 4, 5, 6, 11] [0, 1, 2, 3, 4, 5, 6, 7, 8, 9, 10, 11] (by kernel_rfl) (by kernel_rfl) (hSl _ rfl) ?_
  (repeat (refine wpMix_read rfl rfl ?_; go_big_quiet_step (fail); refine wpQuiet_nil ?_))
  have hD3 : Below W3.heap.size W3 W3.drew := (Below.refl _ _).drew
  refine wpMix_eff (k := true) rfl rfl (by kernel_rfl) ?_
  go_wp2_with (go_at_call 11; refine (Not_any z0 z1 z2 z3 _).mono ?_; rintro e W4 ⟨rfl, hb4⟩)
  have hD4 := ext_step hD3 hb4
  refine mixPost_keep (hSl _ (hD4.block B hB3l)) ?_
  clear hb4 hD3
  refine wpMix_eff (k := true) rfl rfl (by kernel_rfl) ?_
  go_wp2_with fail
  have hsz4 := hD4.size
  have hD5 : Below W3.heap.size W3 (W4.alloc (.cells #[.int .u64 (wN z0), .int .u64 (wN z1), .int .u64 (wN z2), .int .u64 (wN z3), .int .u64 (wN (~~~z0)), .int .u64 (wN (~~~z1)), .int .u64 (wN (~~~z2)), .int .u64 (wN (~~~z3))] 24)) := ext_step hD4 (below_alloc _ _)
  refine mixPost_keep (hSl _ (hD5.block B hB3l)) ?_
  refine wpMix_eff (k := true) rfl rfl (by kernel_rfl) ?_
  have hown5 := hown3'.kept (grownBy_of_below hD5) (by cases vo.ownBlock <;> simp)
  refine wpList_append_lies _ rfl _ _ _ rfl W1.heap.size 24 i0 _ 4 32 Try.underlying44 HI.out HZ0.out HZ1.out HZ2.out rfl (by omega) vo ol.length (flat ol) rfl hown5 ⟨W4.heap.size, 0, none⟩ 2 2 (flat [⟨z0, z1, z2, z3⟩, (⟨z0, z1, z2, z3⟩ : BS).not]) rfl rfl
    (World.news_of_block (cs := (flat [⟨z0, z1, z2, z3⟩, (⟨z0, z1, z2, z3⟩ : BS).not]).toArray) (t := 24) (fr := (0, 0)) (heap_alloc_last W4 _)) (flat_one _) (by omega) (by unfold maxLen; omega) (by omega) (by have := hD5.size; omega) (W4.heap.size + 1) (by simp) ?_
  intro g6 cp6 W6 hown6 hg6 hat6 hlt6
  rw [← flat_append] at hown6
  have hown6' : W6.ownsRow W1.heap.size 24 4 (.slice (some ⟨g6, 0, none⟩) (ol.length + 2) cp6) (ol ++ [⟨z0, z1, z2, z3⟩, (⟨z0, z1, z2, z3⟩ : BS).not]).length (flat (ol ++ [⟨z0, z1, z2, z3⟩, (⟨z0, z1, z2, z3⟩ : BS).not])) := by rw [List.length_append]; exact hown6
  have hsets6 : SetsAt W6 g6 0 (ol ++ [⟨z0, z1, z2, z3⟩, (⟨z0, z1, z2, z3⟩ : BS).not]) := by
    rcases sets_of_owns hown6' with ⟨e, _⟩ | ⟨g', cp', e, _, _, hs⟩
    · cases e
    · simp only [Value.slice.injEq, Option.some.injEq, Addr.mk.injEq] at e
      rw [e.1.1]; exact hs
  have hvoB : ∀ k, vo.ownBlock = some k → B ≠ k := fun k e => by have := hvo.2 k e; omega
  have hB6b : W6.heap[B]? = W3.heap[B]? := (hg6.block B (by simp; omega) (fun e => hvoB B e.symm rfl)).trans (hD5.block B hB3l)
  have hga6 : W6.heap[ga]? = W3.heap[ga]? := (hg6.block ga (by simp; omega) (fun e => hgane e.symm)).trans (hD5.block ga hga)
  have hBe6 : Below w.heap.size w W6 := (ext_step hB3 hD5).grown hg6 (ext_step hB3 hD5).size (fun k e => by have := hvo.2 k e; omega)
  refine wpList_nil (mixPost_keep (hSl _ hB6b) ?_)
  simp only [Act.put, List.setIfInBounds_toArray, List.set_cons_zero, List.set_cons_succ]
  refine wpMix_eff (k := true) rfl rfl (by kernel_rfl) ?_
  go_wp2_with (go_at_call 23; refine (HRF2.out W6 g6 cp6 hsets6).mono ?_; rintro e W7 ⟨vb, rfl, hown7, hb7⟩)
  have hsz6 : W3.heap.size ≤ W6.heap.size := by have := hg6.size; simp at this; omega
  refine mixPost_keep (hSl _ ((hb7.block B (by omega)).trans hB6b)) ?_
  (repeat (refine wpMix_read rfl rfl ?_; go_big_quiet_step (fail); refine wpQuiet_nil ?_))
  refine wpMix_nil ?_
  rcases sets_of_owns hown7 with ⟨_, h0⟩ | ⟨gb, cpb, rfl, _, hgb, hsb⟩
  · omega
  have hsa7 : SetsAt W7 ga 0 R := hsa.same ((hb7.block ga (by omega)).trans hga6)
  have hB7 := ext_step hBe6 hb7
  clear hown7 hb7 hown6 hown6' hsets6 hg6 hat6 hlt6 hB6b hga6 hBe6 hown5 hD5 hD4 hsz4 hne cs hSl hset0 hsa hsz6 hvo
  have hRl' : (R.length : Int) ≤ 256 := by omega
  have hnq : ((R.length : Int) != (R.length : Int)) = false := by simp
  have heq := eq_words
  have q1 : ∀ x : BitVec 64, (wN x == wN x) = true := wN_refl
  go_wp2_with fail
  go_loopw [53] (fun i wr => CmpAt w ga gb R i wr) (fun i _ => R.length - (intOf i).toNat)
  case atStart => exact ⟨0, by omega, rfl, hsa7, hsb, hB7⟩
  case round =>
    clear hsa7 hsb hB7
    obtain ⟨k, hk, rfl, hsa, hsb, hbel⟩ := hrel
    by_cases hlt2 : k < R.length
    · have hk0 : (0 : Int) ≤ k := by omega
      have hk1 : (k : Int) < R.length := by omega
      have h1 := hsa k hlt2
      have h2 := hsb k hlt2
      rw [Nat.zero_add] at h1 h2
      generalize R.getD k BS.none = q at *
      obtain ⟨q0, q1', q2, q3⟩ := q
      obtain ⟨S, hS⟩ : ∃ S : World → Prop, ∀ W', S W' ↔ (SetAt W' ga (k * 4) ⟨q0, q1', q2, q3⟩ ∧ SetAt W' gb (k * 4) ⟨q0, q1', q2, q3⟩) := ⟨_, fun _ => Iff.rfl⟩
      have HS := Lib.hid hS
      clear hS
      have cs : ∀ p : InC S, (p.w.cell? ⟨ga, k * 4, none⟩ = some (.int .u64 (wN q0)) ∧ p.w.cell? ⟨ga, k * 4 + 1, none⟩ = some (.int .u64 (wN q1')) ∧ p.w.cell? ⟨ga, k * 4 + 2, none⟩ = some (.int .u64 (wN q2)) ∧ p.w.cell? ⟨ga, k * 4 + 3, none⟩ = some (.int .u64 (wN q3))) ∧
         (p.w.cell? ⟨gb, k * 4, none⟩ = some (.int .u64 (wN q0)) ∧ p.w.cell? ⟨gb, k * 4 + 1, none⟩ = some (.int .u64 (wN q1')) ∧ p.w.cell? ⟨gb, k * 4 + 2, none⟩ = some (.int .u64 (wN q2)) ∧ p.w.cell? ⟨gb, k * 4 + 3, none⟩ = some (.int .u64 (wN q3))) := fun p => (HS.out p.w).1 p.h
      have hS0 : S wr.drew := (HS.out _).2 ⟨h1, h2⟩
      have hne : Nonempty (InC S) := ⟨⟨_, hS0⟩⟩
      go_wp2_with fail
      refine wp_region_mix S [0, 1, 2, 3, 4, 5, 6, 7, 8] [0, 1, 2, 3, 4, 5, 6, 7, 8] (by kernel_rfl) (by kernel_rfl) hS0 ?_
      (repeat (refine wpMix_read rfl rfl ?_; go_big_quiet_step (fail); refine wpQuiet_nil ?_))
      refine wpMix_nil ?_
      clear hne hS0 cs
      go_wp2
      go_roundw
      case rel => exact ⟨k + 1, by omega, by go_num, hsa, hsb, hbel.drew⟩
      case measure => simp [intOf]; omega
    · have hk1 : ¬ (k : Int) < R.length := by omega
      go_wp2
      go_ret
      exact ⟨rfl, hbel⟩
end Go.Proofs.Ytampjjllpdljaaa
