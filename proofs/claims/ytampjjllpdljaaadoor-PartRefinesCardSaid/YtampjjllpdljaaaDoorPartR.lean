/-
  'Refine', walked through the program: the parts into which some sets cut all bytes.
-/
import Derived.Test.YtampjjllpdljaaaDoorSetW
import Derived.Test.YtampjjllpdljaaaDoorPartS
import Derived.Test.YtampjjllpdljaaaDoorSetE
set_option linter.unusedSimpArgs false
set_option linter.unusedVariables false
set_option maxRecDepth 100000
namespace Go.Proofs.YtampjjllpdljaaaDoor
open Go.RowKit

theorem parts0_pos (l : List BS) : 0 < (parts0 l).length := by
  obtain ⟨p, hp, _⟩ := (parts0_part l).cover 0 (by omega)
  exact List.length_pos_of_mem hp
theorem take_snocB (l : List BS) (k : Nat) (h : k < l.length) : l.take (k + 1) = l.take k ++ [l.getD k BS.none] := by
  rw [List.take_succ_eq_append_getElem h]; simp [List.getD, h]

/-- between two rounds of the inner loops: what has been cut, the parts and the set that cuts -/
structure RefW (w : World) (g sB : Nat) (ps : List BS) (s : BS) (nxl : List BS) (nx : Value) (wr : World) : Prop where
  own : wr.ownsRow w.heap.size 24 4 nx nxl.length (flat nxl)
  ne1 : nx.ownBlock ≠ some g
  ne2 : nx.ownBlock ≠ some sB
  sets : SetsAt wr g 0 ps
  cut : SetAt wr sB 0 s
  hg : g < wr.heap.size
  bel : Below w.heap.size w wr
theorem grownBy_of_below {W W' : World} (hb : Below W.heap.size W W') : W.grownBy W' none := ⟨hb.os, hb.tape, hb.output, hb.size, fun k hk _ => hb.block k hk⟩
theorem SetsAt.same {w w1 : World} {b off : Nat} {l : List BS} (h : SetsAt w b off l) (hb : w1.heap[b]? = w.heap[b]?) : SetsAt w1 b off l := fun i hi => (h i hi).same hb
theorem RefW.later {w : World} {g sB : Nat} {ps : List BS} {s : BS} {nxl : List BS} {nx : Value} {wr wr' : World} (h : RefW w g sB ps s nxl nx wr) (hb : Below wr.heap.size wr wr') : RefW w g sB ps s nxl nx wr' :=
  ⟨h.own.kept (grownBy_of_below hb) (by cases nx.ownBlock <;> simp), h.ne1, h.ne2, h.sets.same (hb.block _ h.hg), h.cut.same (hb.block _ h.cut.lt), by have := h.hg; have := hb.size; omega, ext_step h.bel hb⟩
theorem below_alloc (W : World) (o : Obj) : Below W.heap.size W (W.alloc o) := ext_alloc (Below.refl _ W) o
theorem RefW.appended {w : World} {g sB : Nat} {ps : List BS} {s z : BS} {nxl : List BS} {nx : Value} {wr W W' : World} {g5 cp5 H : Nat} (h : RefW w g sB ps s nxl nx wr) (hb : Below wr.heap.size wr W) (hH : wr.heap.size ≤ H)
   (hown : W'.ownsRow w.heap.size 24 4 (.slice (some ⟨g5, 0, none⟩) (nxl.length + 1) cp5) (nxl.length + 1) (flat nxl ++ words z)) (hg : W.grownBy W' nx.ownBlock) (hat : nx.ownBlock = some g5 ∨ g5 = H) :
    RefW w g sB ps s (nxl ++ [z]) (.slice (some ⟨g5, 0, none⟩) (nxl.length + 1) cp5) W' := by
  have hW := h.later hb
  have keep : ∀ k, k < W.heap.size → nx.ownBlock ≠ some k → W'.heap[k]? = W.heap[k]? := fun k hk hn => hg.block k hk (fun e => hn e.symm)
  have hcl := hW.cut.lt
  have h1 := h.hg
  have h2 := h.cut.lt
  refine ⟨?_, ?_, ?_, hW.sets.same (keep _ hW.hg h.ne1), hW.cut.same (keep _ hcl h.ne2), by have := hW.hg; have := hg.size; omega, hW.bel.grown hg hW.bel.size (fun k e => (h.own.lt k e).1)⟩
  · rw [List.length_append, flat_snoc]; exact hown
  · simp only [Value.ownBlock, ne_eq, Option.map_some, Option.some.injEq]
    rcases hat with e | e
    · intro e'; exact h.ne1 (by rw [e]; simpa using e')
    · intro e'; have : g5 = g := by simpa using e'
      omega
  · simp only [Value.ownBlock, ne_eq, Option.map_some, Option.some.injEq]
    rcases hat with e | e
    · intro e'; exact h.ne2 (by rw [e]; simpa using e')
    · intro e'; have : g5 = sB := by simpa using e'
      omega
theorem ownsRow_mono {w : World} {base base' : Nat} {e : TypeId} {size : Nat} {v : Value} {n : Nat} {xs : List Value} (h : w.ownsRow base e size v n xs) (hb : base' ≤ base) : w.ownsRow base' e size v n xs := by
  refine ⟨h.1, ?_⟩
  rcases h.2 with h2 | ⟨g, cap, cur, hv, hg, r⟩
  · exact .inl h2
  · exact .inr ⟨g, cap, cur, hv, by omega, r⟩
def RefAt (w : World) (l : List BS) (v i : Value) (wr : World) : Prop :=
  ∃ k : Nat, k ≤ l.length ∧ i = .int .i64 k ∧ wr.ownsRow w.heap.size 24 4 v (parts0 (l.take k)).length (flat (parts0 (l.take k))) ∧ Below w.heap.size w wr
def Ref2At (w : World) (g sB : Nat) (ps : List BS) (s : BS) (nx i : Value) (wr : World) : Prop :=
  ∃ j : Nat, j ≤ ps.length ∧ i = .int .i64 j ∧ RefW w g sB ps s (cutAll s (ps.take j)) nx wr
def Ref3At (w : World) (g sB : Nat) (ps : List BS) (s : BS) (base qs : List BS) (r : Nat) (nx i : Value) (wr : World) : Prop :=
  ∃ t : Nat, t ≤ 2 ∧ i = .int .i64 t ∧ RefW w g sB ps s (base ++ (qs.take t).flatMap cutQ) nx wr ∧ SetsAt wr r 0 qs ∧ nx.ownBlock ≠ some r ∧ r < wr.heap.size
theorem sets_two (W : World) (x y : BS) : SetsAt (W.alloc (.cells (words x ++ words y).toArray 24)) W.heap.size 0 [x, y] := by
  intro i hi
  simp only [List.length_cons, List.length_nil] at hi
  match i, hi with
  | 0, _ => refine ⟨?_, ?_, ?_, ?_⟩ <;> simp [words]
  | 1, _ => refine ⟨?_, ?_, ?_, ?_⟩ <;> simp [words]
theorem cutQ_take_len (qs : List BS) (t : Nat) (h : t ≤ 2) : ((qs.take t).flatMap cutQ).length ≤ 2 := by
  have key : ∀ l : List BS, (l.flatMap cutQ).length ≤ l.length := by
    intro l
    induction l with
    | nil => simp
    | cons a l ih => have := cutQ_len a; simp only [List.flatMap_cons, List.length_append, List.length_cons]; omega
  have := key (qs.take t)
  have h2 : (qs.take t).length ≤ t := List.length_take_le _ _
  omega

set_option maxRecDepth 100000 in
set_option maxHeartbeats 8000000 in
theorem Refine_any (p : Option Addr) (B off cap : Nat) (l : List BS) (hp : 0 < l.length → p = some ⟨B, off, none⟩) (hl : l.length ≤ 10) (w : World) (hc : SetsAt w B off l) :
    Calls Tryd.prog 16 #[.slice p l.length cap] w fun e w' => ∃ v, e = .returned v ∧ w'.ownsRow w.heap.size 24 4 v (refL l).length (flat (refL l)) ∧ Below w.heap.size w w' := by
  have HC := Lib.hid hc
  have HP := Lib.hid hp
  clear hc hp
  obtain ⟨i0, hi, hz0, hz1, hz2⟩ := info_parts infoSet
  have HI := Lib.hid hi; have HZ0 := Lib.hid hz0; have HZ1 := Lib.hid hz1; have HZ2 := Lib.hid hz2
  clear hi hz0 hz1 hz2
  go_enter Tryd.func16, Tryd.ntmps16
  go_wp2_with (go_at_call 19; refine (All_any _).mono ?_; rintro e W0 ⟨rfl, hb0⟩)
  go_loopw [3, 15] (fun v i wr => RefAt w l v i wr) (fun _ i _ => l.length - (intOf i).toNat)
  case atStart => exact ⟨0, by omega, rfl, World.ownsRow_lit W0 _ 1 hb0.size (by unfold maxLen; omega) rfl, ext_alloc hb0 _⟩
  case round =>
    clear hb0
    obtain ⟨k, hk, rfl, hown, hbel⟩ := hrel
    by_cases hlt : k < l.length
    · have e := HP.out (by omega)
      subst e
      have hset := HC.out k hlt
      have hBl := hset.lt
      have hset := hset.same (hbel.block B hBl)
      have hps : (parts0 (l.take k)).length ≤ 1024 := by
        refine Nat.le_trans (parts0_len _) ?_
        have h1 : (l.take k).length ≤ 10 := Nat.le_trans (List.length_take_le _ _) (by omega)
        have h2 : 2 ^ (l.take k).length ≤ 2 ^ 10 := Nat.pow_le_pow_right (by omega) h1
        omega
      have hpos := parts0_pos (l.take k)
      have HNX : Hid (parts0 (l.take (k + 1)) = cutAll (l.getD k BS.none) (parts0 (l.take k))) := by
        show _ = _
        rw [take_snocB l k hlt, parts0_snoc]
      generalize parts0 (l.take k) = ps at *
      generalize l.getD k BS.none = s at *
      obtain ⟨s0, s1, s2, s3⟩ := s
      obtain ⟨d0, d1, d2, d3⟩ := hset
      dsimp only at d0 d1 d2 d3
      have hk0 : (0 : Int) ≤ k := by omega
      rcases sets_of_owns hown with ⟨rfl, h0⟩ | ⟨g, cp, rfl, hgB, hgl, hsets⟩
      · omega
      go_wp2_with fail
      obtain ⟨sB, hsB⟩ : ∃ sB, sB = wr.heap.size := ⟨_, rfl⟩
      rw [← hsB]
      have HSB := Lib.hid hsB
      clear hsB
      go_loopw [6, 21] (fun nx i wr2 => Ref2At w g sB ps ⟨s0, s1, s2, s3⟩ nx i wr2) (fun _ i _ => ps.length - (intOf i).toNat)
      case atStart =>
        refine ⟨0, by omega, rfl, World.ownsRow_nil _ _ _ _, by simp [Value.ownBlock], by simp [Value.ownBlock], hsets.same ((below_alloc _ _).block g hgl), ?_, by simp; omega, ext_alloc hbel _⟩
        rw [HSB.out]
        refine ⟨?_, ?_, ?_, ?_⟩ <;> simp [go_sem]
      case round =>
        clear hown hsets hbel d0 d1 d2 d3
        obtain ⟨j, hj, rfl, hW⟩ := hrel
        by_cases hjl : j < ps.length
        · have hset2 := hW.sets j hjl
          rw [Nat.zero_add] at hset2
          have HCA : Hid (cutAll ⟨s0, s1, s2, s3⟩ (ps.take (j + 1)) = cutAll ⟨s0, s1, s2, s3⟩ (ps.take j) ++ cut2 ⟨s0, s1, s2, s3⟩ (ps.getD j BS.none)) := by
            show _ = _
            rw [take_snocB ps j hjl, cutAll_snoc]
          have hbase : (cutAll ⟨s0, s1, s2, s3⟩ (ps.take j)).length ≤ 2048 := by
            have h1 := cutAll_len ⟨s0, s1, s2, s3⟩ (ps.take j)
            have h2 : (ps.take j).length ≤ ps.length := List.length_take_le' _ _
            omega
          generalize cutAll ⟨s0, s1, s2, s3⟩ (ps.take j) = base at *
          generalize ps.getD j BS.none = q at *
          obtain ⟨q0, q1, q2, q3⟩ := q
          obtain ⟨d0, d1, d2, d3⟩ := hset2
          dsimp only at d0 d1 d2 d3
          have hj0 : (0 : Int) ≤ j := by omega
          go_wp2_with fail
          have hG : wr.heap.size < (wr.alloc (.cells #[.int .u64 (wN q0), .int .u64 (wN q1), .int .u64 (wN q2), .int .u64 (wN q3)] 24)).heap.size := by simp
          have hQ1 : SetAt (wr.alloc (.cells #[.int .u64 (wN q0), .int .u64 (wN q1), .int .u64 (wN q2), .int .u64 (wN q3)] 24)) wr.heap.size 0 ⟨q0, q1, q2, q3⟩ := by refine ⟨?_, ?_, ?_, ?_⟩ <;> simp [go_sem]
          have hW1 := hW.later (below_alloc wr (.cells #[.int .u64 (wN q0), .int .u64 (wN q1), .int .u64 (wN q2), .int .u64 (wN q3)] 24))
          obtain ⟨bP, hbP⟩ : ∃ n, n = wr.heap.size := ⟨_, rfl⟩
          rw [← hbP] at hG hQ1 ⊢
          generalize wr.alloc (.cells #[.int .u64 (wN q0), .int .u64 (wN q1), .int .u64 (wN q2), .int .u64 (wN q3)] 24) = W3 at *
          clear hbP d0 d1 d2 d3 hW
          obtain ⟨S, hS⟩ : ∃ S : World → Prop, ∀ W', S W' ↔ (SetAt W' bP 0 ⟨q0, q1, q2, q3⟩ ∧ SetAt W' sB 0 ⟨s0, s1, s2, s3⟩) := ⟨_, fun _ => Iff.rfl⟩
          have HS := Lib.hid hS
          clear hS
          have cs : ∀ p : InC S, (p.w.cell? ⟨bP, 0, none⟩ = some (.int .u64 (wN q0)) ∧ p.w.cell? ⟨bP, 1, none⟩ = some (.int .u64 (wN q1)) ∧ p.w.cell? ⟨bP, 2, none⟩ = some (.int .u64 (wN q2)) ∧ p.w.cell? ⟨bP, 3, none⟩ = some (.int .u64 (wN q3))) ∧
              (p.w.cell? ⟨sB, 0, none⟩ = some (.int .u64 (wN s0)) ∧ p.w.cell? ⟨sB, 1, none⟩ = some (.int .u64 (wN s1)) ∧ p.w.cell? ⟨sB, 2, none⟩ = some (.int .u64 (wN s2)) ∧ p.w.cell? ⟨sB, 3, none⟩ = some (.int .u64 (wN s3))) := fun p => (HS.out p.w).1 p.h
          have hcut := hW1.cut.lt
          have hSl : ∀ W' : World, Below W3.heap.size W3 W' → S W' := fun W' hb => (HS.out _).2 ⟨hQ1.same (hb.block _ hG), hW1.cut.same (hb.block _ hcut)⟩
          have hb0 : Below W3.heap.size W3 W3.drew := (Below.refl _ _).drew
          have hne : Nonempty (InC S) := ⟨⟨_, hSl _ hb0⟩⟩
          refine wp_region_mix S [0, 1, 3, 4, 7, 8] [0, 1, 3, 4, 8, 2, 5, 6, 7] (by kernel_rfl) (by kernel_rfl) (hSl _ hb0) ?_
          (repeat (refine wpMix_read rfl rfl ?_; go_big_quiet_step (fail); refine wpQuiet_nil ?_))
          refine wpMix_eff (k := true) rfl rfl (by kernel_rfl) ?_
          go_wp2_with (go_at_call 9; refine (And_any q0 q1 q2 q3 s0 s1 s2 s3 _).mono ?_; rintro e W4 ⟨rfl, hb4⟩)
          have hB4 := ext_step hb0 hb4
          refine mixPost_keep (hSl _ hB4) ?_
          clear hb4
          refine wpMix_eff (k := true) rfl rfl (by kernel_rfl) ?_
          go_wp2_with (go_at_call 11; refine (Minus_any q0 q1 q2 q3 s0 s1 s2 s3 _).mono ?_; rintro e W5 ⟨rfl, hb5⟩)
          have hB5 := ext_step hB4 hb5
          refine mixPost_keep (hSl _ hB5) ?_
          clear hb5 hB4
          refine wpMix_eff (k := true) rfl rfl (by kernel_rfl) ?_
          go_wp2_with fail
          have hB6 := ext_step hB5 (below_alloc W5 (.cells #[.int .u64 (wN (q0 &&& s0)), .int .u64 (wN (q1 &&& s1)), .int .u64 (wN (q2 &&& s2)), .int .u64 (wN (q3 &&& s3)), .int .u64 (wN (q0 &&& ~~~s0)), .int .u64 (wN (q1 &&& ~~~s1)), .int .u64 (wN (q2 &&& ~~~s2)), .int .u64 (wN (q3 &&& ~~~s3))] 24))
          refine mixPost_keep (hSl _ hB6) ?_
          (repeat (refine wpMix_read rfl rfl ?_; go_big_quiet_step (fail); refine wpQuiet_nil ?_))
          refine wpMix_nil ?_
          have hqs : SetsAt (W5.alloc (.cells #[.int .u64 (wN (q0 &&& s0)), .int .u64 (wN (q1 &&& s1)), .int .u64 (wN (q2 &&& s2)), .int .u64 (wN (q3 &&& s3)), .int .u64 (wN (q0 &&& ~~~s0)), .int .u64 (wN (q1 &&& ~~~s1)), .int .u64 (wN (q2 &&& ~~~s2)), .int .u64 (wN (q3 &&& ~~~s3))] 24)) W5.heap.size 0 [(⟨q0, q1, q2, q3⟩ : BS).and ⟨s0, s1, s2, s3⟩, (⟨q0, q1, q2, q3⟩ : BS).minus ⟨s0, s1, s2, s3⟩] := sets_two W5 ((⟨q0, q1, q2, q3⟩ : BS).and ⟨s0, s1, s2, s3⟩) ((⟨q0, q1, q2, q3⟩ : BS).minus ⟨s0, s1, s2, s3⟩)
          have hW6 := hW1.later hB6
          have HC2 : Hid (cut2 ⟨s0, s1, s2, s3⟩ ⟨q0, q1, q2, q3⟩ = [(⟨q0, q1, q2, q3⟩ : BS).and ⟨s0, s1, s2, s3⟩, (⟨q0, q1, q2, q3⟩ : BS).minus ⟨s0, s1, s2, s3⟩].flatMap cutQ) := by
            show _ = _
            simp [cut2]
          have hq6 : W5.heap.size < (W5.alloc (.cells #[.int .u64 (wN (q0 &&& s0)), .int .u64 (wN (q1 &&& s1)), .int .u64 (wN (q2 &&& s2)), .int .u64 (wN (q3 &&& s3)), .int .u64 (wN (q0 &&& ~~~s0)), .int .u64 (wN (q1 &&& ~~~s1)), .int .u64 (wN (q2 &&& ~~~s2)), .int .u64 (wN (q3 &&& ~~~s3))] 24)).heap.size := by simp
          have hne6 : u6.ownBlock ≠ some W5.heap.size := fun e => by have := (hW6.own.lt _ e).2; have h2 := (hW1.own.lt _ e).2; have := hB5.size; omega
          clear hB6 hB5 hne cs hSl hb0 hcut hW1 hQ1 hG
          generalize hqq : [(⟨q0, q1, q2, q3⟩ : BS).and ⟨s0, s1, s2, s3⟩, (⟨q0, q1, q2, q3⟩ : BS).minus ⟨s0, s1, s2, s3⟩] = qs at *
          have hql : qs.length = 2 := by rw [← hqq]; rfl
          have HQL := Lib.hid hql
          clear hql hqq
          generalize W5.alloc (.cells #[.int .u64 (wN (q0 &&& s0)), .int .u64 (wN (q1 &&& s1)), .int .u64 (wN (q2 &&& s2)), .int .u64 (wN (q3 &&& s3)), .int .u64 (wN (q0 &&& ~~~s0)), .int .u64 (wN (q1 &&& ~~~s1)), .int .u64 (wN (q2 &&& ~~~s2)), .int .u64 (wN (q3 &&& ~~~s3))] 24) = W6 at *
          go_wp2_with fail
          obtain ⟨r, hr⟩ : ∃ r, r = W5.heap.size := ⟨_, rfl⟩
          rw [← hr] at hq6 hqs hne6 ⊢
          clear hr
          go_loopw [6, 33] (fun nx i wr3 => Ref3At w g sB ps ⟨s0, s1, s2, s3⟩ base qs r nx i wr3) (fun _ i _ => 2 - (intOf i).toNat)
          case atStart => exact ⟨0, by omega, rfl, by simpa using hW6, hqs, hne6, hq6⟩
          case round =>
            clear hW6 hqs hne6 hq6
            obtain ⟨t, ht, rfl, hW7, hqs, hne7, hr7⟩ := hrel
            by_cases htl : t < 2
            · have hset3 := hqs t (by rw [HQL.out]; omega)
              rw [Nat.zero_add] at hset3
              have hbl := cutQ_take_len qs t (by omega)
              have HCT : Hid ((qs.take (t + 1)).flatMap cutQ = (qs.take t).flatMap cutQ ++ cutQ (qs.getD t BS.none)) := by
                show _ = _
                rw [take_snocB qs t (by rw [HQL.out]; omega), List.flatMap_append]; simp
              have hb3l : (base ++ (qs.take t).flatMap cutQ).length ≤ 2050 := by rw [List.length_append]; omega
              have ht0 : (0 : Int) ≤ t := by omega
              have ht2 : (t : Int) < 2 := by omega
              generalize (qs.take t).flatMap cutQ = pre at *
              generalize qs.getD t BS.none = z at *
              obtain ⟨z0, z1, z2, z3⟩ := z
              obtain ⟨d0, d1, d2, d3⟩ := hset3
              dsimp only at d0 d1 d2 d3
              by_cases hz : (⟨z0, z1, z2, z3⟩ : BS) = BS.none
              · have HZ : Hid (decide ((⟨z0, z1, z2, z3⟩ : BS) = BS.none) = true) := decide_eq_true hz
                have HCZ : Hid (cutQ ⟨z0, z1, z2, z3⟩ = []) := by show _ = _; unfold cutQ; rw [if_pos hz]
                clear hz
                go_wp2_with (go_at_call 14; refine (Empty_any z0 z1 z2 z3 _).mono ?_; rintro e w' ⟨rfl, rfl⟩; rw [HZ.out])
                go_roundw
                case rel =>
                  refine ⟨t + 1, by omega, by go_num, ?_, (hqs.same ((below_alloc _ _).block r hr7)).same ((below_alloc _ _).block r (by simp; omega)), hne7, by simp; omega⟩
                  rw [HCT.out, HCZ.out, List.append_nil]
                  exact (hW7.later (below_alloc _ _)).later (below_alloc _ _)
                case measure => simp [intOf]; omega
              · have HZ : Hid (decide ((⟨z0, z1, z2, z3⟩ : BS) = BS.none) = false) := decide_eq_false hz
                have HCZ : Hid (cutQ ⟨z0, z1, z2, z3⟩ = [⟨z0, z1, z2, z3⟩]) := by show _ = _; unfold cutQ; rw [if_neg hz]
                clear hz
                go_wp2_with (first | (go_at_call 14; refine (Empty_any z0 z1 z2 z3 _).mono ?_; rintro e w' ⟨rfl, rfl⟩; rw [HZ.out]) | (at_builtin; refine wpList_append_lies _ rfl _ _ _ rfl w.heap.size 24 i0 _ 4 32 Tryd.underlying35 HI.out HZ0.out HZ1.out HZ2.out rfl (by omega) u6 (base ++ pre).length (flat (base ++ pre)) rfl (((hW7.own.alloc _).alloc _).alloc _) ⟨wr.heap.size + 1 + 1, 0, none⟩ 1 1 (words ⟨z0, z1, z2, z3⟩) rfl rfl (by have := World.news_of_block (cs := (words ⟨z0, z1, z2, z3⟩).toArray) (t := 24) (fr := (0, 0)) (heap_alloc_last ((wr.alloc (.cells #[.int .u64 (wN z0), .int .u64 (wN z1), .int .u64 (wN z2), .int .u64 (wN z3)] 24)).alloc (.cells #[.int .u64 (wN z0), .int .u64 (wN z1), .int .u64 (wN z2), .int .u64 (wN z3)] 24)) _); rw [World.size_alloc, World.size_alloc] at this; exact this) (words_one _) (by omega) (by unfold maxLen; omega) (by omega) (by have := hW7.bel.size; simp; omega) (wr.heap.size + 1 + 1 + 1) (by simp) ?_; intro g5 cp5 W9 hown9 hg9 hat9 hlt9))
                have hb9 : Below wr.heap.size wr (((wr.alloc (.cells #[.int .u64 (wN z0), .int .u64 (wN z1), .int .u64 (wN z2), .int .u64 (wN z3)] 24)).alloc (.cells #[.int .u64 (wN z0), .int .u64 (wN z1), .int .u64 (wN z2), .int .u64 (wN z3)] 24)).alloc (.cells #[.int .u64 (wN z0), .int .u64 (wN z1), .int .u64 (wN z2), .int .u64 (wN z3)] 24)) := by repeat (first | exact Below.refl _ _ | assumption | refine Below.drew ?_ | refine ext_drewN ?_ _ | refine ext_alloc ?_ _ | refine Below.setCell ?_ (by (try simp only [World.size_alloc, World.size_setCell, World.size_drew]); omega) _ | refine ext_step ?_ (by assumption))
                have hz9 : wr.heap.size + 3 ≤ W9.heap.size := by have := hg9.size; simp at this; omega
                have hkr : W9.heap[r]? = wr.heap[r]? := (hg9.block r (by simp; omega) (fun e => hne7 e.symm)).trans (hb9.block r hr7)
                go_roundw
                case rel =>
                  refine ⟨t + 1, by omega, by go_num, ?_, hqs.same hkr, ?_, by omega⟩
                  · rw [HCT.out, HCZ.out, ← List.append_assoc]
                    have h9 := hW7.appended hb9 (by omega) hown9 hg9 hat9
                    rw [show (base ++ pre).length + 1 = base.length + pre.length + 1 by rw [List.length_append]] at h9
                    exact h9
                  · simp only [Value.ownBlock, ne_eq, Option.map_some, Option.some.injEq]
                    rcases hat9 with e | e
                    · intro e'; exact hne7 (by rw [e]; simpa using e')
                    · intro e'; have : g5 = r := by simpa using e'
                      omega
                case measure => simp [intOf]; omega
            · obtain rfl : t = 2 := by omega
              have HC3 : Hid ((qs.take 2).flatMap cutQ = cut2 ⟨s0, s1, s2, s3⟩ ⟨q0, q1, q2, q3⟩) := by
                show _ = _
                rw [List.take_of_length_le (by rw [HQL.out]; omega), HC2.out]
              go_wp2
              go_roundw
              case rel => exact ⟨j + 1, by omega, by go_num, by rw [HCA.out, ← HC3.out]; exact hW7⟩
              case measure => simp [intOf]; omega
        · have hje : j = ps.length := by omega
          have HE : Hid (cutAll ⟨s0, s1, s2, s3⟩ (ps.take j) = parts0 (l.take (k + 1))) := by
            show _ = _
            rw [HNX.out, hje, List.take_length]
          have hji : ¬ (j : Int) < ps.length := by omega
          clear hje
          go_wp2
          go_roundw
          case rel => exact ⟨k + 1, by omega, by go_num, by rw [← HE.out]; exact hW.own, hW.bel⟩
          case measure => simp [intOf]; omega
    · obtain rfl : k = l.length := by omega
      rw [List.take_length] at hown
      have hps : (parts0 l).length ≤ 4096 := by
        refine Nat.le_trans (parts0_len _) ?_
        have h2 : 2 ^ l.length ≤ 2 ^ 10 := Nat.pow_le_pow_right (by omega) hl
        omega
      have hpos := parts0_pos l
      have HR : Hid ((srt (parts0 l) 256).1 = refL l) := rfl
      generalize parts0 l = ps at *
      rcases sets_of_owns hown with ⟨rfl, h0⟩ | ⟨g, cp, rfl, hgB, hgl, hsets⟩
      · omega
      have hso := sorted_any (some ⟨g, 0, none⟩) g 0 cp ps (fun _ => rfl) hps wr hsets
      rw [HR.out] at hso
      have HSO := Lib.hid hso
      clear hso
      go_wp2_with (go_at_call 29; refine HSO.out.mono ?_; rintro e W9 ⟨v, rfl, hown9, hb9⟩)
      go_ret
      exact ⟨v, rfl, ownsRow_mono hown9 hbel.size, ext_step hbel hb9⟩
end Go.Proofs.YtampjjllpdljaaaDoor
