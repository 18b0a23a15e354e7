/-
  'PartRefines', walked through the program: for whatever sets the statement's function returns true, and nothing that lay has turned.
-/
import Derived.Test.YtampjjllpdljaaaDoorSetW
import Derived.Test.YtampjjllpdljaaaDoorPartH
import Derived.Test.YtampjjllpdljaaaDoorPartT
set_option linter.unusedSimpArgs false
set_option linter.unusedVariables false
set_option maxRecDepth 100000
namespace Go.Proofs.YtampjjllpdljaaaDoor
open Go.RowKit

/-- what stands while the parts are looked at: the row of numbers, the set that grows, the parts -/
structure PrW (w : World) (A L g : Nat) (f : Nat → Nat) (R : List BS) (un : BS) (wr : World) : Prop where
  row : wr.heap[A]? = some (.cells (rowU f) 37 (0, 0))
  all : wr.heap[L]? = some (.cells (words un).toArray 24 (0, 0))
  sets : SetsAt wr g 0 R
  bel : Below w.heap.size w wr
  hg : g < wr.heap.size
  lo : w.heap.size ≤ L
theorem PrW.later {w : World} {A L g : Nat} {f : Nat → Nat} {R : List BS} {un : BS} {wr wr' : World} (h : PrW w A L g f R un wr) (hb : Below wr.heap.size wr wr') : PrW w A L g f R un wr' :=
  ⟨(hb.block _ (Array.getElem?_eq_some_iff.1 h.row).1).trans h.row, (hb.block _ (Array.getElem?_eq_some_iff.1 h.all).1).trans h.all, h.sets.same (hb.block _ h.hg), ext_step h.bel hb, by have := h.hg; have := hb.size; omega, h.lo⟩
theorem PrW.cells {w : World} {A L g : Nat} {f : Nat → Nat} {R : List BS} {s0 s1 s2 s3 : BitVec 64} {wr : World} (h : PrW w A L g f R ⟨s0, s1, s2, s3⟩ wr) : SetAt wr L 0 ⟨s0, s1, s2, s3⟩ :=
  ⟨by rw [cell_of_row _ _ _ _ _ _ h.all]; rfl, by rw [cell_of_row _ _ _ _ _ _ h.all]; rfl, by rw [cell_of_row _ _ _ _ _ _ h.all]; rfl, by rw [cell_of_row _ _ _ _ _ _ h.all]; rfl⟩
theorem SetAt.mk4 {wr : World} {L : Nat} {s : BS} (h : wr.heap[L]? = some (.cells (words s).toArray 24 (0, 0))) : SetAt wr L 0 s :=
  ⟨by rw [cell_of_row _ _ _ _ _ _ h]; rfl, by rw [cell_of_row _ _ _ _ _ _ h]; rfl, by rw [cell_of_row _ _ _ _ _ _ h]; rfl, by rw [cell_of_row _ _ _ _ _ _ h]; rfl⟩
def PrAt (w : World) (A L g : Nat) (f : Nat → Nat) (R : List BS) (la i : Value) (wr : World) : Prop :=
  ∃ k : Nat, k ≤ R.length ∧ i = .int .i64 k ∧ la = .int .i64 (lastTo R k) ∧ PrW w A L g f R (uniTo R k) wr
def Pr2At (w : World) (A L g bP : Nat) (f : Nat → Nat) (R : List BS) (un p : BS) (b : Value) (wr : World) : Prop :=
  ∃ k : Nat, k ≤ 256 ∧ b = .int .i64 k ∧ PrW w A L g f R un wr ∧ SetAt wr bP 0 p
/-- what stands while the bytes are looked at two by two -/
def PrX (w : World) (A : Nat) (f : Nat → Nat) (wr : World) : Prop := wr.heap[A]? = some (.cells (rowU f) 37 (0, 0)) ∧ Below w.heap.size w wr
theorem PrX.later {w : World} {A : Nat} {f : Nat → Nat} {wr wr' : World} (h : PrX w A f wr) (hb : Below wr.heap.size wr wr') : PrX w A f wr' :=
  ⟨(hb.block _ (Array.getElem?_eq_some_iff.1 h.1).1).trans h.1, ext_step h.2 hb⟩
def Pr3At (w : World) (A : Nat) (f : Nat → Nat) (a : Value) (wr : World) : Prop := ∃ k : Nat, k ≤ 256 ∧ a = .int .i64 k ∧ PrX w A f wr
def Pr4At (w : World) (A : Nat) (f : Nat → Nat) (b : Value) (wr : World) : Prop := ∃ k : Nat, k ≤ 263 ∧ b = .int .i64 k ∧ PrX w A f wr
def Pr5At (w : World) (A : Nat) (f : Nat → Nat) (l : List BS) (a b : Nat) (s i : Value) (wr : World) : Prop :=
  ∃ j : Nat, j ≤ l.length ∧ i = .int .i64 j ∧ s = .bool ((l.take j).all fun s => s.has a == s.has b) ∧ PrX w A f wr

set_option maxRecDepth 100000 in
set_option maxHeartbeats 8000000 in
theorem PartRefines_any (w : World) (p : Option Addr) (B off cap : Nat) (l : List BS) (hp : 0 < l.length → p = some ⟨B, off, none⟩) (hm : l.length ≤ 9223372036854775807) (hc : SetsAt w B off l) (hT : Tab w) :
    Calls Tryd.prog 4 #[.slice p l.length cap] w fun e w' => e = .returned (.bool true) ∧ Below w.heap.size w w' := by
  by_cases hbig : 8 < l.length
  · have hb' : (8 : Int) < l.length := by omega
    clear hp hc hbig hT
    go_enter Tryd.func4, Tryd.ntmps4
    go_wp2_with (go_at_call 15; refine (head2_any _).mono ?_; rintro e W0 ⟨rfl, hb0⟩)
    go_ret
    exact ⟨rfl, hb0⟩
  have hl : l.length ≤ 8 := by omega
  have hl' : (l.length : Int) ≤ 8 := by omega
  have hd1 : decide ((8 : Int) < l.length) = false := by simp; omega
  clear hbig hm
  have hlt : 0 < l.length → B < w.heap.size := fun h => (hc 0 h).lt
  have hrf : ∀ W : World, Below w.heap.size w W → Calls Tryd.prog 16 #[.slice p l.length cap] W fun e w' => ∃ g cp, e = .returned (.slice (some ⟨g, 0, none⟩) (refL l).length cp) ∧ g < w'.heap.size ∧ SetsAt w' g 0 (refL l) ∧ Below W.heap.size W w' :=
    fun W hb => (Refine_any p B off cap l hp (by omega) W (hc.later hb hlt)).mono fun e w' ⟨v, he, ho, hb2⟩ => by
      rcases sets_of_owns ho with ⟨_, h0⟩ | ⟨g, cp, hv, _, hg, hs⟩
      · have := (refL_ok l).pos; omega
      · exact ⟨g, cp, by rw [he, hv], hg, hs, hb2⟩
  have hok := refL_ok l
  have hix : ∀ (W : World) (g cp : Nat), SetsAt W g 0 (refL l) → Calls Tryd.prog 17 #[.slice (some ⟨g, 0, none⟩) (refL l).length cp] W fun e w' => e = .returned (.agg (rowU (idxTo (refL l) (refL l).length))) ∧ Below W.heap.size W w' :=
    fun W g cp hs => Index_any (some ⟨g, 0, none⟩) g 0 cp (refL l) (fun _ => rfl) (refL_len l) W hs
  have HIX := Lib.hid hix; have HRF := Lib.hid hrf; have HP := Lib.hid hp; have HC := Lib.hid hc; have HLT := Lib.hid hlt; have HT := Lib.hid hT
  clear hix hrf hp hc hlt hT
  generalize refL l = R at *
  have hRl : R.length ≤ 256 := hok.len
  obtain ⟨hzr, hsz⟩ := zero_of_info infoRow
  have HSZ := Lib.hid hsz
  clear hsz
  generalize hf : idxTo R R.length = f at *
  have HFF := Lib.hid hf
  clear hf
  have h256 : (rowU f).size = 256 := rowU_size _
  have hstc : ∀ W : World, (storeCells ⟨W.heap.size, 0, none⟩ (rowU f).toList 0).run Tryd.prog (W.alloc (.cells (rowU fun _ => 0) 37)) = .ok () (W.alloc (.cells (rowU f) 37)) := fun W =>
    run_storeCells_new W 37 (rowU fun _ => 0) (rowU f) (by rw [rowU_size]; exact HSZ.out) (by rw [rowU_size, rowU_size]) (rowU_one _)
  go_enter Tryd.func4, Tryd.ntmps4
  go_wp2_with (first | (go_at_call 15; refine (head2_any _).mono ?_; rintro e W0 ⟨rfl, hb0⟩) | (go_at_call 16; refine (HRF.out _ (by assumption)).mono ?_; rintro e W1 ⟨g, cp, rfl, hgl, hsa, hb1⟩) | (go_at_call 17; refine (HIX.out _ _ _ (by assumption)).mono ?_; rintro e W2 ⟨rfl, hb2⟩))
  have hb3 : Below W2.heap.size W2 ((W2.alloc (.cells (rowU f) 37)).alloc (.cells #[.int .u64 0, .int .u64 0, .int .u64 0, .int .u64 0] 24)) := by repeat (first | exact Below.refl _ _ | assumption | refine Below.drew ?_ | refine ext_drewN ?_ _ | refine ext_alloc ?_ _ | refine Below.setCell ?_ (by (try simp only [World.size_alloc, World.size_setCell, World.size_drew]); omega) _ | refine ext_step ?_ (by assumption))
  have hPr : PrW w W2.heap.size (W2.heap.size + 1) g f R BS.none ((W2.alloc (.cells (rowU f) 37)).alloc (.cells #[.int .u64 0, .int .u64 0, .int .u64 0, .int .u64 0] 24)) := by
    refine ⟨?_, ?_, (hsa.same (hb2.block g hgl)).same (hb3.block g (by have := hb2.size; omega)), ext_step (ext_step (ext_step hb0 hb1) hb2) hb3, by have := hb2.size; simp; omega, by have := (ext_step (ext_step hb0 hb1) hb2).size; omega⟩
    · exact heap_alloc2_old W2 _ _
    · exact heap_alloc2_new W2 _ _
  obtain ⟨A, hA⟩ : ∃ A, A = W2.heap.size := ⟨_, rfl⟩
  obtain ⟨L, hL⟩ : ∃ L, L = W2.heap.size + 1 := ⟨_, rfl⟩
  rw [← hL, ← hA] at hPr ⊢
  have HAL : Hid (L = A + 1) := by show _ = _; omega
  have hgA : g < A := by have := hb2.size; omega
  clear hb0 hb1 hb2 hb3 hsa hgl hstc h256 hzr hA hL
  have HOK := Lib.hid hok
  clear hok
  go_loopw [6, 28] (fun la i wr => PrAt w A L g f R la i wr) (fun _ i _ => R.length - (intOf i).toNat)
  case atStart => exact ⟨0, by omega, rfl, rfl, hPr⟩
  case round =>
    clear hPr
    obtain ⟨k, hk, rfl, rfl, hW⟩ := hrel
    have hT := HT.out.later hW.bel
    by_cases hkl : k < R.length
    · have hk0 : (0 : Int) ≤ k := by omega
      have hk1 : (k : Int) < R.length := by omega
      have hset := hW.sets k hkl
      rw [Nat.zero_add] at hset
      have hord := HOK.out.ord k hkl
      have hnn := HOK.out.some k hkl
      have hap := HOK.out.apart k hkl
      have HAT : Hid (∀ b, b < 256 → ((R.getD k BS.none).has b = true ↔ f b = k)) := fun b hb => by have := HOK.out.at_ k hkl b hb; rw [HFF.out] at this; exact this
      have HUN : Hid (uniTo R (k + 1) = (uniTo R k).or (R.getD k BS.none)) := rfl
      have HLA : Hid (lastTo R (k + 1) = ((R.getD k BS.none).least : Nat)) := rfl
      have hle : (R.getD k BS.none).least ≤ 255 := (least_spec _ hnn).2.2
      generalize R.getD k BS.none = q at *
      generalize uniTo R k = un at *
      generalize lastTo R k = la at *
      obtain ⟨q0, q1, q2, q3⟩ := q
      obtain ⟨n0, n1, n2, n3⟩ := un
      have HLE := Lib.hid (fun W (h : Tab W) => Least_any q0 q1 q2 q3 W h)
      generalize hls : (⟨q0, q1, q2, q3⟩ : BS).least = ls at *
      have hnb : decide ((⟨q0, q1, q2, q3⟩ : BS) ≠ BS.none) = true := decide_eq_true hnn
      have HNB := Lib.hid hnb
      have hem : decide ((⟨n0 &&& q0, n1 &&& q1, n2 &&& q2, n3 &&& q3⟩ : BS) = BS.none) = true := decide_eq_true hap
      have HEM := Lib.hid hem
      have hdl : decide ((ls : Int) ≤ la) = false := by simp; omega
      have hls0 : (0 : Int) ≤ ls := by omega
      have hls1 : (ls : Int) ≤ 255 := by omega
      obtain ⟨d0, d1, d2, d3⟩ := hset
      dsimp only at d0 d1 d2 d3
      clear hls hnb hem hnn hap
      have hT2 := (hT.alloc (.cells #[.int .u64 (wN q0), .int .u64 (wN q1), .int .u64 (wN q2), .int .u64 (wN q3)] 24))
      have HT2 := Lib.hid hT2
      clear hT hT2
      go_wp2_with fail
      refine (HLE.out _ HT2.out).mono ?_
      rintro e W3 ⟨rfl, hb3⟩
      rw [HNB.out]
      have hQ0 : SetAt (wr.alloc (.cells #[.int .u64 (wN q0), .int .u64 (wN q1), .int .u64 (wN q2), .int .u64 (wN q3)] 24)) wr.heap.size 0 ⟨q0, q1, q2, q3⟩ := by refine ⟨?_, ?_, ?_, ?_⟩ <;> simp [go_sem]
      have hP0 := hW.later (below_alloc wr (.cells #[.int .u64 (wN q0), .int .u64 (wN q1), .int .u64 (wN q2), .int .u64 (wN q3)] 24))
      have hQ3 := hQ0.same (hb3.block _ hQ0.lt)
      have hP3 := hP0.later hb3
      have hLP0 : L < wr.heap.size := (Array.getElem?_eq_some_iff.1 hW.all).1
      obtain ⟨bP, hbP⟩ : ∃ n, n = wr.heap.size := ⟨_, rfl⟩
      rw [← hbP] at hQ3 hLP0 ⊢
      clear hb3 hQ0 hP0 hbP d0 d1 d2 d3 hW
      obtain ⟨e0, e1, e2, e3⟩ := hP3.cells
      obtain ⟨d0, d1, d2, d3⟩ := id hQ3
      dsimp only at e0 e1 e2 e3 d0 d1 d2 d3
      go_wp2_with fail
      refine (And_any n0 n1 n2 n3 q0 q1 q2 q3 _).mono ?_
      rintro e W4 ⟨rfl, hb4⟩
      have hP4 := hP3.later hb4
      have hQ4 := hQ3.same (hb4.block _ hQ3.lt)
      clear hb4 hP3 hQ3 e0 e1 e2 e3 d0 d1 d2 d3
      go_wp2_with fail
      refine (Empty_b _ _ _ _ _).mono ?_
      rintro e W5 ⟨rfl, hb5⟩
      rw [HEM.out]
      have hP5 := hP4.later hb5
      have hQ5 := hQ4.same (hb5.block _ hQ4.lt)
      clear hb5 hP4 hQ4
      obtain ⟨e0, e1, e2, e3⟩ := hP5.cells
      obtain ⟨d0, d1, d2, d3⟩ := id hQ5
      dsimp only at e0 e1 e2 e3 d0 d1 d2 d3
      go_wp2_with fail
      refine (Or_any n0 n1 n2 n3 q0 q1 q2 q3 _).mono ?_
      rintro e W6 ⟨rfl, hb6⟩
      have hP6 := hP5.later hb6
      have hQ6 := hQ5.same (hb6.block _ hQ5.lt)
      clear hb6 hP5 hQ5 e0 e1 e2 e3 d0 d1 d2 d3
      go_wp2_with (refine wpList_store_row rfl _ _ _ rfl L (words (BS.or ⟨n0, n1, n2, n3⟩ ⟨q0, q1, q2, q3⟩)).toArray rfl rfl 24 _ hP6.all (by kernel_rfl) rfl (all_oneCell_toArray (words_one _)) ?_)
      have hPn : PrW w A L g f R (BS.or ⟨n0, n1, n2, n3⟩ ⟨q0, q1, q2, q3⟩) (W6.setRow L (words (BS.or ⟨n0, n1, n2, n3⟩ ⟨q0, q1, q2, q3⟩)).toArray) := by
        have hAL := HAL.out
        have hb : ∀ j, j ≠ L → (W6.setRow L (words (BS.or ⟨n0, n1, n2, n3⟩ ⟨q0, q1, q2, q3⟩)).toArray).heap[j]? = W6.heap[j]? := fun j hj => setRow_other _ _ _ _ hj
        refine ⟨(hb A (by omega)).trans hP6.row, setRow_heap _ _ _ _ _ _ hP6.all, hP6.sets.same (hb g (by omega)), ?_, by simpa using hP6.hg, hP6.lo⟩
        exact hP6.bel.trans ⟨rfl, rfl, rfl, by simp, fun j hj => hb j (by have := hP6.lo; omega)⟩
      have hQn : SetAt (W6.setRow L (words (BS.or ⟨n0, n1, n2, n3⟩ ⟨q0, q1, q2, q3⟩)).toArray) bP 0 ⟨q0, q1, q2, q3⟩ := hQ6.same (setRow_other _ _ _ _ (by omega))
      generalize W6.setRow L (words (BS.or ⟨n0, n1, n2, n3⟩ ⟨q0, q1, q2, q3⟩)).toArray = W7 at *
      clear hP6 hQ6
      go_loopw [11] (fun b wr2 => Pr2At w A L g bP f R (BS.or ⟨n0, n1, n2, n3⟩ ⟨q0, q1, q2, q3⟩) ⟨q0, q1, q2, q3⟩ b wr2) (fun b _ => 256 - (intOf b).toNat)
      case atStart => exact ⟨0, by omega, rfl, hPn, hQn⟩
      case round =>
        clear hPn hQn
        obtain ⟨b, hb, rfl, hP, hQ⟩ := hrel
        by_cases hb256 : b < 256
        · have hb0 : (0 : Int) ≤ b := by omega
          have hb1 : (b : Int) ≤ 255 := by omega
          have hfb : f b < R.length := by have := HFF.out; rw [← this]; exact idxTo_lt R b R.length (by omega)
          have hfb0 : (0 : Int) ≤ f b := by omega
          have hfb1 : (f b : Int) ≤ 255 := by omega
          have hcell : wr.cell? ⟨A, b, none⟩ = some (.int .u8 (f b : Int)) := by rw [cell_of_row _ _ _ _ _ _ hP.row, rowU_get _ _ hb256]
          have hxq := HAT.out b hb256
          obtain ⟨x, hx⟩ : ∃ x, (⟨q0, q1, q2, q3⟩ : BS).has b = x := ⟨_, rfl⟩
          have hfx : ((f b : Int) == (k : Int)) = x := by
            rw [hx] at hxq
            cases x with
            | true => rw [beq_iff_eq]; have := hxq.1 rfl; omega
            | false => rw [beq_eq_false_iff_ne]; intro e; have := hxq.2 (by omega); cases this
          have hxx : (x != x) = false := by cases x <;> rfl
          have HX := Lib.hid hx
          clear hxq hx
          obtain ⟨S, hS⟩ : ∃ S : World → Prop, ∀ W', S W' ↔ (SetAt W' bP 0 ⟨q0, q1, q2, q3⟩ ∧ W'.cell? ⟨A, b, none⟩ = some (.int .u8 (f b : Int))) := ⟨_, fun _ => Iff.rfl⟩
          have HS := Lib.hid hS
          clear hS
          have cs : ∀ p : InC S, (p.w.cell? ⟨bP, 0, none⟩ = some (.int .u64 (wN q0)) ∧ p.w.cell? ⟨bP, 1, none⟩ = some (.int .u64 (wN q1)) ∧ p.w.cell? ⟨bP, 2, none⟩ = some (.int .u64 (wN q2)) ∧ p.w.cell? ⟨bP, 3, none⟩ = some (.int .u64 (wN q3))) ∧ p.w.cell? ⟨A, b, none⟩ = some (.int .u8 (f b : Int)) := fun p => (HS.out p.w).1 p.h
          have hAl : A < wr.heap.size := (Array.getElem?_eq_some_iff.1 hP.row).1
          have hQl := hQ.lt
          have hSl : ∀ W' : World, Below wr.heap.size wr W' → S W' := fun W' hb => (HS.out _).2 ⟨hQ.same (hb.block _ hQl), (hb.cell (p := ⟨A, b, none⟩) hAl).trans hcell⟩
          have hD : Below wr.heap.size wr wr.drew := (Below.refl _ _).drew
          have hne : Nonempty (InC S) := ⟨⟨_, hSl _ hD⟩⟩
          clear hcell
          go_wp2_with fail
          refine wp_region_mix S [0, 1, 2, 4, 5, 6, 7, 8, 9, 10] [0, 1, 2, 4, 5, 6, 7, 8, 9, 3, 10] (by kernel_rfl) (by kernel_rfl) (hSl _ hD) ?_
          (repeat (refine wpMix_read rfl rfl ?_; go_big_quiet_step (fail); refine wpQuiet_nil ?_))
          refine wpMix_eff (k := true) rfl rfl (by kernel_rfl) ?_
          go_wp2_with (go_at_call 18; refine (Has_any q0 q1 q2 q3 b hb0 hb1 _).mono ?_; rintro e w' ⟨rfl, rfl⟩; rw [Int.toNat_natCast, HX.out])
          have hD2 := ext_step hD (below_alloc wr.drew (.cells #[.int .u64 (wN q0), .int .u64 (wN q1), .int .u64 (wN q2), .int .u64 (wN q3)] 24))
          have hD3 : Below wr.heap.size wr (wr.alloc (.cells #[.int .u64 (wN q0), .int .u64 (wN q1), .int .u64 (wN q2), .int .u64 (wN q3)] 24)).drew := hD2
          refine mixPost_keep (hSl _ hD3) ?_
          (repeat (refine wpMix_read rfl rfl ?_; go_big_quiet_step (fail); refine wpQuiet_nil ?_))
          refine wpMix_nil ?_
          have hPn := hP.later hD3
          have hQn := hQ.same (hD3.block _ hQl)
          clear hne cs hSl hD hD2 hD3 hAl hQl
          go_wp2
          go_roundw
          case rel => exact ⟨b + 1, by omega, by go_num, hPn, hQn⟩
          case measure => simp [intOf]; omega
        · have hbe : ¬ (b : Int) < 256 := by omega
          go_wp2
          go_roundw
          case rel => exact ⟨k + 1, by omega, by go_num, by rw [HLA.out], by rw [HUN.out]; exact hP⟩
          case measure => simp [intOf]; omega
    · have hke : k = R.length := by omega
      have hkn : ¬ (k : Int) < R.length := by omega
      have HA : Hid (uniTo R k = BS.all) := by show _ = _; rw [hke]; exact HOK.out.all
      rw [HA.out] at hW
      clear hke
      go_wp2_with fail
      have heq := eq_words
      have q1 : ∀ x : BitVec 64, (wN x == wN x) = true := wN_refl
      have hA4 : SetAt wr L 0 BS.all := SetAt.mk4 hW.all
      obtain ⟨S, hS⟩ : ∃ S : World → Prop, ∀ W', S W' ↔ SetAt W' L 0 BS.all := ⟨_, fun _ => Iff.rfl⟩
      have HS := Lib.hid hS
      clear hS
      have cs : ∀ p : InC S, p.w.cell? ⟨L, 0, none⟩ = some (.int .u64 (wN fullW)) ∧ p.w.cell? ⟨L, 1, none⟩ = some (.int .u64 (wN fullW)) ∧ p.w.cell? ⟨L, 2, none⟩ = some (.int .u64 (wN fullW)) ∧ p.w.cell? ⟨L, 3, none⟩ = some (.int .u64 (wN fullW)) := fun p => (HS.out p.w).1 p.h
      have hLl := hA4.lt
      have hSl : ∀ W' : World, Below wr.heap.size wr W' → S W' := fun W' hb => (HS.out _).2 (hA4.same (hb.block _ hLl))
      have hD : Below wr.heap.size wr wr.drew := (Below.refl _ _).drew
      have hne : Nonempty (InC S) := ⟨⟨_, hSl _ hD⟩⟩
      refine wp_region_mix S [0, 2] [0, 1, 2] (by kernel_rfl) (by kernel_rfl) (hSl _ hD) ?_
      (repeat (refine wpMix_read rfl rfl ?_; go_big_quiet_step (fail); refine wpQuiet_nil ?_))
      refine wpMix_eff (k := true) rfl rfl (by kernel_rfl) ?_
      go_wp2_with (go_at_call 19; refine (All_any _).mono ?_; rintro e W8 ⟨rfl, hb8⟩)
      have hD8 := ext_step hD hb8
      refine mixPost_keep (hSl _ hD8) ?_
      (repeat (refine wpMix_read rfl rfl ?_; go_big_quiet_step (fail); refine wpQuiet_nil ?_))
      refine wpMix_nil ?_
      have hX : PrX w A f W8 := by have h := hW.later hD8; exact ⟨h.row, h.bel⟩
      clear hne cs hSl hD hD8 hb8 hA4 hLl hW heq q1
      go_wp2_with fail
      go_loopw [12] (fun a wr => Pr3At w A f a wr) (fun a _ => 256 - (intOf a).toNat)
      case atStart => exact ⟨0, by omega, rfl, hX⟩
      case round =>
        clear hX
        obtain ⟨a, ha, rfl, hX⟩ := hrel
        by_cases ha2 : a < 256
        · have ha0 : (0 : Int) ≤ a := by omega
          have ha1 : (a : Int) ≤ 255 := by omega
          have had : decide ((a : Int) < 256) = true := by simp; omega
          go_wp2_with fail
          clear had
          go_loopw [13] (fun b wr => Pr4At w A f b wr) (fun b _ => 263 - (intOf b).toNat)
          case atStart => exact ⟨a + 1, by omega, by go_num, hX⟩
          case round =>
            clear hX
            obtain ⟨b, hb, rfl, hX⟩ := hrel
            by_cases hb2 : b < 256
            · have hb0 : (0 : Int) ≤ b := by omega
              have hb1 : (b : Int) ≤ 255 := by omega
              have hbd : decide ((b : Int) < 256) = true := by simp; omega
              go_wp2_with fail
              clear hbd
              go_loopw [14, 89] (fun s i wr => Pr5At w A f l a b s i wr) (fun _ i _ => l.length - (intOf i).toNat)
              case atStart => exact ⟨0, by omega, rfl, rfl, hX⟩
              case round =>
                clear hX
                obtain ⟨j, hj, rfl, rfl, hX⟩ := hrel
                by_cases hjl : j < l.length
                · have e := HP.out (by omega)
                  subst e
                  have hset := (HC.out j hjl).same (hX.2.block B (HLT.out (by omega)))
                  have HNX : Hid ((l.take (j + 1)).all (fun s => s.has a == s.has b) = ((l.take j).all (fun s => s.has a == s.has b) && ((l.getD j BS.none).has a == (l.getD j BS.none).has b))) := by
                    show _ = _
                    rw [take_snocB l j hjl, List.all_append]; simp
                  generalize l.getD j BS.none = q at *
                  generalize (l.take j).all (fun s => s.has a == s.has b) = sj at *
                  obtain ⟨q0, q1, q2, q3⟩ := q
                  obtain ⟨x, hx⟩ : ∃ x, (⟨q0, q1, q2, q3⟩ : BS).has a = x := ⟨_, rfl⟩
                  obtain ⟨y, hy⟩ : ∃ y, (⟨q0, q1, q2, q3⟩ : BS).has b = y := ⟨_, rfl⟩
                  rw [hx, hy] at HNX
                  have HXA := Lib.hid hx; have HXB := Lib.hid hy
                  clear hx hy
                  obtain ⟨d0, d1, d2, d3⟩ := hset
                  dsimp only at d0 d1 d2 d3
                  have hj0 : (0 : Int) ≤ j := by omega
                  go_wp2_with fail
                  have hQ0 : SetAt (wr.alloc (.cells #[.int .u64 (wN q0), .int .u64 (wN q1), .int .u64 (wN q2), .int .u64 (wN q3)] 24)) wr.heap.size 0 ⟨q0, q1, q2, q3⟩ := by refine ⟨?_, ?_, ?_, ?_⟩ <;> simp [go_sem]
                  have hX0 := hX.later (below_alloc wr (.cells #[.int .u64 (wN q0), .int .u64 (wN q1), .int .u64 (wN q2), .int .u64 (wN q3)] 24))
                  obtain ⟨bQ, hbQ⟩ : ∃ n, n = wr.heap.size := ⟨_, rfl⟩
                  rw [← hbQ] at hQ0 ⊢
                  generalize wr.alloc (.cells #[.int .u64 (wN q0), .int .u64 (wN q1), .int .u64 (wN q2), .int .u64 (wN q3)] 24) = W9 at *
                  clear hX hbQ d0 d1 d2 d3
                  obtain ⟨S, hS⟩ : ∃ S : World → Prop, ∀ W', S W' ↔ SetAt W' bQ 0 ⟨q0, q1, q2, q3⟩ := ⟨_, fun _ => Iff.rfl⟩
                  have HS := Lib.hid hS
                  clear hS
                  have cs : ∀ p : InC S, p.w.cell? ⟨bQ, 0, none⟩ = some (.int .u64 (wN q0)) ∧ p.w.cell? ⟨bQ, 1, none⟩ = some (.int .u64 (wN q1)) ∧ p.w.cell? ⟨bQ, 2, none⟩ = some (.int .u64 (wN q2)) ∧ p.w.cell? ⟨bQ, 3, none⟩ = some (.int .u64 (wN q3)) := fun p => (HS.out p.w).1 p.h
                  have hQl := hQ0.lt
                  have hSl : ∀ W' : World, Below W9.heap.size W9 W' → S W' := fun W' hb => (HS.out _).2 (hQ0.same (hb.block _ hQl))
                  have hD : Below W9.heap.size W9 W9.drew := (Below.refl _ _).drew
                  have hne : Nonempty (InC S) := ⟨⟨_, hSl _ hD⟩⟩
                  cases sj with
                  | true =>
                    refine wp_region_mix S [0, 1, 2, 3, 4, 6, 7, 8, 10, 11, 12] [0, 1, 2, 3, 4, 6, 7, 8, 5, 9, 10, 11, 12] (by kernel_rfl) (by kernel_rfl) (hSl _ hD) ?_
                    (repeat (refine wpMix_read rfl rfl ?_; go_big_quiet_step (fail); refine wpQuiet_nil ?_))
                    refine wpMix_eff (k := true) rfl rfl (by kernel_rfl) ?_
                    go_wp2_with (go_at_call 18; refine (Has_any q0 q1 q2 q3 a ha0 ha1 _).mono ?_; rintro e w' ⟨rfl, rfl⟩; rw [Int.toNat_natCast, HXA.out])
                    have hD2 : Below W9.heap.size W9 (W9.alloc (.cells #[.int .u64 (wN q0), .int .u64 (wN q1), .int .u64 (wN q2), .int .u64 (wN q3)] 24)).drew := by repeat (first | exact Below.refl _ _ | assumption | refine Below.drew ?_ | refine ext_drewN ?_ _ | refine ext_alloc ?_ _ | refine Below.setCell ?_ (by (try simp only [World.size_alloc, World.size_setCell, World.size_drew]); omega) _ | refine ext_step ?_ (by assumption))
                    refine mixPost_keep (hSl _ hD2) ?_
                    refine wpMix_eff (k := true) rfl rfl (by kernel_rfl) ?_
                    go_wp2_with (go_at_call 18; refine (Has_any q0 q1 q2 q3 b hb0 hb1 _).mono ?_; rintro e w' ⟨rfl, rfl⟩; rw [Int.toNat_natCast, HXB.out])
                    have hD3 : Below W9.heap.size W9 ((W9.alloc (.cells #[.int .u64 (wN q0), .int .u64 (wN q1), .int .u64 (wN q2), .int .u64 (wN q3)] 24)).alloc (.cells #[.int .u64 (wN q0), .int .u64 (wN q1), .int .u64 (wN q2), .int .u64 (wN q3)] 24)).drew := by repeat (first | exact Below.refl _ _ | assumption | refine Below.drew ?_ | refine ext_drewN ?_ _ | refine ext_alloc ?_ _ | refine Below.setCell ?_ (by (try simp only [World.size_alloc, World.size_setCell, World.size_drew]); omega) _ | refine ext_step ?_ (by assumption))
                    refine mixPost_keep (hSl _ hD3) ?_
                    (repeat (refine wpMix_read rfl rfl ?_; go_big_quiet_step (fail); refine wpQuiet_nil ?_))
                    refine wpMix_nil ?_
                    have hXn := hX0.later hD3
                    clear hne cs hSl hD hD2 hD3 hQl hX0 hQ0
                    go_wp2
                    go_roundw
                    case rel => exact ⟨j + 1, by omega, by go_num, by rw [HNX.out]; rfl, hXn⟩
                    case measure => simp [intOf]; omega
                  | false =>
                    clear hne cs hSl hD hQl hQ0
                    have hne : Nonempty (InC (PrX w A f)) := ⟨⟨W9, hX0⟩⟩
                    refine wp_region_class (PrX w A f) (by kernel_rfl) (by kernel_rfl) ⟨hX0.1, hX0.2.drew⟩ ?_
                    repeat (go_big_quiet_step (fail))
                    refine wpQuiet_nil ?_
                    intro pw
                    have hXn := pw.h
                    generalize pw.w = W10 at hXn
                    clear hne hX0
                    go_wp2
                    go_roundw
                    case rel => exact ⟨j + 1, by omega, by go_num, by rw [HNX.out]; rfl, hXn⟩
                    case measure => simp [intOf]; omega
                · have hje : j = l.length := by omega
                  have hjn : ¬ (j : Int) < l.length := by omega
                  have HSE : Hid ((l.take j).all (fun s => s.has a == s.has b) = ((f a : Int) == (f b : Int))) := by
                    show _ = _
                    rw [hje, List.take_length, Bool.eq_iff_iff, sameB, ← HOK.out.same a b ha2 hb2, HFF.out, beq_iff_eq]
                    omega
                  rw [HSE.out]
                  clear hje
                  have hc1 : wr.cell? ⟨A, a, none⟩ = some (.int .u8 (f a : Int)) := by rw [cell_of_row _ _ _ _ _ _ hX.1, rowU_get _ _ ha2]
                  have hc2 : wr.cell? ⟨A, b, none⟩ = some (.int .u8 (f b : Int)) := by rw [cell_of_row _ _ _ _ _ _ hX.1, rowU_get _ _ hb2]
                  obtain ⟨S, hS⟩ : ∃ S : World → Prop, ∀ W', S W' ↔ (W'.cell? ⟨A, a, none⟩ = some (.int .u8 (f a : Int)) ∧ W'.cell? ⟨A, b, none⟩ = some (.int .u8 (f b : Int))) := ⟨_, fun _ => Iff.rfl⟩
                  have HS := Lib.hid hS
                  clear hS
                  have cs : ∀ p : InC S, p.w.cell? ⟨A, a, none⟩ = some (.int .u8 (f a : Int)) ∧ p.w.cell? ⟨A, b, none⟩ = some (.int .u8 (f b : Int)) := fun p => (HS.out p.w).1 p.h
                  have hS0 : S wr.drew := (HS.out _).2 ⟨hc1, hc2⟩
                  have hne : Nonempty (InC S) := ⟨⟨_, hS0⟩⟩
                  clear hc1 hc2
                  obtain ⟨z, hz⟩ : ∃ z, ((f a : Int) == (f b : Int)) = z := ⟨_, rfl⟩
                  have hzz : (z != z) = false := by cases z <;> rfl
                  go_wp2_with fail
                  refine wp_region_mix S [0, 1, 2, 3, 4, 5, 6, 7, 8] [0, 1, 2, 3, 4, 5, 6, 7, 8] (by kernel_rfl) (by kernel_rfl) hS0 ?_
                  (repeat (refine wpMix_read rfl rfl ?_; go_big_quiet_step (fail); refine wpQuiet_nil ?_))
                  refine wpMix_nil ?_
                  have hXn : PrX w A f wr.drew := ⟨hX.1, hX.2.drew⟩
                  clear hne cs hS0 hX
                  go_wp2
                  go_roundw
                  case rel => exact ⟨b + 7, by omega, by go_num, hXn⟩
                  case measure => simp [intOf]; omega
            · have hbn : ¬ (b : Int) < 256 := by omega
              go_wp2
              go_roundw
              case rel => exact ⟨a + 1, by omega, by go_num, hX⟩
              case measure => simp [intOf]; omega
        · have han : ¬ (a : Int) < 256 := by omega
          go_wp2
          go_ret
          exact ⟨rfl, hX.2⟩
end Go.Proofs.YtampjjllpdljaaaDoor
