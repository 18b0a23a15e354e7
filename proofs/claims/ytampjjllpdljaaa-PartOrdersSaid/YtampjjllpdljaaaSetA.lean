/-
  The laws of sets, walked through the program: for whatever three sets the statement's function returns true, and nothing that lay has turned.
-/
import Derived.Test.YtampjjllpdljaaaSetH
import Derived.Test.YtampjjllpdljaaaGrow
set_option linter.unusedSimpArgs false
set_option linter.unusedVariables false
namespace Go.Proofs.Ytampjjllpdljaaa
open Go.RowKit

theorem wN_refl (x : BitVec 64) : (wN x == wN x) = true := by simp
/-- three boxes beside one another -/
structure Box3 (n : Nat) (s t u : BS) (w : World) : Prop where
  x : BoxS w n s
  y : BoxS w (n + 1) t
  z : BoxS w (n + 2) u
  lt : n + 2 < w.heap.size
theorem Box3.drew {n : Nat} {s t u : BS} {w : World} (h : Box3 n s t u w) : Box3 n s t u w.drew := ⟨h.x, h.y, h.z, h.lt⟩
theorem Box3.conj {n : Nat} {s t u : BS} {w : World} (h : Box3 n s t u w) : w.cell? ⟨n, 0, none⟩ = some (.int .u64 (wN s.a)) ∧ w.cell? ⟨n, 1, none⟩ = some (.int .u64 (wN s.b)) ∧ w.cell? ⟨n, 2, none⟩ = some (.int .u64 (wN s.c)) ∧ w.cell? ⟨n, 3, none⟩ = some (.int .u64 (wN s.d)) ∧ w.cell? ⟨n + 1, 0, none⟩ = some (.int .u64 (wN t.a)) ∧ w.cell? ⟨n + 1, 1, none⟩ = some (.int .u64 (wN t.b)) ∧ w.cell? ⟨n + 1, 2, none⟩ = some (.int .u64 (wN t.c)) ∧ w.cell? ⟨n + 1, 3, none⟩ = some (.int .u64 (wN t.d)) ∧ w.cell? ⟨n + 1 + 1, 0, none⟩ = some (.int .u64 (wN u.a)) ∧ w.cell? ⟨n + 1 + 1, 1, none⟩ = some (.int .u64 (wN u.b)) ∧ w.cell? ⟨n + 1 + 1, 2, none⟩ = some (.int .u64 (wN u.c)) ∧ w.cell? ⟨n + 1 + 1, 3, none⟩ = some (.int .u64 (wN u.d)) :=
  ⟨h.x.1, h.x.2.1, h.x.2.2.1, h.x.2.2.2, h.y.1, h.y.2.1, h.y.2.2.1, h.y.2.2.2, h.z.1, h.z.2.1, h.z.2.2.1, h.z.2.2.2⟩
theorem Box3.later {n : Nat} {s t u : BS} {w w1 : World} (h : Box3 n s t u w) (hb : Below w.heap.size w w1) : Box3 n s t u w1 :=
  ⟨h.x.later hb (by have := h.lt; omega), h.y.later hb (by have := h.lt; omega), h.z.later hb h.lt, by have := h.lt; have := hb.size; omega⟩
def cellsOf (w : World) (n : Nat) (s : BS) : Prop := w.cell? ⟨n, 0, none⟩ = some (.int .u64 (wN s.a)) ∧ w.cell? ⟨n, 1, none⟩ = some (.int .u64 (wN s.b)) ∧ w.cell? ⟨n, 2, none⟩ = some (.int .u64 (wN s.c)) ∧ w.cell? ⟨n, 3, none⟩ = some (.int .u64 (wN s.d))
theorem Box3.all {n : Nat} {s t u : BS} {w : World} (h : Box3 n s t u w) : cellsOf w n s ∧ cellsOf w (n + 1) t ∧ cellsOf w (n + 1 + 1) u ∧ n + 2 < w.heap.size := ⟨h.x, h.y, h.z, h.lt⟩
theorem BS.len_le (s : BS) : s.len ≤ 256 := by
  have h0 := pop_le 64 s.a.toNat; have h1 := pop_le 64 s.b.toNat; have h2 := pop_le 64 s.c.toNat; have h3 := pop_le 64 s.d.toNat
  unfold BS.len; omega
theorem wN_eq {x y : BitVec 64} (h : x = y) : (wN x == wN y) = true := by rw [h]; simp
theorem bv_and_comm (x y : BitVec 64) : (wN (x &&& y) == wN (y &&& x)) = true := wN_eq (BitVec.and_comm x y)
theorem bv_or_comm (x y : BitVec 64) : (wN (x ||| y) == wN (y ||| x)) = true := wN_eq (BitVec.or_comm x y)
theorem bv_demorgan (x y : BitVec 64) : (wN (~~~(x &&& y)) == wN (~~~x ||| ~~~y)) = true := wN_eq (by
  apply BitVec.eq_of_getLsbD_eq; intro i hi; simp [hi])
theorem bv_distrib (x y z : BitVec 64) : (wN (x &&& (y ||| z)) == wN (x &&& y ||| x &&& z)) = true := wN_eq (by
  apply BitVec.eq_of_getLsbD_eq; intro i hi; simp only [BitVec.getLsbD_and, BitVec.getLsbD_or]; cases x.getLsbD i <;> simp)
theorem bv_full (x : BitVec 64) : (wN (x ||| ~~~x) == wN fullW) = true := wN_eq (by
  unfold fullW; apply BitVec.eq_of_getLsbD_eq; intro i hi; rw [BitVec.getLsbD_or, BitVec.getLsbD_not, BitVec.getLsbD_not]; cases x.getLsbD i <;> simp [hi])
theorem bv_full' : (wN (BitVec.allOnes 64) == wN fullW) = true := wN_eq (by unfold fullW; decide)
theorem bs_none (x y z v : BitVec 64) : decide ((⟨x &&& ~~~x, y &&& ~~~y, z &&& ~~~z, v &&& ~~~v⟩ : BS) = BS.none) = true := by
  apply decide_eq_true
  have h : ∀ q : BitVec 64, q &&& ~~~q = 0 := fun q => by apply BitVec.eq_of_getLsbD_eq; intro i hi; simp [hi]
  rw [h, h, h, h]; rfl

theorem Empty_b (a0 a1 a2 a3 : BitVec 64) (w : World) :
    Calls Try.prog 14 #[.agg #[.int .u64 (wN a0), .int .u64 (wN a1), .int .u64 (wN a2), .int .u64 (wN a3)]] w fun e w' => e = .returned (.bool (decide ((⟨a0, a1, a2, a3⟩ : BS) = BS.none))) ∧ Below w.heap.size w w' :=
  (Empty_any a0 a1 a2 a3 w).mono fun _ _ h => ⟨h.1, by rw [h.2]; exact ext_alloc (Below.refl _ _) _⟩
theorem Len_b (a0 a1 a2 a3 : BitVec 64) (w : World) :
    Calls Try.prog 15 #[.agg #[.int .u64 (wN a0), .int .u64 (wN a1), .int .u64 (wN a2), .int .u64 (wN a3)]] w fun e w' => e = .returned (.int .i64 ((⟨a0, a1, a2, a3⟩ : BS).len : Nat)) ∧ Below w.heap.size w w' :=
  (Len_any a0 a1 a2 a3 w).mono fun _ _ h => ⟨h.1, by rw [h.2]; exact ext_alloc (Below.refl _ _) _⟩
/-- the worlds in which the three boxes stand and what lay lies as it lay -/
def LawC (n : Nat) (s t u : BS) (w0 W : World) : Prop := Box3 n s t u W ∧ Below w0.heap.size w0 W
theorem LawC.later {n : Nat} {s t u : BS} {w0 W W' : World} (h : LawC n s t u w0 W) (hb : Below W.heap.size W W') : LawC n s t u w0 W' := ⟨h.1.later hb, ext_step h.2 hb⟩
theorem LawC.c0 {n : Nat} {s t u : BS} {w0 : World} (p : InC (LawC n s t u w0)) : p.w.cell? ⟨n, 0, none⟩ = some (.int .u64 (wN s.a)) := p.h.1.conj.1
theorem LawC.c1 {n : Nat} {s t u : BS} {w0 : World} (p : InC (LawC n s t u w0)) : p.w.cell? ⟨n, 1, none⟩ = some (.int .u64 (wN s.b)) := p.h.1.conj.2.1
theorem LawC.c2 {n : Nat} {s t u : BS} {w0 : World} (p : InC (LawC n s t u w0)) : p.w.cell? ⟨n, 2, none⟩ = some (.int .u64 (wN s.c)) := p.h.1.conj.2.2.1
theorem LawC.c3 {n : Nat} {s t u : BS} {w0 : World} (p : InC (LawC n s t u w0)) : p.w.cell? ⟨n, 3, none⟩ = some (.int .u64 (wN s.d)) := p.h.1.conj.2.2.2.1
theorem LawC.c4 {n : Nat} {s t u : BS} {w0 : World} (p : InC (LawC n s t u w0)) : p.w.cell? ⟨n + 1, 0, none⟩ = some (.int .u64 (wN t.a)) := p.h.1.conj.2.2.2.2.1
theorem LawC.c5 {n : Nat} {s t u : BS} {w0 : World} (p : InC (LawC n s t u w0)) : p.w.cell? ⟨n + 1, 1, none⟩ = some (.int .u64 (wN t.b)) := p.h.1.conj.2.2.2.2.2.1
theorem LawC.c6 {n : Nat} {s t u : BS} {w0 : World} (p : InC (LawC n s t u w0)) : p.w.cell? ⟨n + 1, 2, none⟩ = some (.int .u64 (wN t.c)) := p.h.1.conj.2.2.2.2.2.2.1
theorem LawC.c7 {n : Nat} {s t u : BS} {w0 : World} (p : InC (LawC n s t u w0)) : p.w.cell? ⟨n + 1, 3, none⟩ = some (.int .u64 (wN t.d)) := p.h.1.conj.2.2.2.2.2.2.2.1
theorem LawC.c8 {n : Nat} {s t u : BS} {w0 : World} (p : InC (LawC n s t u w0)) : p.w.cell? ⟨n + 1 + 1, 0, none⟩ = some (.int .u64 (wN u.a)) := p.h.1.conj.2.2.2.2.2.2.2.2.1
theorem LawC.c9 {n : Nat} {s t u : BS} {w0 : World} (p : InC (LawC n s t u w0)) : p.w.cell? ⟨n + 1 + 1, 1, none⟩ = some (.int .u64 (wN u.b)) := p.h.1.conj.2.2.2.2.2.2.2.2.2.1
theorem LawC.c10 {n : Nat} {s t u : BS} {w0 : World} (p : InC (LawC n s t u w0)) : p.w.cell? ⟨n + 1 + 1, 2, none⟩ = some (.int .u64 (wN u.c)) := p.h.1.conj.2.2.2.2.2.2.2.2.2.2.1
theorem LawC.c11 {n : Nat} {s t u : BS} {w0 : World} (p : InC (LawC n s t u w0)) : p.w.cell? ⟨n + 1 + 1, 3, none⟩ = some (.int .u64 (wN u.d)) := p.h.1.conj.2.2.2.2.2.2.2.2.2.2.2
set_option maxRecDepth 100000 in
set_option maxHeartbeats 16000000 in
theorem SetLaws_core (an ro mi : BitVec 64 → BitVec 64 → BitVec 64) (nt : BitVec 64 → BitVec 64) (fu : BitVec 64) (em : BS → Bool) (L : BS → Nat)
    (HAnd : Hid (∀ (x0 x1 x2 x3 y0 y1 y2 y3 : BitVec 64) (w : World), Calls Try.prog 9 #[.agg #[.int .u64 (wN (x0)), .int .u64 (wN (x1)), .int .u64 (wN (x2)), .int .u64 (wN (x3))], .agg #[.int .u64 (wN (y0)), .int .u64 (wN (y1)), .int .u64 (wN (y2)), .int .u64 (wN (y3))]] w fun e w' => e = .returned (.agg #[.int .u64 (wN (an x0 y0)), .int .u64 (wN (an x1 y1)), .int .u64 (wN (an x2 y2)), .int .u64 (wN (an x3 y3))]) ∧ Below w.heap.size w w'))
    (HOr : Hid (∀ (x0 x1 x2 x3 y0 y1 y2 y3 : BitVec 64) (w : World), Calls Try.prog 10 #[.agg #[.int .u64 (wN (x0)), .int .u64 (wN (x1)), .int .u64 (wN (x2)), .int .u64 (wN (x3))], .agg #[.int .u64 (wN (y0)), .int .u64 (wN (y1)), .int .u64 (wN (y2)), .int .u64 (wN (y3))]] w fun e w' => e = .returned (.agg #[.int .u64 (wN (ro x0 y0)), .int .u64 (wN (ro x1 y1)), .int .u64 (wN (ro x2 y2)), .int .u64 (wN (ro x3 y3))]) ∧ Below w.heap.size w w'))
    (HMinus : Hid (∀ (x0 x1 x2 x3 y0 y1 y2 y3 : BitVec 64) (w : World), Calls Try.prog 12 #[.agg #[.int .u64 (wN (x0)), .int .u64 (wN (x1)), .int .u64 (wN (x2)), .int .u64 (wN (x3))], .agg #[.int .u64 (wN (y0)), .int .u64 (wN (y1)), .int .u64 (wN (y2)), .int .u64 (wN (y3))]] w fun e w' => e = .returned (.agg #[.int .u64 (wN (mi x0 y0)), .int .u64 (wN (mi x1 y1)), .int .u64 (wN (mi x2 y2)), .int .u64 (wN (mi x3 y3))]) ∧ Below w.heap.size w w'))
    (HNot : Hid (∀ (x0 x1 x2 x3 : BitVec 64) (w : World), Calls Try.prog 11 #[.agg #[.int .u64 (wN (x0)), .int .u64 (wN (x1)), .int .u64 (wN (x2)), .int .u64 (wN (x3))]] w fun e w' => e = .returned (.agg #[.int .u64 (wN (nt x0)), .int .u64 (wN (nt x1)), .int .u64 (wN (nt x2)), .int .u64 (wN (nt x3))]) ∧ Below w.heap.size w w'))
    (HAll : Hid (∀ (w : World), Calls Try.prog 13 #[] w fun e w' => e = .returned (.agg #[.int .u64 (wN (fu)), .int .u64 (wN (fu)), .int .u64 (wN (fu)), .int .u64 (wN (fu))]) ∧ Below w.heap.size w w'))
    (HEmpty : Hid (∀ (x0 x1 x2 x3 : BitVec 64) (w : World), Calls Try.prog 14 #[.agg #[.int .u64 (wN (x0)), .int .u64 (wN (x1)), .int .u64 (wN (x2)), .int .u64 (wN (x3))]] w fun e w' => e = .returned (.bool (em ⟨x0, x1, x2, x3⟩)) ∧ Below w.heap.size w w'))
    (HLen : Hid (∀ (x0 x1 x2 x3 : BitVec 64) (w : World), Calls Try.prog 15 #[.agg #[.int .u64 (wN (x0)), .int .u64 (wN (x1)), .int .u64 (wN (x2)), .int .u64 (wN (x3))]] w fun e w' => e = .returned (.int .i64 (L ⟨x0, x1, x2, x3⟩ : Nat)) ∧ Below w.heap.size w w'))
    (q1 : ∀ x y, (wN (an x y) == wN (an y x)) = true) (q2 : ∀ x y, (wN (ro x y) == wN (ro y x)) = true) (q3 : ∀ x, (wN (nt (nt x)) == wN x) = true)
    (q4 : ∀ x y, (wN (nt (an x y)) == wN (ro (nt x) (nt y))) = true) (q5 : ∀ x y z, (wN (an x (ro y z)) == wN (ro (an x y) (an x z))) = true)
    (q6 : ∀ x y, (wN (mi x y) == wN (an x (nt y))) = true) (q7 : ∀ x, (wN (ro x (nt x)) == wN fu) = true) (q8 : ∀ x y z v, em ⟨an x (nt x), an y (nt y), an z (nt z), an v (nt v)⟩ = true)
    (a0 a1 a2 a3 b0 b1 b2 b3 d0 d1 d2 d3 : BitVec 64)
    (hla : ((L ⟨a0, a1, a2, a3⟩ : Nat) : Int) ≤ 256) (hlb : ((L ⟨b0, b1, b2, b3⟩ : Nat) : Int) ≤ 256) (hlc : ((L ⟨an a0 b0, an a1 b1, an a2 b2, an a3 b3⟩ : Nat) : Int) ≤ 256) (hld : ((L ⟨ro a0 b0, ro a1 b1, ro a2 b2, ro a3 b3⟩ : Nat) : Int) ≤ 256) (q9 : (((L ⟨a0, a1, a2, a3⟩ : Nat) : Int) + ((L ⟨b0, b1, b2, b3⟩ : Nat) : Int) == ((L ⟨an a0 b0, an a1 b1, an a2 b2, an a3 b3⟩ : Nat) : Int) + ((L ⟨ro a0 b0, ro a1 b1, ro a2 b2, ro a3 b3⟩ : Nat) : Int)) = true) (w : World) :
    Calls Try.prog 3 #[.agg #[.int .u64 (wN a0), .int .u64 (wN a1), .int .u64 (wN a2), .int .u64 (wN a3)], .agg #[.int .u64 (wN b0), .int .u64 (wN b1), .int .u64 (wN b2), .int .u64 (wN b3)], .agg #[.int .u64 (wN d0), .int .u64 (wN d1), .int .u64 (wN d2), .int .u64 (wN d3)]] w fun e w' => e = .returned (.bool true) ∧ Below w.heap.size w w' := by
  have heq := eq_words
  go_enter Try.func3, Try.ntmps3
  go_wp2_with fail
  have hE : Below w.heap.size w (((w.alloc (.cells #[.int .u64 (wN a0), .int .u64 (wN a1), .int .u64 (wN a2), .int .u64 (wN a3)] 24)).alloc (.cells #[.int .u64 (wN b0), .int .u64 (wN b1), .int .u64 (wN b2), .int .u64 (wN b3)] 24)).alloc (.cells #[.int .u64 (wN d0), .int .u64 (wN d1), .int .u64 (wN d2), .int .u64 (wN d3)] 24)) := by repeat (first | exact Below.refl _ _ | assumption | refine Below.drew ?_ | refine ext_drewN ?_ _ | refine ext_alloc ?_ _ | refine Below.setCell ?_ (by (try simp only [World.size_alloc, World.size_setCell, World.size_drew]); omega) _ | refine ext_step ?_ (by assumption))
  have HB : Box3 w.heap.size ⟨a0, a1, a2, a3⟩ ⟨b0, b1, b2, b3⟩ ⟨d0, d1, d2, d3⟩ (((w.alloc (.cells #[.int .u64 (wN a0), .int .u64 (wN a1), .int .u64 (wN a2), .int .u64 (wN a3)] 24)).alloc (.cells #[.int .u64 (wN b0), .int .u64 (wN b1), .int .u64 (wN b2), .int .u64 (wN b3)] 24)).alloc (.cells #[.int .u64 (wN d0), .int .u64 (wN d1), .int .u64 (wN d2), .int .u64 (wN d3)] 24)) := by
    refine ⟨⟨?_, ?_, ?_, ?_⟩, ⟨?_, ?_, ?_, ?_⟩, ⟨?_, ?_, ?_, ?_⟩, ?_⟩
    all_goals (simp [go_sem] <;> omega)
  refine (head_any _).mono ?_
  rintro e W ⟨rfl, hb⟩
  replace HB := HB.later hb
  replace hE := ext_step hE hb
  clear hb
  obtain ⟨⟨c0, c1, c2, c3⟩, ⟨c4, c5, c6, c7⟩, ⟨c8, c9, c10, c11⟩, hlt⟩ := HB.all
  dsimp only at c0 c1 c2 c3 c4 c5 c6 c7 c8 c9 c10 c11
  go_wp2_with fail
  simp only [List.append]
  have HC0 : LawC w.heap.size ⟨a0, a1, a2, a3⟩ ⟨b0, b1, b2, b3⟩ ⟨d0, d1, d2, d3⟩ w W.drew.drew := ⟨HB.drew.drew, hE.drew.drew⟩

  clear c0 c1 c2 c3 c4 c5 c6 c7 c8 c9 c10 c11 hlt
  have c0 : ∀ p : InC (LawC w.heap.size ⟨a0, a1, a2, a3⟩ ⟨b0, b1, b2, b3⟩ ⟨d0, d1, d2, d3⟩ w), p.w.cell? ⟨w.heap.size, 0, none⟩ = some (.int .u64 (wN a0)) := LawC.c0
  have c1 : ∀ p : InC (LawC w.heap.size ⟨a0, a1, a2, a3⟩ ⟨b0, b1, b2, b3⟩ ⟨d0, d1, d2, d3⟩ w), p.w.cell? ⟨w.heap.size, 1, none⟩ = some (.int .u64 (wN a1)) := LawC.c1
  have c2 : ∀ p : InC (LawC w.heap.size ⟨a0, a1, a2, a3⟩ ⟨b0, b1, b2, b3⟩ ⟨d0, d1, d2, d3⟩ w), p.w.cell? ⟨w.heap.size, 2, none⟩ = some (.int .u64 (wN a2)) := LawC.c2
  have c3 : ∀ p : InC (LawC w.heap.size ⟨a0, a1, a2, a3⟩ ⟨b0, b1, b2, b3⟩ ⟨d0, d1, d2, d3⟩ w), p.w.cell? ⟨w.heap.size, 3, none⟩ = some (.int .u64 (wN a3)) := LawC.c3
  have c4 : ∀ p : InC (LawC w.heap.size ⟨a0, a1, a2, a3⟩ ⟨b0, b1, b2, b3⟩ ⟨d0, d1, d2, d3⟩ w), p.w.cell? ⟨w.heap.size + 1, 0, none⟩ = some (.int .u64 (wN b0)) := LawC.c4
  have c5 : ∀ p : InC (LawC w.heap.size ⟨a0, a1, a2, a3⟩ ⟨b0, b1, b2, b3⟩ ⟨d0, d1, d2, d3⟩ w), p.w.cell? ⟨w.heap.size + 1, 1, none⟩ = some (.int .u64 (wN b1)) := LawC.c5
  have c6 : ∀ p : InC (LawC w.heap.size ⟨a0, a1, a2, a3⟩ ⟨b0, b1, b2, b3⟩ ⟨d0, d1, d2, d3⟩ w), p.w.cell? ⟨w.heap.size + 1, 2, none⟩ = some (.int .u64 (wN b2)) := LawC.c6
  have c7 : ∀ p : InC (LawC w.heap.size ⟨a0, a1, a2, a3⟩ ⟨b0, b1, b2, b3⟩ ⟨d0, d1, d2, d3⟩ w), p.w.cell? ⟨w.heap.size + 1, 3, none⟩ = some (.int .u64 (wN b3)) := LawC.c7
  have c8 : ∀ p : InC (LawC w.heap.size ⟨a0, a1, a2, a3⟩ ⟨b0, b1, b2, b3⟩ ⟨d0, d1, d2, d3⟩ w), p.w.cell? ⟨w.heap.size + 1 + 1, 0, none⟩ = some (.int .u64 (wN d0)) := LawC.c8
  have c9 : ∀ p : InC (LawC w.heap.size ⟨a0, a1, a2, a3⟩ ⟨b0, b1, b2, b3⟩ ⟨d0, d1, d2, d3⟩ w), p.w.cell? ⟨w.heap.size + 1 + 1, 1, none⟩ = some (.int .u64 (wN d1)) := LawC.c9
  have c10 : ∀ p : InC (LawC w.heap.size ⟨a0, a1, a2, a3⟩ ⟨b0, b1, b2, b3⟩ ⟨d0, d1, d2, d3⟩ w), p.w.cell? ⟨w.heap.size + 1 + 1, 2, none⟩ = some (.int .u64 (wN d2)) := LawC.c10
  have c11 : ∀ p : InC (LawC w.heap.size ⟨a0, a1, a2, a3⟩ ⟨b0, b1, b2, b3⟩ ⟨d0, d1, d2, d3⟩ w), p.w.cell? ⟨w.heap.size + 1 + 1, 3, none⟩ = some (.int .u64 (wN d3)) := LawC.c11
  refine wp_region_class (LawC w.heap.size ⟨a0, a1, a2, a3⟩ ⟨b0, b1, b2, b3⟩ ⟨d0, d1, d2, d3⟩ w) (by kernel_rfl) (by kernel_rfl) (by first | exact HC0 | exact ⟨HB.drew, hE.drew⟩) ?_
  have hne : Nonempty (InC (LawC w.heap.size ⟨a0, a1, a2, a3⟩ ⟨b0, b1, b2, b3⟩ ⟨d0, d1, d2, d3⟩ w)) := ⟨⟨_, HC0⟩⟩
  clear HB hE HC0
  repeat (go_big_quiet_step (((first | (go_at_call 9; refine (HAnd.out _ _ _ _ _ _ _ _ _).mono ?_) | (go_at_call 10; refine (HOr.out _ _ _ _ _ _ _ _ _).mono ?_) | (go_at_call 12; refine (HMinus.out _ _ _ _ _ _ _ _ _).mono ?_) | (go_at_call 11; refine (HNot.out _ _ _ _ _).mono ?_) | (go_at_call 13; refine (HAll.out _).mono ?_) | (go_at_call 14; refine (HEmpty.out _ _ _ _ _).mono ?_) | (go_at_call 15; refine (HLen.out _ _ _ _ _).mono ?_)); rintro e W' ⟨rfl, hb⟩; exact ⟨rfl, ⟨_, LawC.later (InC.h _) hb⟩, rfl⟩)))
  refine wpQuiet_nil ?_
  intro p
  have HE := p.h.2
  generalize p.w = W1 at HE
  clear c0 c1 c2 c3 c4 c5 c6 c7 c8 c9 c10 c11
  go_wp2
  go_ret
  exact ⟨rfl, HE⟩
theorem SetLaws_any (a0 a1 a2 a3 b0 b1 b2 b3 d0 d1 d2 d3 : BitVec 64) (w : World) :
    Calls Try.prog 3 #[.agg #[.int .u64 (wN a0), .int .u64 (wN a1), .int .u64 (wN a2), .int .u64 (wN a3)], .agg #[.int .u64 (wN b0), .int .u64 (wN b1), .int .u64 (wN b2), .int .u64 (wN b3)], .agg #[.int .u64 (wN d0), .int .u64 (wN d1), .int .u64 (wN d2), .int .u64 (wN d3)]] w fun e w' => e = .returned (.bool true) ∧ Below w.heap.size w w' := by
  have la := (⟨a0, a1, a2, a3⟩ : BS).len_le; have lb := (⟨b0, b1, b2, b3⟩ : BS).len_le
  have lc := (BS.and ⟨a0, a1, a2, a3⟩ ⟨b0, b1, b2, b3⟩).len_le; have ld := (BS.or ⟨a0, a1, a2, a3⟩ ⟨b0, b1, b2, b3⟩).len_le
  have hlen := BS.len_and_or ⟨a0, a1, a2, a3⟩ ⟨b0, b1, b2, b3⟩
  exact SetLaws_core (fun x y => x &&& y) (fun x y => x ||| y) (fun x y => x &&& ~~~y) (fun x => ~~~x) fullW (fun s => decide (s = BS.none)) BS.len
    (Lib.hid And_any) (Lib.hid Or_any) (Lib.hid Minus_any) (Lib.hid Not_any) (Lib.hid All_any) (Lib.hid Empty_b) (Lib.hid Len_b)
    bv_and_comm bv_or_comm (fun x => wN_eq BitVec.not_not) bv_demorgan bv_distrib (fun x y => wN_eq rfl) bv_full bs_none
    a0 a1 a2 a3 b0 b1 b2 b3 d0 d1 d2 d3 (Int.ofNat_le.2 la) (Int.ofNat_le.2 lb) (Int.ofNat_le.2 lc) (Int.ofNat_le.2 ld) (by rw [beq_iff_eq]; exact congrArg Int.ofNat hlen) w
theorem SetLaws_any' (w : World) (a0 a1 a2 a3 b0 b1 b2 b3 d0 d1 d2 d3 : BitVec 64) :
    Calls Try.prog 3 #[.agg #[.int .u64 (wN a0), .int .u64 (wN a1), .int .u64 (wN a2), .int .u64 (wN a3)], .agg #[.int .u64 (wN b0), .int .u64 (wN b1), .int .u64 (wN b2), .int .u64 (wN b3)], .agg #[.int .u64 (wN d0), .int .u64 (wN d1), .int .u64 (wN d2), .int .u64 (wN d3)]] w fun e w' => e = .returned (.bool true) ∧ Below w.heap.size w w' := SetLaws_any a0 a1 a2 a3 b0 b1 b2 b3 d0 d1 d2 d3 w
end Go.Proofs.Ytampjjllpdljaaa
