/-
  Sets of bytes, as four words: how the words' operations read bit by bit, how many bits of a word are set (the sum by halves that math/bits counts by), and when two sets are one. Plain Lean: no program stands in it.
-/
import Derived.WalkKit
import Derived.Deep.Draws
set_option linter.unusedSimpArgs false
set_option linter.unusedVariables false
set_option maxRecDepth 100000
set_option linter.unnecessarySimpa false
namespace Go.Proofs.YticpjjmacmmpjaaGreatDoor
open Go.RowKit
/-! ### A world that has grown: what lay when a call began lies as it lay -/
theorem ext_alloc {a w : World} (h : Below a.heap.size a w) (o : Obj) : Below a.heap.size a (w.alloc o) := h.alloc h.size o
theorem ext_step {a W w1 : World} (h : Below a.heap.size a W) (hb : Below W.heap.size W w1) : Below a.heap.size a w1 := h.trans (hb.mono h.size)
theorem ext_drewN {B : Nat} {a w : World} (h : Below B a w) (n : Nat) : Below B a (w.drewN n) := h.trans ⟨rfl, rfl, rfl, Nat.le_refl _, fun _ _ => rfl⟩
theorem bcell {W w1 : World} (hb : Below W.heap.size W w1) : (∀ b o, b < W.heap.size → w1.cell? ⟨b, o, none⟩ = W.cell? ⟨b, o, none⟩) ∧ (∀ b o, b < W.heap.size → w1.frozen? ⟨b, o, none⟩ = W.frozen? ⟨b, o, none⟩) :=
  ⟨fun b o h => hb.cell (p := ⟨b, o, none⟩) h, fun b o h => hb.frozen (p := ⟨b, o, none⟩) h⟩

/-- eight bits repeated k times -/
def mk (mb : Nat) : Nat → Nat
  | 0 => 0
  | k + 1 => 256 * mk mb k + mb

theorem and256 (q r m s : Nat) (hr : r < 256) (hs : s < 256) : (256 * q + r) &&& (256 * m + s) = 256 * (q &&& m) + (r &&& s) := by
  have h1 : ((256 * q + r) &&& (256 * m + s)) / 2 ^ 8 = q &&& m := by
    rw [Nat.and_div_two_pow]
    rw [show (256 * q + r) / 2 ^ 8 = q by omega, show (256 * m + s) / 2 ^ 8 = m by omega]
  have h2 : ((256 * q + r) &&& (256 * m + s)) % 2 ^ 8 = r &&& s := by
    rw [Nat.and_mod_two_pow]
    rw [show (256 * q + r) % 2 ^ 8 = r by omega, show (256 * m + s) % 2 ^ 8 = s by omega]
  omega

theorem mk_succ (mb k : Nat) : mk mb (k + 1) = 256 * mk mb k + mb := rfl
theorem mk_zero (mb : Nat) : mk mb 0 = 0 := rfl

def v1 (m x : Nat) : Nat := (x / 2 &&& m) + (x &&& m)
def v2 (m v : Nat) : Nat := (v / 4 &&& m) + (v &&& m)
def v3 (m v : Nat) : Nat := (v / 16 + v) &&& m

theorem b1 : ∀ t < 2, ∀ r < 256, (128 * t + r / 2) &&& 85 = (r / 2) &&& 85 := by decide +kernel
theorem b2 : ∀ t < 4, ∀ r < 256, (64 * t + r / 4) &&& 51 = (r / 4) &&& 51 := by decide +kernel
theorem b3 : ∀ t < 5, ∀ r < 69, (16 * t + (r / 16 + r)) &&& 15 = (r / 16 + r) &&& 15 := by decide +kernel
theorem c1 : ∀ r < 256, v1 85 r < 256 := by decide +kernel
theorem c2 : ∀ r < 256, v2 51 (v1 85 r) < 69 ∧ v2 51 (v1 85 r) % 16 ≤ 4 := by decide +kernel

theorem v1_step (k q r : Nat) (hr : r < 256) : v1 (mk 85 (k + 1)) (256 * q + r) = 256 * v1 (mk 85 k) q + v1 85 r := by
  unfold v1
  rw [mk_succ, show (256 * q + r) / 2 = 256 * (q / 2) + (128 * (q % 2) + r / 2) by omega, and256 _ _ _ _ (by omega) (by omega), and256 _ _ _ _ hr (by omega),
    b1 _ (by omega) _ hr]
  omega
theorem v2_step (k q r : Nat) (hr : r < 256) : v2 (mk 51 (k + 1)) (256 * q + r) = 256 * v2 (mk 51 k) q + v2 51 r := by
  unfold v2
  rw [mk_succ, show (256 * q + r) / 4 = 256 * (q / 4) + (64 * (q % 4) + r / 4) by omega, and256 _ _ _ _ (by omega) (by omega), and256 _ _ _ _ hr (by omega),
    b2 _ (by omega) _ hr]
  omega
theorem v3_step (k q r : Nat) (hr : r < 69) (hq : q % 16 ≤ 4) : v3 (mk 15 (k + 1)) (256 * q + r) = 256 * v3 (mk 15 k) q + v3 15 r := by
  unfold v3
  rw [mk_succ, show (256 * q + r) / 16 + (256 * q + r) = 256 * (q / 16 + q) + (16 * (q % 16) + (r / 16 + r)) by omega, and256 _ _ _ _ (by omega) (by omega),
    b3 _ (by omega) _ hr]

def p8 (r : Nat) : Nat := (List.range 8).countP (fun i => r.testBit i)
theorem p8_eq : ∀ r < 256, v3 15 (v2 51 (v1 85 r)) = p8 r := by decide +kernel
theorem p8_le : ∀ r < 256, p8 r ≤ 8 := by decide +kernel
def bytes : Nat → Nat → Nat
  | 0, _ => 0
  | k + 1, x => 256 * bytes k (x / 256) + p8 (x % 256)

theorem zero3 (x : Nat) : v1 0 x = 0 ∧ v2 0 x = 0 ∧ v3 0 x = 0 := by simp [v1, v2, v3]
theorem all_steps : ∀ (k x : Nat), x < 256 ^ k → v3 (mk 15 k) (v2 (mk 51 k) (v1 (mk 85 k) x)) = bytes k x ∧ v2 (mk 51 k) (v1 (mk 85 k) x) % 16 ≤ 4
  | 0, x, _ => by
    rw [mk_zero, mk_zero, mk_zero, (zero3 _).2.2, (zero3 _).2.1]; exact ⟨rfl, by omega⟩
  | k + 1, x, h => by
    have ih := all_steps k (x / 256) (by rw [Nat.pow_succ] at h; omega)
    have hr : x % 256 < 256 := by omega
    have e : x = 256 * (x / 256) + x % 256 := by omega
    have h2 := c2 _ hr
    have e1 : v1 (mk 85 (k + 1)) x = 256 * v1 (mk 85 k) (x / 256) + v1 85 (x % 256) := by
      rw [← v1_step _ _ _ hr, ← e]
    rw [e1, v2_step _ _ _ (c1 _ hr), v3_step _ _ _ h2.1 ih.2, ih.1, p8_eq _ hr]
    exact ⟨rfl, by omega⟩

/-- the bytes of a number added up -/
def sum8 : Nat → Nat → Nat
  | 0, _ => 0
  | k + 1, x => sum8 k (x / 256) + p8 (x % 256)
theorem div_lo (lo hi m : Nat) {z : Nat} (h : lo < m) (e : z = lo + m * hi) : z / m = hi := by
  rw [e, Nat.add_mul_div_left _ _ (by omega), Nat.div_eq_of_lt h, Nat.zero_add]
theorem tailn (b c0 c1 c2 c3 c4 c5 c6 c7 : Nat) (h0 : c0 ≤ 8) (h1 : c1 ≤ 8) (h2 : c2 ≤ 8) (h3 : c3 ≤ 8) (h4 : c4 ≤ 8) (h5 : c5 ≤ 8) (h6 : c6 ≤ 8) (h7 : c7 ≤ 8)
   (hb : b = c0 + 256 * c1 + 65536 * c2 + 16777216 * c3 + 4294967296 * c4 + 1099511627776 * c5 + 281474976710656 * c6 + 72057594037927936 * c7) :
   (b + b / 256 + (b + b / 256) / 65536 + (b + b / 256 + (b + b / 256) / 65536) / 4294967296) % 128 = c0 + c1 + c2 + c3 + c4 + c5 + c6 + c7 ∧
    (b + b / 256 + (b + b / 256) / 65536 + (b + b / 256 + (b + b / 256) / 65536) / 4294967296) < 18446744073709551616 := by
  have e1 : b / 256 = c1 + 256 * c2 + 65536 * c3 + 16777216 * c4 + 4294967296 * c5 + 1099511627776 * c6 + 281474976710656 * c7 := by
    exact div_lo c0 _ 256 (by omega) (by omega)
  have e2 : (b + b / 256) / 65536 = (c2 + c3) + 256 * (c3 + c4) + 65536 * (c4 + c5) + 16777216 * (c5 + c6) + 4294967296 * (c6 + c7) + 1099511627776 * c7 := by
    rw [e1]
    exact div_lo (c0 + c1 + 256 * (c1 + c2)) _ 65536 (by clear e1 hb; omega) (by clear e1; omega)
  have e3 : (b + b / 256 + (b + b / 256) / 65536) / 4294967296 = (c4 + c5 + c6 + c7) + 256 * (c5 + c6 + c7) + 65536 * (c6 + c7) + 16777216 * c7 := by
    rw [e2, e1]
    exact div_lo (c0 + c1 + c2 + c3 + 256 * (c1 + c2 + c3 + c4) + 65536 * (c2 + c3 + c4 + c5) + 16777216 * (c3 + c4 + c5 + c6)) _ 4294967296 (by clear e1 e2 hb; omega) (by clear e1 e2; omega)
  rw [e3, e2, e1]
  clear e1 e2 e3
  subst hb
  constructor
  · have hs : c0 + c1 + c2 + c3 + c4 + c5 + c6 + c7 < 128 := by omega
    have key : ∀ z s k : Nat, s < 128 → z = s + 128 * k → z % 128 = s := fun z s k h e => by rw [e, Nat.add_mul_mod_self_left, Nat.mod_eq_of_lt h]
    refine key _ _ (2 * (c1 + c2 + c3 + c4 + c5 + c6 + c7) + 512 * (c2 + c3 + c4 + c5 + c6 + c7) + 131072 * (c3 + c4 + c5 + c6 + c7) + 33554432 * (c4 + c5 + c6 + c7) + 8589934592 * (c5 + c6 + c7) + 2199023255552 * (c6 + c7) + 562949953421312 * c7) hs ?_
    omega
  · omega
theorem tail8 (b : Nat) (x : Nat) (hb : b = bytes 8 x) : (b + b / 256 + (b + b / 256) / 65536 + (b + b / 256 + (b + b / 256) / 65536) / 4294967296) % 128 = sum8 8 x ∧
    (b + b / 256 + (b + b / 256) / 65536 + (b + b / 256 + (b + b / 256) / 65536) / 4294967296) < 18446744073709551616 := by
  have l := fun y => p8_le (y % 256) (by omega)
  have h := tailn b _ _ _ _ _ _ _ _ (l x) (l (x / 256)) (l (x / 256 / 256)) (l (x / 256 / 256 / 256)) (l (x / 256 / 256 / 256 / 256))
    (l (x / 256 / 256 / 256 / 256 / 256)) (l (x / 256 / 256 / 256 / 256 / 256 / 256)) (l (x / 256 / 256 / 256 / 256 / 256 / 256 / 256)) (by rw [hb]; simp only [bytes]; omega)
  refine ⟨h.1.trans ?_, h.2⟩
  simp only [sum8]; omega

/-- how many of the first n bits are set -/
def pop (n x : Nat) : Nat := (List.range n).countP (fun i => x.testBit i)
theorem pop_add (m n x : Nat) : pop (m + n) x = pop m x + pop n (x / 2 ^ m) := by
  unfold pop
  rw [List.range_add, List.countP_append, List.countP_map]
  congr 1
  apply List.countP_congr
  intro i _
  simp [Nat.testBit_div_two_pow, Nat.add_comm]
theorem pop_mod (n x : Nat) : pop n (x % 2 ^ n) = pop n x := by
  unfold pop
  apply List.countP_congr
  intro i hi
  have := List.mem_range.1 hi
  simp [Nat.testBit_mod_two_pow, this]
theorem sum8_pop : ∀ (k x : Nat), sum8 k x = pop (8 * k) x
  | 0, x => rfl
  | k + 1, x => by
    rw [sum8, sum8_pop k, show 8 * (k + 1) = 8 + 8 * k by omega, pop_add, show p8 (x % 256) = pop 8 (x % 2 ^ 8) from rfl, pop_mod, show (2 : Nat) ^ 8 = 256 from rfl]
    omega

/-! ### A word as the walk writes it: behind a name, so that the walk's simp leaves it alone -/
def wN (x : BitVec 64) : Int := (x.toNat : Int)
theorem wN_lo (x : BitVec 64) : 0 ≤ wN x := by unfold wN; omega
theorem wN_hi (x : BitVec 64) : wN x < 18446744073709551616 := by unfold wN; have := x.isLt; omega
theorem wN_inj {x y : BitVec 64} : wN x = wN y ↔ x = y := by
  unfold wN
  constructor
  · intro h; apply BitVec.eq_of_toNat_eq; omega
  · intro h; rw [h]
theorem wN_beq (x y : BitVec 64) : (wN x == wN y) = decide (x = y) := by
  by_cases h : x = y
  · subst h; simp
  · have : wN x ≠ wN y := fun e => h (wN_inj.1 e)
    simp [h, this]
theorem ofInt_wN (x : BitVec 64) : BitVec.ofInt 64 (wN x) = x := by
  unfold wN; apply BitVec.eq_of_toNat_eq; simp
theorem wrap_toNat (x : BitVec 64) : IntKind.u64.wrap (x.toNat : Int) = wN x := by
  unfold wN
  have := x.isLt
  exact IntWalk.u64_in _ (by omega)
theorem bits_and_bv (x y : BitVec 64) : bits .and .u64 (wN x) (wN y) = wN (x &&& y) := by
  show IntKind.u64.wrap _ = _
  simp only [IntKind.bits]
  rw [ofInt_wN, ofInt_wN]; exact wrap_toNat _
theorem bits_or_bv (x y : BitVec 64) : bits .or .u64 (wN x) (wN y) = wN (x ||| y) := by
  show IntKind.u64.wrap _ = _
  simp only [IntKind.bits]
  rw [ofInt_wN, ofInt_wN]; exact wrap_toNat _
theorem bits_andNot_bv (x y : BitVec 64) : bits .andNot .u64 (wN x) (wN y) = wN (x &&& ~~~y) := by
  show IntKind.u64.wrap _ = _
  simp only [IntKind.bits]
  rw [ofInt_wN, ofInt_wN]; exact wrap_toNat _
theorem bits_not_bv (x : BitVec 64) : bits .xor .u64 IntKind.u64.max (wN x) = wN (~~~x) := by
  show IntKind.u64.wrap _ = _
  simp only [IntKind.bits]
  rw [ofInt_wN, show BitVec.ofInt 64 IntKind.u64.max = BitVec.allOnes 64 from by decide]
  have e : BitVec.allOnes 64 ^^^ x = ~~~x := BitVec.allOnes_xor
  exact (congrArg (fun z : BitVec 64 => IntKind.u64.wrap (z.toNat : Int)) e).trans (wrap_toNat _)
theorem wN_zero : (0 : Int) = wN 0 := rfl

/-- the word of all bits -/
def fullW : BitVec 64 := ~~~0
/-- four words -/
structure BS where
  a : BitVec 64
  b : BitVec 64
  c : BitVec 64
  d : BitVec 64
deriving DecidableEq
namespace BS
def and (s t : BS) : BS := ⟨s.a &&& t.a, s.b &&& t.b, s.c &&& t.c, s.d &&& t.d⟩
def or (s t : BS) : BS := ⟨s.a ||| t.a, s.b ||| t.b, s.c ||| t.c, s.d ||| t.d⟩
def minus (s t : BS) : BS := ⟨s.a &&& ~~~t.a, s.b &&& ~~~t.b, s.c &&& ~~~t.c, s.d &&& ~~~t.d⟩
def not (s : BS) : BS := ⟨~~~s.a, ~~~s.b, ~~~s.c, ~~~s.d⟩
def all : BS := ⟨fullW, fullW, fullW, fullW⟩
def none : BS := ⟨0, 0, 0, 0⟩
def wd (s : BS) (q : Nat) : BitVec 64 := match q with | 0 => s.a | 1 => s.b | 2 => s.c | _ => s.d
def has (s : BS) (i : Nat) : Bool := (s.wd (i / 64)).getLsbD (i % 64)
def len (s : BS) : Nat := pop 64 s.a.toNat + pop 64 s.b.toNat + pop 64 s.c.toNat + pop 64 s.d.toNat

theorem wd_and (s t : BS) (q : Nat) : (s.and t).wd q = s.wd q &&& t.wd q := by unfold wd and; split <;> rfl
theorem wd_or (s t : BS) (q : Nat) : (s.or t).wd q = s.wd q ||| t.wd q := by unfold wd or; split <;> rfl
theorem wd_minus (s t : BS) (q : Nat) : (s.minus t).wd q = s.wd q &&& ~~~t.wd q := by unfold wd minus; split <;> rfl
theorem wd_not (s : BS) (q : Nat) : s.not.wd q = ~~~s.wd q := by unfold wd not; split <;> rfl
theorem has_and (s t : BS) (i : Nat) : (s.and t).has i = (s.has i && t.has i) := by simp [has, wd_and]
theorem has_or (s t : BS) (i : Nat) : (s.or t).has i = (s.has i || t.has i) := by simp [has, wd_or]
theorem has_not (s : BS) (i : Nat) : s.not.has i = !s.has i := by
  have : i % 64 < 64 := Nat.mod_lt _ (by omega)
  simp [has, wd_not, this]
theorem has_minus (s t : BS) (i : Nat) : (s.minus t).has i = (s.has i && !t.has i) := by
  have : i % 64 < 64 := Nat.mod_lt _ (by omega)
  simp [has, wd_minus, this]
theorem has_none (i : Nat) : none.has i = false := by unfold has none wd; split <;> simp
theorem has_all (i : Nat) : all.has i = true := by
  have : i % 64 < 64 := Nat.mod_lt _ (by omega)
  have h : ∀ j, j < 64 → fullW.getLsbD j = true := fun j hj => by unfold fullW; rw [BitVec.getLsbD_not]; simp [hj]
  unfold has all wd; split <;> exact h _ this
theorem ext_has {s t : BS} (h : ∀ i < 256, s.has i = t.has i) : s = t := by
  have k : ∀ q < 4, s.wd q = t.wd q := fun q hq => by
    apply BitVec.eq_of_getLsbD_eq
    intro j hj
    have := h (64 * q + j) (by omega)
    unfold has at this
    rwa [show (64 * q + j) / 64 = q by omega, show (64 * q + j) % 64 = j by omega] at this
  cases s; cases t
  have k0 := k 0 (by omega); have k1 := k 1 (by omega); have k2 := k 2 (by omega); have k3 := k 3 (by omega)
  simp only [wd] at k0 k1 k2 k3
  simp [k0, k1, k2, k3]
end BS

theorem testBit_toNat (x : BitVec 64) (i : Nat) : x.toNat.testBit i = x.getLsbD i := rfl
theorem countP_add {p q r s : Nat → Bool} (l : List Nat) (h : ∀ i, (p i).toNat + (q i).toNat = (r i).toNat + (s i).toNat) : l.countP p + l.countP q = l.countP r + l.countP s := by
  induction l with
  | nil => rfl
  | cons i l ih =>
    simp only [List.countP_cons]
    have := h i
    cases hp : p i <;> cases hq : q i <;> cases hr : r i <;> cases hs : s i <;> simp_all <;> omega
/-- both, and one of both: together as many as one by one -/
theorem pop_and_or (x y : BitVec 64) : pop 64 x.toNat + pop 64 y.toNat = pop 64 (x &&& y).toNat + pop 64 (x ||| y).toNat := by
  unfold pop
  apply countP_add
  intro i
  simp only [testBit_toNat, BitVec.getLsbD_and, BitVec.getLsbD_or]
  cases x.getLsbD i <;> cases y.getLsbD i <;> rfl
theorem BS.len_and_or (s t : BS) : s.len + t.len = (s.and t).len + (s.or t).len := by
  have h0 := pop_and_or s.a t.a; have h1 := pop_and_or s.b t.b; have h2 := pop_and_or s.c t.c; have h3 := pop_and_or s.d t.d
  unfold BS.len BS.and BS.or; dsimp only; omega
theorem pop_le (n x : Nat) : pop n x ≤ n := by
  have := List.countP_le_length (p := fun i => x.testBit i) (l := List.range n)
  simpa [pop] using this
/-- as many bits as bytes that are in the set -/
theorem BS.len_count (s : BS) : s.len = (List.range 256).countP s.has := by
  have e : List.range 256 = List.range 64 ++ (List.range 64).map (64 + ·) ++ (List.range 64).map (128 + ·) ++ (List.range 64).map (192 + ·) := by
    rw [show 256 = 192 + 64 from rfl, List.range_add, show 192 = 128 + 64 from rfl, List.range_add, show 128 = 64 + 64 from rfl, List.range_add]
  rw [e, List.countP_append, List.countP_append, List.countP_append, List.countP_map, List.countP_map, List.countP_map]
  have c0 : pop 64 s.a.toNat = (List.range 64).countP s.has := List.countP_congr fun i hi => by
    have := List.mem_range.1 hi
    simp only [testBit_toNat, BS.has, Nat.div_eq_of_lt this, Nat.mod_eq_of_lt this, BS.wd]
  have c1 : pop 64 s.b.toNat = (List.range 64).countP (s.has ∘ (64 + ·)) := List.countP_congr fun i hi => by
    have := List.mem_range.1 hi
    simp only [testBit_toNat, Function.comp, BS.has, show (64 + i) / 64 = 1 by omega, show (64 + i) % 64 = i by omega, BS.wd]
  have c2 : pop 64 s.c.toNat = (List.range 64).countP (s.has ∘ (128 + ·)) := List.countP_congr fun i hi => by
    have := List.mem_range.1 hi
    simp only [testBit_toNat, Function.comp, BS.has, show (128 + i) / 64 = 2 by omega, show (128 + i) % 64 = i by omega, BS.wd]
  have c3 : pop 64 s.d.toNat = (List.range 64).countP (s.has ∘ (192 + ·)) := List.countP_congr fun i hi => by
    have := List.mem_range.1 hi
    simp only [testBit_toNat, Function.comp, BS.has, show (192 + i) / 64 = 3 by omega, show (192 + i) % 64 = i by omega, BS.wd]
  unfold BS.len
  omega

/-! ### One byte more -/
def BS.add (s : BS) (i : Nat) : BS :=
  match i / 64 with
  | 0 => { s with a := s.a ||| BitVec.twoPow 64 (i % 64) }
  | 1 => { s with b := s.b ||| BitVec.twoPow 64 (i % 64) }
  | 2 => { s with c := s.c ||| BitVec.twoPow 64 (i % 64) }
  | _ => { s with d := s.d ||| BitVec.twoPow 64 (i % 64) }
theorem BS.add0 (s0 s1 s2 s3 : BitVec 64) (i : Nat) (h : i / 64 = 0) : (⟨s0, s1, s2, s3⟩ : BS).add i = ⟨s0 ||| BitVec.twoPow 64 (i % 64), s1, s2, s3⟩ := by unfold BS.add; rw [h]; rfl
theorem BS.add1 (s0 s1 s2 s3 : BitVec 64) (i : Nat) (h : i / 64 = 1) : (⟨s0, s1, s2, s3⟩ : BS).add i = ⟨s0, s1 ||| BitVec.twoPow 64 (i % 64), s2, s3⟩ := by unfold BS.add; rw [h]; rfl
theorem BS.add2 (s0 s1 s2 s3 : BitVec 64) (i : Nat) (h : i / 64 = 2) : (⟨s0, s1, s2, s3⟩ : BS).add i = ⟨s0, s1, s2 ||| BitVec.twoPow 64 (i % 64), s3⟩ := by unfold BS.add; rw [h]; rfl
theorem BS.add3 (s0 s1 s2 s3 : BitVec 64) (i : Nat) (h : i / 64 = 3) : (⟨s0, s1, s2, s3⟩ : BS).add i = ⟨s0, s1, s2, s3 ||| BitVec.twoPow 64 (i % 64)⟩ := by unfold BS.add; rw [h]; rfl
theorem BS.has_add (s : BS) (i j : Nat) (hi : i < 256) (hj : j < 256) : (s.add i).has j = (s.has j || decide (i = j)) := by
  have hm : i % 64 < 64 := Nat.mod_lt _ (by omega)
  have hij : (i = j) ↔ (i / 64 = j / 64 ∧ i % 64 = j % 64) := by omega
  rcases s with ⟨s0, s1, s2, s3⟩
  have hq : i / 64 = 0 ∨ i / 64 = 1 ∨ i / 64 = 2 ∨ i / 64 = 3 := by omega
  have hr : j / 64 = 0 ∨ j / 64 = 1 ∨ j / 64 = 2 ∨ j / 64 = 3 := by omega
  rcases hq with h | h | h | h <;> rcases hr with k | k | k | k
  all_goals
    first
    | rw [BS.add0 _ _ _ _ _ h]
    | rw [BS.add1 _ _ _ _ _ h]
    | rw [BS.add2 _ _ _ _ _ h]
    | rw [BS.add3 _ _ _ _ _ h]
  all_goals
    simp only [BS.has, BS.wd, k, BitVec.getLsbD_or, BitVec.getLsbD_twoPow, hij, h, hm, decide_true, Bool.true_and]
    simp
def BS.ofL (xs : List Int) : BS := xs.foldl (fun s x => s.add x.toNat) BS.none
theorem BS.ofL_snoc (xs : List Int) (x : Int) : BS.ofL (xs ++ [x]) = (BS.ofL xs).add x.toNat := by simp [BS.ofL]
theorem BS.has_foldl (xs : List Int) (hx : ∀ x ∈ xs, 0 ≤ x ∧ x ≤ 255) (j : Nat) (hj : j < 256) : ∀ s : BS, (xs.foldl (fun s x => s.add x.toNat) s).has j = (s.has j || xs.any (fun x => decide (x.toNat = j))) := by
  induction xs with
  | nil => intro s; simp
  | cons x xs ih =>
    intro s
    have h0 := hx x (by simp)
    rw [List.foldl_cons, ih (fun y hy => hx y (by simp [hy])), BS.has_add _ _ _ (by omega) hj, List.any_cons, Bool.or_assoc]
theorem BS.has_ofL (xs : List Int) (hx : ∀ x ∈ xs, 0 ≤ x ∧ x ≤ 255) (j : Nat) (hj : j < 256) : (BS.ofL xs).has j = xs.any (fun x => decide (x.toNat = j)) := by
  unfold BS.ofL
  rw [BS.has_foldl xs hx j hj, BS.has_none, Bool.false_or]
/-- from one byte on, so many -/
def BS.run (low : Nat) : Nat → BS
  | 0 => BS.none
  | n + 1 => (BS.run low n).add (low + n)
theorem BS.has_run (low j : Nat) (hj : j < 256) : ∀ n, low + n ≤ 256 → (BS.run low n).has j = decide (low ≤ j ∧ j < low + n)
  | 0, _ => by rw [BS.run, BS.has_none]; symm; apply decide_eq_false; omega
  | n + 1, h => by
    rw [BS.run, BS.has_add _ _ _ (by omega) hj, BS.has_run low j hj n (by omega), ← Bool.decide_or]
    apply decide_eq_decide.2
    omega
theorem wrap_nat64' (n : Nat) (h : n < 18446744073709551616) : IntKind.u64.wrap (n : Int) = n := IntWalk.u64_in _ (by omega)
theorem or_bit (x : BitVec 64) (k : Nat) (hk : k < 64) : bits .or .u64 (wN x) (IntKind.u64.wrap (2 ^ k)) = wN (x ||| BitVec.twoPow 64 k) := by
  have e : IntKind.u64.wrap (2 ^ k) = wN (BitVec.twoPow 64 k) := by
    unfold wN
    have hp : (2 : Nat) ^ k < 18446744073709551616 := Nat.pow_lt_pow_of_lt (by omega) (show k < 64 from hk)
    rw [BitVec.toNat_twoPow_of_lt hk, show ((2 : Int) ^ k) = ((2 ^ k : Nat) : Int) from by push_cast; rfl]
    exact wrap_nat64' _ hp
  rw [e, bits_or_bv]

/-! ### A set's bytes, in order -/
structure Byt where
  n : Nat
  h : n < 256
def BS.bytesTo (s : BS) : Nat → List Byt
  | 0 => []
  | k + 1 => if h : k < 256 then (if s.has k then s.bytesTo k ++ [⟨k, h⟩] else s.bytesTo k) else s.bytesTo k
theorem BS.bytesTo_yes (s : BS) (k : Nat) (h : k < 256) (hs : s.has k = true) : s.bytesTo (k + 1) = s.bytesTo k ++ [⟨k, h⟩] := by simp [BS.bytesTo, h, hs]
theorem BS.bytesTo_no (s : BS) (k : Nat) (hs : s.has k = false) : s.bytesTo (k + 1) = s.bytesTo k := by simp [BS.bytesTo, hs]
theorem BS.bytesTo_len (s : BS) : ∀ k, (s.bytesTo k).length ≤ k
  | 0 => Nat.le_refl _
  | k + 1 => by
    have := s.bytesTo_len k
    unfold BS.bytesTo; split
    · split
      · simp; omega
      · omega
    · omega
theorem BS.bytesTo_pre (s : BS) (k : Nat) : ∀ n, s.bytesTo k <+: s.bytesTo (k + n)
  | 0 => List.prefix_rfl
  | n + 1 => by
    refine (s.bytesTo_pre k n).trans ?_
    show s.bytesTo (k + n) <+: s.bytesTo (k + n + 1)
    rw [BS.bytesTo]
    split
    · split
      · exact List.prefix_append _ _
      · exact List.prefix_rfl
    · exact List.prefix_rfl
def BS.bytes (s : BS) : List Byt := s.bytesTo 256
theorem BS.bytesTo_prefix (s : BS) (k : Nat) (h : k ≤ 256) : s.bytesTo k <+: s.bytes := by
  have := s.bytesTo_pre k (256 - k)
  rwa [show k + (256 - k) = 256 by omega] at this

/-! ### A set's runs, in order -/
structure Rn where
  a : Nat
  b : Nat
  ha : a < 256
  hb : b < 256
/-- the last byte of the run that byte b is in -/
def BS.runEnd (s : BS) (b : Nat) : Nat := if b < 255 ∧ s.has (b + 1) = true then s.runEnd (b + 1) else b
termination_by 255 - b
theorem BS.runEnd_go (s : BS) (b : Nat) (h : b < 255) (hs : s.has (b + 1) = true) : s.runEnd b = s.runEnd (b + 1) := by
  rw [BS.runEnd, if_pos ⟨h, hs⟩]
theorem BS.runEnd_stop (s : BS) (b : Nat) (h : ¬ (b < 255 ∧ s.has (b + 1) = true)) : s.runEnd b = b := by
  rw [BS.runEnd, if_neg h]
theorem BS.runEnd_ge (s : BS) (b : Nat) : b ≤ s.runEnd b := by
  rw [BS.runEnd]; split
  · have := s.runEnd_ge (b + 1); omega
  · omega
termination_by 255 - b
theorem BS.runEnd_lt (s : BS) (b : Nat) (h : b < 256) : s.runEnd b < 256 := by
  rw [BS.runEnd]; split
  · rename_i hc; exact s.runEnd_lt (b + 1) (by omega)
  · exact h
termination_by 255 - b
/-- all of the run is in the set; the byte behind it isn't -/
theorem BS.runEnd_all (s : BS) (b : Nat) (hb : s.has b = true) : ∀ j, b ≤ j → j ≤ s.runEnd b → s.has j = true := by
  intro j h1 h2
  rw [BS.runEnd] at h2; split at h2
  · rename_i hc
    by_cases e : j = b
    · rw [e]; exact hb
    · exact s.runEnd_all (b + 1) hc.2 j (by omega) h2
  · rw [show j = b by omega]; exact hb
termination_by 255 - b
theorem BS.runEnd_behind (s : BS) (b : Nat) (h : s.runEnd b < 255) : s.has (s.runEnd b + 1) = false := by
  rw [BS.runEnd] at h ⊢; split at h
  · rename_i hc
    rw [if_pos hc]
    exact s.runEnd_behind (b + 1) h
  · rename_i hc
    rw [if_neg hc]
    cases hh : s.has (b + 1) with
    | false => rfl
    | true => exact absurd ⟨h, hh⟩ hc
termination_by 255 - b
def BS.runsFrom (s : BS) (b : Nat) : List Rn :=
  if h : b < 256 then
    if s.has b then ⟨b, s.runEnd b, h, s.runEnd_lt b h⟩ :: s.runsFrom (s.runEnd b + 1)
    else s.runsFrom (b + 1)
  else []
termination_by 256 - b
decreasing_by
  · have := s.runEnd_ge b; omega
  · omega
theorem BS.runsFrom_no (s : BS) (b : Nat) (h : b < 256) (hs : s.has b = false) : s.runsFrom b = s.runsFrom (b + 1) := by
  rw [BS.runsFrom, dif_pos h, hs]; rfl
theorem BS.runsFrom_yes (s : BS) (b : Nat) (h : b < 256) (hs : s.has b = true) : s.runsFrom b = ⟨b, s.runEnd b, h, s.runEnd_lt b h⟩ :: s.runsFrom (s.runEnd b + 1) := by
  rw [BS.runsFrom, dif_pos h, if_pos hs]
theorem BS.runsFrom_end (s : BS) (b : Nat) (h : 256 ≤ b) : s.runsFrom b = [] := by
  rw [BS.runsFrom, dif_neg (by omega)]
theorem BS.runsFrom_len (s : BS) (b : Nat) : (s.runsFrom b).length ≤ 256 - b := by
  by_cases h : b < 256
  · cases hs : s.has b with
    | false => rw [s.runsFrom_no b h hs]; have := s.runsFrom_len (b + 1); omega
    | true =>
      rw [s.runsFrom_yes b h hs]
      have h1 := s.runEnd_ge b
      have := s.runsFrom_len (s.runEnd b + 1)
      simp only [List.length_cons]; omega
  · rw [s.runsFrom_end b (by omega)]; simp
termination_by 256 - b
def BS.runs (s : BS) : List Rn := s.runsFrom 0

/-! ### The sum by halves, as the walk writes it -/
def o1 (a : Int) : Int := IntKind.u64.wrap (bits .and .u64 (a / 2) 6148914691236517205 + bits .and .u64 a 6148914691236517205)
def o2 (a : Int) : Int := IntKind.u64.wrap (bits .and .u64 (a / 4) 3689348814741910323 + bits .and .u64 a 3689348814741910323)
def o3 (a : Int) : Int := bits .and .u64 (IntKind.u64.wrap (a / 16 + a)) 1085102592571150095
def o4 (a : Int) : Int := IntKind.u64.wrap (a + a / 256)
def o5 (a : Int) : Int := IntKind.u64.wrap (a + a / 65536)
def o6 (a : Int) : Int := IntKind.u64.wrap (a + a / 4294967296)
def onesI (a : Int) : Int := bits .and .i64 (wrap64 (o6 (o5 (o4 (o3 (o2 (o1 a))))))) 127

theorem wrap_nat64 (n : Nat) (h : n < 18446744073709551616) : IntKind.u64.wrap (n : Int) = n := IntWalk.u64_in _ (by omega)
theorem v_lt (m x : Nat) (h : m < 9223372036854775808) : v1 m x < 18446744073709551616 ∧ v2 m x < 18446744073709551616 := by
  have a := @Nat.and_le_right (x / 2) m; have b := @Nat.and_le_right x m; have c := @Nat.and_le_right (x / 4) m
  unfold v1 v2; omega
theorem o1_nat (n : Nat) (h : n < 18446744073709551616) : o1 n = (v1 6148914691236517205 n : Nat) := by
  have hv := (v_lt 6148914691236517205 n (by omega)).1
  unfold o1
  rw [show (n : Int) / 2 = ((n / 2 : Nat) : Int) by omega, show (6148914691236517205 : Int) = ((6148914691236517205 : Nat) : Int) from rfl,
    u64_and_nat _ _ (by omega) (by omega), u64_and_nat _ _ h (by omega)]
  rw [← Int.natCast_add]
  exact wrap_nat64 _ hv
theorem o2_nat (n : Nat) (h : n < 18446744073709551616) : o2 n = (v2 3689348814741910323 n : Nat) := by
  have hv := (v_lt 3689348814741910323 n (by omega)).2
  unfold o2
  rw [show (n : Int) / 4 = ((n / 4 : Nat) : Int) by omega, show (3689348814741910323 : Int) = ((3689348814741910323 : Nat) : Int) from rfl,
    u64_and_nat _ _ (by omega) (by omega), u64_and_nat _ _ h (by omega)]
  rw [← Int.natCast_add]
  exact wrap_nat64 _ hv
theorem o3_nat (n : Nat) (h : n / 16 + n < 18446744073709551616) : o3 n = (v3 1085102592571150095 n : Nat) := by
  unfold o3
  rw [show (n : Int) / 16 + n = ((n / 16 + n : Nat) : Int) by omega, wrap_nat64 _ h, show (1085102592571150095 : Int) = ((1085102592571150095 : Nat) : Int) from rfl,
    u64_and_nat _ _ h (by omega)]
  rfl
theorem v2_small (m v : Nat) (h : m ≤ 3689348814741910323) : v2 m v ≤ 7378697629483820646 := by
  have b := @Nat.and_le_right v m; have c := @Nat.and_le_right (v / 4) m
  unfold v2; omega
theorem mk85 : mk 85 8 = 6148914691236517205 := by decide
theorem mk51 : mk 51 8 = 3689348814741910323 := by decide
theorem mk15 : mk 15 8 = 1085102592571150095 := by decide
theorem o4_nat (b : Nat) (h : b + b / 256 < 18446744073709551616) : o4 b = (b + b / 256 : Nat) := by
  unfold o4
  rw [show (b : Int) + (b : Int) / 256 = ((b + b / 256 : Nat) : Int) by omega]
  exact wrap_nat64 _ h
theorem o5_nat (b : Nat) (h : b + b / 65536 < 18446744073709551616) : o5 b = (b + b / 65536 : Nat) := by
  unfold o5
  rw [show (b : Int) + (b : Int) / 65536 = ((b + b / 65536 : Nat) : Int) by omega]
  exact wrap_nat64 _ h
theorem o6_nat (b : Nat) (h : b + b / 4294967296 < 18446744073709551616) : o6 b = (b + b / 4294967296 : Nat) := by
  unfold o6
  rw [show (b : Int) + (b : Int) / 4294967296 = ((b + b / 4294967296 : Nat) : Int) by omega]
  exact wrap_nat64 _ h
theorem last_nat (z : Nat) (_h : z < 18446744073709551616) : bits .and .i64 (wrap64 (z : Int)) 127 = ((z % 128 : Nat) : Int) := by
  rw [i64_and127]
  unfold wrap64
  omega
/-- the three last steps -/
theorem ones_end (b p : Nat) (t1 : (b + b / 256 + (b + b / 256) / 65536 + (b + b / 256 + (b + b / 256) / 65536) / 4294967296) % 128 = p)
    (t2 : (b + b / 256 + (b + b / 256) / 65536 + (b + b / 256 + (b + b / 256) / 65536) / 4294967296) < 18446744073709551616) :
    bits .and .i64 (wrap64 (o6 (o5 (o4 (b : Int))))) 127 = (p : Nat) := by
  rw [o4_nat b (by omega), o5_nat _ (by omega), o6_nat _ t2, last_nat _ t2, t1]
/-- **the sum by halves counts the bits** -/
theorem onesI_pop (x : BitVec 64) : onesI (wN x) = (pop 64 x.toNat : Nat) := by
  unfold wN
  have hx : x.toNat < 18446744073709551616 := x.isLt
  have hs := (all_steps 8 x.toNat hx).1
  rw [mk85, mk51, mk15] at hs
  have ht := tail8 _ x.toNat rfl
  rw [← hs, sum8_pop] at ht
  have h1 := o1_nat _ hx
  have h2 := o2_nat _ (v_lt 6148914691236517205 x.toNat (by decide)).1
  have h2s := v2_small 3689348814741910323 (v1 6148914691236517205 x.toNat) (Nat.le_refl _)
  have h3 := o3_nat (v2 3689348814741910323 (v1 6148914691236517205 x.toNat)) (by clear hs ht h1 h2; omega)
  unfold onesI
  rw [h1, h2, h3]
  clear h1 h2 h3 h2s hs
  exact ones_end _ _ ht.1 ht.2
end Go.Proofs.YticpjjmacmmpjaaGreatDoor
