/-
  Sets of bytes, as four words: how the words' operations read bit by bit, how many bits of a word are set (the sum by halves that math/bits counts by), and when two sets are one. Plain Lean: no program stands in it. Expressions in their normal form: what the calls that make expressions make is in it, and what is in it is made again of its parts. Plain Lean: no program stands in it. What the library's calls do, that expressions and terms and their texts are made with: numbers as text, texts joined, a builder of text. A region that draws its order, in which what makes or writes memory stands in one order alone, and all else reads: one walk serves every order, the readers as early as may be. What the readers read must stand till the last of them has come up, and no longer. Texts quoted, walked through the program: the program's own 'Quote' and the statement's.
-/
import Derived.WalkKit
import Derived.Deep.Draws
import Derived.Lib.Join
import Derived.Sort.LotA
import Derived.Test.YtgamknphlmcgnaaGreatDoorRows
import Derived.Lib.Hide
import Derived.Laws.BytesArg
import Derived.Deep.WholeRow
import Derived.Laws.Rows
import Derived.Shelf.Lay
import Derived.Shelf.Strings.OnBuilder
import Derived.Shelf.Strconv.Itoa3
import Derived.Shelf.Small.Strs
import Derived.BigQuiet
import Derived.OrdersHeld
import Derived.Deep.RegionHeld3

section
set_option linter.unusedSimpArgs false
set_option linter.unusedVariables false
set_option maxRecDepth 100000
set_option linter.unnecessarySimpa false
namespace Go.Proofs.YtgamknphlmcgnaaGreatDoor
open Go.RowKit
theorem ext_alloc {a w : World} (h : Below a.heap.size a w) (o : Obj) : Below a.heap.size a (w.alloc o) := h.alloc h.size o
theorem ext_step {a W w1 : World} (h : Below a.heap.size a W) (hb : Below W.heap.size W w1) : Below a.heap.size a w1 := h.trans (hb.mono h.size)
theorem ext_drewN {B : Nat} {a w : World} (h : Below B a w) (n : Nat) : Below B a (w.drewN n) := h.trans ⟨rfl, rfl, rfl, Nat.le_refl _, fun _ _ => rfl⟩
theorem bcell {W w1 : World} (hb : Below W.heap.size W w1) : (∀ b o, b < W.heap.size → w1.cell? ⟨b, o, none⟩ = W.cell? ⟨b, o, none⟩) ∧ (∀ b o, b < W.heap.size → w1.frozen? ⟨b, o, none⟩ = W.frozen? ⟨b, o, none⟩) :=
  ⟨fun b o h => hb.cell (p := ⟨b, o, none⟩) h, fun b o h => hb.frozen (p := ⟨b, o, none⟩) h⟩
/-- eight bits repeated k times -/
def mk (mb : Nat) : Nat → Nat
  | 0 => 0
  | k + 1 => 256 * mk mb k + mb
theorem and256 (q r m s : Nat) (hr : r < 256) (hs : s < 256) : (256 * q + r) &&& (256 * m + s) = 256 * (q &&& m) + (r &&& s) := by
  have h1 : ((256 * q + r) &&& (256 * m + s)) / 2 ^ 8 = q &&& m := by
    rw [Nat.and_div_two_pow]
    rw [show (256 * q + r) / 2 ^ 8 = q by omega, show (256 * m + s) / 2 ^ 8 = m by omega]
  have h2 : ((256 * q + r) &&& (256 * m + s)) % 2 ^ 8 = r &&& s := by
    rw [Nat.and_mod_two_pow]
    rw [show (256 * q + r) % 2 ^ 8 = r by omega, show (256 * m + s) % 2 ^ 8 = s by omega]
  omega
theorem mk_succ (mb k : Nat) : mk mb (k + 1) = 256 * mk mb k + mb := rfl
theorem mk_zero (mb : Nat) : mk mb 0 = 0 := rfl
def v1 (m x : Nat) : Nat := (x / 2 &&& m) + (x &&& m)
def v2 (m v : Nat) : Nat := (v / 4 &&& m) + (v &&& m)
def v3 (m v : Nat) : Nat := (v / 16 + v) &&& m
theorem b1 : ∀ t < 2, ∀ r < 256, (128 * t + r / 2) &&& 85 = (r / 2) &&& 85 := by decide +kernel
theorem b2 : ∀ t < 4, ∀ r < 256, (64 * t + r / 4) &&& 51 = (r / 4) &&& 51 := by decide +kernel
theorem b3 : ∀ t < 5, ∀ r < 69, (16 * t + (r / 16 + r)) &&& 15 = (r / 16 + r) &&& 15 := by decide +kernel
theorem c1 : ∀ r < 256, v1 85 r < 256 := by decide +kernel
theorem c2 : ∀ r < 256, v2 51 (v1 85 r) < 69 ∧ v2 51 (v1 85 r) % 16 ≤ 4 := by decide +kernel
theorem v1_step (k q r : Nat) (hr : r < 256) : v1 (mk 85 (k + 1)) (256 * q + r) = 256 * v1 (mk 85 k) q + v1 85 r := by
  unfold v1
  rw [mk_succ, show (256 * q + r) / 2 = 256 * (q / 2) + (128 * (q % 2) + r / 2) by omega, and256 _ _ _ _ (by omega) (by omega), and256 _ _ _ _ hr (by omega),
    b1 _ (by omega) _ hr]
  omega
theorem v2_step (k q r : Nat) (hr : r < 256) : v2 (mk 51 (k + 1)) (256 * q + r) = 256 * v2 (mk 51 k) q + v2 51 r := by
  unfold v2
  rw [mk_succ, show (256 * q + r) / 4 = 256 * (q / 4) + (64 * (q % 4) + r / 4) by omega, and256 _ _ _ _ (by omega) (by omega), and256 _ _ _ _ hr (by omega),
    b2 _ (by omega) _ hr]
  omega
theorem v3_step (k q r : Nat) (hr : r < 69) (hq : q % 16 ≤ 4) : v3 (mk 15 (k + 1)) (256 * q + r) = 256 * v3 (mk 15 k) q + v3 15 r := by
  unfold v3
  rw [mk_succ, show (256 * q + r) / 16 + (256 * q + r) = 256 * (q / 16 + q) + (16 * (q % 16) + (r / 16 + r)) by omega, and256 _ _ _ _ (by omega) (by omega),
    b3 _ (by omega) _ hr]
def p8 (r : Nat) : Nat := (List.range 8).countP (fun i => r.testBit i)
theorem p8_eq : ∀ r < 256, v3 15 (v2 51 (v1 85 r)) = p8 r := by decide +kernel
theorem p8_le : ∀ r < 256, p8 r ≤ 8 := by decide +kernel
def bytes : Nat → Nat → Nat
  | 0, _ => 0
  | k + 1, x => 256 * bytes k (x / 256) + p8 (x % 256)
theorem zero3 (x : Nat) : v1 0 x = 0 ∧ v2 0 x = 0 ∧ v3 0 x = 0 := by simp [v1, v2, v3]
theorem all_steps : ∀ (k x : Nat), x < 256 ^ k → v3 (mk 15 k) (v2 (mk 51 k) (v1 (mk 85 k) x)) = bytes k x ∧ v2 (mk 51 k) (v1 (mk 85 k) x) % 16 ≤ 4
  | 0, x, _ => by
    rw [mk_zero, mk_zero, mk_zero, (zero3 _).2.2, (zero3 _).2.1]; exact ⟨rfl, by omega⟩
  | k + 1, x, h => by
    have ih := all_steps k (x / 256) (by rw [Nat.pow_succ] at h; omega)
    have hr : x % 256 < 256 := by omega
    have e : x = 256 * (x / 256) + x % 256 := by omega
    have h2 := c2 _ hr
    have e1 : v1 (mk 85 (k + 1)) x = 256 * v1 (mk 85 k) (x / 256) + v1 85 (x % 256) := by
      rw [← v1_step _ _ _ hr, ← e]
    rw [e1, v2_step _ _ _ (c1 _ hr), v3_step _ _ _ h2.1 ih.2, ih.1, p8_eq _ hr]
    exact ⟨rfl, by omega⟩
/-- the bytes of a number added up -/
def sum8 : Nat → Nat → Nat
  | 0, _ => 0
  | k + 1, x => sum8 k (x / 256) + p8 (x % 256)
theorem div_lo (lo hi m : Nat) {z : Nat} (h : lo < m) (e : z = lo + m * hi) : z / m = hi := by
  rw [e, Nat.add_mul_div_left _ _ (by omega), Nat.div_eq_of_lt h, Nat.zero_add]
theorem tailn (b c0 c1 c2 c3 c4 c5 c6 c7 : Nat) (h0 : c0 ≤ 8) (h1 : c1 ≤ 8) (h2 : c2 ≤ 8) (h3 : c3 ≤ 8) (h4 : c4 ≤ 8) (h5 : c5 ≤ 8) (h6 : c6 ≤ 8) (h7 : c7 ≤ 8)
   (hb : b = c0 + 256 * c1 + 65536 * c2 + 16777216 * c3 + 4294967296 * c4 + 1099511627776 * c5 + 281474976710656 * c6 + 72057594037927936 * c7) :
   (b + b / 256 + (b + b / 256) / 65536 + (b + b / 256 + (b + b / 256) / 65536) / 4294967296) % 128 = c0 + c1 + c2 + c3 + c4 + c5 + c6 + c7 ∧
    (b + b / 256 + (b + b / 256) / 65536 + (b + b / 256 + (b + b / 256) / 65536) / 4294967296) < 18446744073709551616 := by
  have e1 : b / 256 = c1 + 256 * c2 + 65536 * c3 + 16777216 * c4 + 4294967296 * c5 + 1099511627776 * c6 + 281474976710656 * c7 := by
    exact div_lo c0 _ 256 (by omega) (by omega)
  have e2 : (b + b / 256) / 65536 = (c2 + c3) + 256 * (c3 + c4) + 65536 * (c4 + c5) + 16777216 * (c5 + c6) + 4294967296 * (c6 + c7) + 1099511627776 * c7 := by
    rw [e1]
    exact div_lo (c0 + c1 + 256 * (c1 + c2)) _ 65536 (by clear e1 hb; omega) (by clear e1; omega)
  have e3 : (b + b / 256 + (b + b / 256) / 65536) / 4294967296 = (c4 + c5 + c6 + c7) + 256 * (c5 + c6 + c7) + 65536 * (c6 + c7) + 16777216 * c7 := by
    rw [e2, e1]
    exact div_lo (c0 + c1 + c2 + c3 + 256 * (c1 + c2 + c3 + c4) + 65536 * (c2 + c3 + c4 + c5) + 16777216 * (c3 + c4 + c5 + c6)) _ 4294967296 (by clear e1 e2 hb; omega) (by clear e1 e2; omega)
  rw [e3, e2, e1]
  clear e1 e2 e3
  subst hb
  constructor
  · have hs : c0 + c1 + c2 + c3 + c4 + c5 + c6 + c7 < 128 := by omega
    have key : ∀ z s k : Nat, s < 128 → z = s + 128 * k → z % 128 = s := fun z s k h e => by rw [e, Nat.add_mul_mod_self_left, Nat.mod_eq_of_lt h]
    refine key _ _ (2 * (c1 + c2 + c3 + c4 + c5 + c6 + c7) + 512 * (c2 + c3 + c4 + c5 + c6 + c7) + 131072 * (c3 + c4 + c5 + c6 + c7) + 33554432 * (c4 + c5 + c6 + c7) + 8589934592 * (c5 + c6 + c7) + 2199023255552 * (c6 + c7) + 562949953421312 * c7) hs ?_
    omega
  · omega
theorem tail8 (b : Nat) (x : Nat) (hb : b = bytes 8 x) : (b + b / 256 + (b + b / 256) / 65536 + (b + b / 256 + (b + b / 256) / 65536) / 4294967296) % 128 = sum8 8 x ∧
    (b + b / 256 + (b + b / 256) / 65536 + (b + b / 256 + (b + b / 256) / 65536) / 4294967296) < 18446744073709551616 := by
  have l := fun y => p8_le (y % 256) (by omega)
  have h := tailn b _ _ _ _ _ _ _ _ (l x) (l (x / 256)) (l (x / 256 / 256)) (l (x / 256 / 256 / 256)) (l (x / 256 / 256 / 256 / 256))
    (l (x / 256 / 256 / 256 / 256 / 256)) (l (x / 256 / 256 / 256 / 256 / 256 / 256)) (l (x / 256 / 256 / 256 / 256 / 256 / 256 / 256)) (by rw [hb]; simp only [bytes]; omega)
  refine ⟨h.1.trans ?_, h.2⟩
  simp only [sum8]; omega
/-- how many of the first n bits are set -/
def pop (n x : Nat) : Nat := (List.range n).countP (fun i => x.testBit i)
theorem pop_add (m n x : Nat) : pop (m + n) x = pop m x + pop n (x / 2 ^ m) := by
  unfold pop
  rw [List.range_add, List.countP_append, List.countP_map]
  congr 1
  apply List.countP_congr
  intro i _
  simp [Nat.testBit_div_two_pow, Nat.add_comm]
theorem pop_mod (n x : Nat) : pop n (x % 2 ^ n) = pop n x := by
  unfold pop
  apply List.countP_congr
  intro i hi
  have := List.mem_range.1 hi
  simp [Nat.testBit_mod_two_pow, this]
theorem sum8_pop : ∀ (k x : Nat), sum8 k x = pop (8 * k) x
  | 0, x => rfl
  | k + 1, x => by
    rw [sum8, sum8_pop k, show 8 * (k + 1) = 8 + 8 * k by omega, pop_add, show p8 (x % 256) = pop 8 (x % 2 ^ 8) from rfl, pop_mod, show (2 : Nat) ^ 8 = 256 from rfl]
    omega
def wN (x : BitVec 64) : Int := (x.toNat : Int)
theorem wN_lo (x : BitVec 64) : 0 ≤ wN x := by unfold wN; omega
theorem wN_hi (x : BitVec 64) : wN x < 18446744073709551616 := by unfold wN; have := x.isLt; omega
theorem wN_inj {x y : BitVec 64} : wN x = wN y ↔ x = y := by
  unfold wN
  constructor
  · intro h; apply BitVec.eq_of_toNat_eq; omega
  · intro h; rw [h]
theorem wN_beq (x y : BitVec 64) : (wN x == wN y) = decide (x = y) := by
  by_cases h : x = y
  · subst h; simp
  · have : wN x ≠ wN y := fun e => h (wN_inj.1 e)
    simp [h, this]
theorem ofInt_wN (x : BitVec 64) : BitVec.ofInt 64 (wN x) = x := by
  unfold wN; apply BitVec.eq_of_toNat_eq; simp
theorem wrap_toNat (x : BitVec 64) : IntKind.u64.wrap (x.toNat : Int) = wN x := by
  unfold wN
  have := x.isLt
  exact IntWalk.u64_in _ (by omega)
theorem bits_and_bv (x y : BitVec 64) : bits .and .u64 (wN x) (wN y) = wN (x &&& y) := by
  show IntKind.u64.wrap _ = _
  simp only [IntKind.bits]
  rw [ofInt_wN, ofInt_wN]; exact wrap_toNat _
theorem bits_or_bv (x y : BitVec 64) : bits .or .u64 (wN x) (wN y) = wN (x ||| y) := by
  show IntKind.u64.wrap _ = _
  simp only [IntKind.bits]
  rw [ofInt_wN, ofInt_wN]; exact wrap_toNat _
theorem bits_andNot_bv (x y : BitVec 64) : bits .andNot .u64 (wN x) (wN y) = wN (x &&& ~~~y) := by
  show IntKind.u64.wrap _ = _
  simp only [IntKind.bits]
  rw [ofInt_wN, ofInt_wN]; exact wrap_toNat _
theorem bits_not_bv (x : BitVec 64) : bits .xor .u64 IntKind.u64.max (wN x) = wN (~~~x) := by
  show IntKind.u64.wrap _ = _
  simp only [IntKind.bits]
  rw [ofInt_wN, show BitVec.ofInt 64 IntKind.u64.max = BitVec.allOnes 64 from by decide]
  have e : BitVec.allOnes 64 ^^^ x = ~~~x := BitVec.allOnes_xor
  exact (congrArg (fun z : BitVec 64 => IntKind.u64.wrap (z.toNat : Int)) e).trans (wrap_toNat _)
theorem wN_zero : (0 : Int) = wN 0 := rfl
/-- the word of all bits -/
def fullW : BitVec 64 := ~~~0
/-- four words -/
structure BS where
  a : BitVec 64
  b : BitVec 64
  c : BitVec 64
  d : BitVec 64
deriving DecidableEq
namespace BS
def and (s t : BS) : BS := ⟨s.a &&& t.a, s.b &&& t.b, s.c &&& t.c, s.d &&& t.d⟩
def or (s t : BS) : BS := ⟨s.a ||| t.a, s.b ||| t.b, s.c ||| t.c, s.d ||| t.d⟩
def minus (s t : BS) : BS := ⟨s.a &&& ~~~t.a, s.b &&& ~~~t.b, s.c &&& ~~~t.c, s.d &&& ~~~t.d⟩
def not (s : BS) : BS := ⟨~~~s.a, ~~~s.b, ~~~s.c, ~~~s.d⟩
def all : BS := ⟨fullW, fullW, fullW, fullW⟩
def none : BS := ⟨0, 0, 0, 0⟩
def wd (s : BS) (q : Nat) : BitVec 64 := match q with | 0 => s.a | 1 => s.b | 2 => s.c | _ => s.d
def has (s : BS) (i : Nat) : Bool := (s.wd (i / 64)).getLsbD (i % 64)
def len (s : BS) : Nat := pop 64 s.a.toNat + pop 64 s.b.toNat + pop 64 s.c.toNat + pop 64 s.d.toNat
end BS
theorem pop_le (n x : Nat) : pop n x ≤ n := by
  have := List.countP_le_length (p := fun i => x.testBit i) (l := List.range n)
  simpa [pop] using this
def BS.add (s : BS) (i : Nat) : BS :=
  match i / 64 with
  | 0 => { s with a := s.a ||| BitVec.twoPow 64 (i % 64) }
  | 1 => { s with b := s.b ||| BitVec.twoPow 64 (i % 64) }
  | 2 => { s with c := s.c ||| BitVec.twoPow 64 (i % 64) }
  | _ => { s with d := s.d ||| BitVec.twoPow 64 (i % 64) }
theorem BS.add0 (s0 s1 s2 s3 : BitVec 64) (i : Nat) (h : i / 64 = 0) : (⟨s0, s1, s2, s3⟩ : BS).add i = ⟨s0 ||| BitVec.twoPow 64 (i % 64), s1, s2, s3⟩ := by unfold BS.add; rw [h]; rfl
theorem BS.add1 (s0 s1 s2 s3 : BitVec 64) (i : Nat) (h : i / 64 = 1) : (⟨s0, s1, s2, s3⟩ : BS).add i = ⟨s0, s1 ||| BitVec.twoPow 64 (i % 64), s2, s3⟩ := by unfold BS.add; rw [h]; rfl
theorem BS.add2 (s0 s1 s2 s3 : BitVec 64) (i : Nat) (h : i / 64 = 2) : (⟨s0, s1, s2, s3⟩ : BS).add i = ⟨s0, s1, s2 ||| BitVec.twoPow 64 (i % 64), s3⟩ := by unfold BS.add; rw [h]; rfl
theorem BS.add3 (s0 s1 s2 s3 : BitVec 64) (i : Nat) (h : i / 64 = 3) : (⟨s0, s1, s2, s3⟩ : BS).add i = ⟨s0, s1, s2, s3 ||| BitVec.twoPow 64 (i % 64)⟩ := by unfold BS.add; rw [h]; rfl
def BS.ofL (xs : List Int) : BS := xs.foldl (fun s x => s.add x.toNat) BS.none
theorem BS.ofL_snoc (xs : List Int) (x : Int) : BS.ofL (xs ++ [x]) = (BS.ofL xs).add x.toNat := by simp [BS.ofL]
/-- from one byte on, so many -/
def BS.run (low : Nat) : Nat → BS
  | 0 => BS.none
  | n + 1 => (BS.run low n).add (low + n)
theorem wrap_nat64' (n : Nat) (h : n < 18446744073709551616) : IntKind.u64.wrap (n : Int) = n := IntWalk.u64_in _ (by omega)
theorem or_bit (x : BitVec 64) (k : Nat) (hk : k < 64) : bits .or .u64 (wN x) (IntKind.u64.wrap (2 ^ k)) = wN (x ||| BitVec.twoPow 64 k) := by
  have e : IntKind.u64.wrap (2 ^ k) = wN (BitVec.twoPow 64 k) := by
    unfold wN
    have hp : (2 : Nat) ^ k < 18446744073709551616 := Nat.pow_lt_pow_of_lt (by omega) (show k < 64 from hk)
    rw [BitVec.toNat_twoPow_of_lt hk, show ((2 : Int) ^ k) = ((2 ^ k : Nat) : Int) from by push_cast; rfl]
    exact wrap_nat64' _ hp
  rw [e, bits_or_bv]
structure Byt where
  n : Nat
  h : n < 256
def BS.bytesTo (s : BS) : Nat → List Byt
  | 0 => []
  | k + 1 => if h : k < 256 then (if s.has k then s.bytesTo k ++ [⟨k, h⟩] else s.bytesTo k) else s.bytesTo k
def BS.bytes (s : BS) : List Byt := s.bytesTo 256
structure Rn where
  a : Nat
  b : Nat
  ha : a < 256
  hb : b < 256
/-- the last byte of the run that byte b is in -/
def BS.runEnd (s : BS) (b : Nat) : Nat := if b < 255 ∧ s.has (b + 1) = true then s.runEnd (b + 1) else b
termination_by 255 - b
theorem BS.runEnd_go (s : BS) (b : Nat) (h : b < 255) (hs : s.has (b + 1) = true) : s.runEnd b = s.runEnd (b + 1) := by
  rw [BS.runEnd, if_pos ⟨h, hs⟩]
theorem BS.runEnd_stop (s : BS) (b : Nat) (h : ¬ (b < 255 ∧ s.has (b + 1) = true)) : s.runEnd b = b := by
  rw [BS.runEnd, if_neg h]
theorem BS.runEnd_ge (s : BS) (b : Nat) : b ≤ s.runEnd b := by
  rw [BS.runEnd]; split
  · have := s.runEnd_ge (b + 1); omega
  · omega
termination_by 255 - b
theorem BS.runEnd_lt (s : BS) (b : Nat) (h : b < 256) : s.runEnd b < 256 := by
  rw [BS.runEnd]; split
  · rename_i hc; exact s.runEnd_lt (b + 1) (by omega)
  · exact h
termination_by 255 - b
def BS.runsFrom (s : BS) (b : Nat) : List Rn :=
  if h : b < 256 then
    if s.has b then ⟨b, s.runEnd b, h, s.runEnd_lt b h⟩ :: s.runsFrom (s.runEnd b + 1)
    else s.runsFrom (b + 1)
  else []
termination_by 256 - b
decreasing_by
  · have := s.runEnd_ge b; omega
  · omega
theorem BS.runsFrom_no (s : BS) (b : Nat) (h : b < 256) (hs : s.has b = false) : s.runsFrom b = s.runsFrom (b + 1) := by
  rw [BS.runsFrom, dif_pos h, hs]; rfl
theorem BS.runsFrom_yes (s : BS) (b : Nat) (h : b < 256) (hs : s.has b = true) : s.runsFrom b = ⟨b, s.runEnd b, h, s.runEnd_lt b h⟩ :: s.runsFrom (s.runEnd b + 1) := by
  rw [BS.runsFrom, dif_pos h, if_pos hs]
theorem BS.runsFrom_end (s : BS) (b : Nat) (h : 256 ≤ b) : s.runsFrom b = [] := by
  rw [BS.runsFrom, dif_neg (by omega)]
theorem BS.runsFrom_len (s : BS) (b : Nat) : (s.runsFrom b).length ≤ 256 - b := by
  by_cases h : b < 256
  · cases hs : s.has b with
    | false => rw [s.runsFrom_no b h hs]; have := s.runsFrom_len (b + 1); omega
    | true =>
      rw [s.runsFrom_yes b h hs]
      have h1 := s.runEnd_ge b
      have := s.runsFrom_len (s.runEnd b + 1)
      simp only [List.length_cons]; omega
  · rw [s.runsFrom_end b (by omega)]; simp
termination_by 256 - b
def BS.runs (s : BS) : List Rn := s.runsFrom 0
def o1 (a : Int) : Int := IntKind.u64.wrap (bits .and .u64 (a / 2) 6148914691236517205 + bits .and .u64 a 6148914691236517205)
def o2 (a : Int) : Int := IntKind.u64.wrap (bits .and .u64 (a / 4) 3689348814741910323 + bits .and .u64 a 3689348814741910323)
def o3 (a : Int) : Int := bits .and .u64 (IntKind.u64.wrap (a / 16 + a)) 1085102592571150095
def o4 (a : Int) : Int := IntKind.u64.wrap (a + a / 256)
def o5 (a : Int) : Int := IntKind.u64.wrap (a + a / 65536)
def o6 (a : Int) : Int := IntKind.u64.wrap (a + a / 4294967296)
def onesI (a : Int) : Int := bits .and .i64 (wrap64 (o6 (o5 (o4 (o3 (o2 (o1 a))))))) 127
theorem wrap_nat64 (n : Nat) (h : n < 18446744073709551616) : IntKind.u64.wrap (n : Int) = n := IntWalk.u64_in _ (by omega)
theorem v_lt (m x : Nat) (h : m < 9223372036854775808) : v1 m x < 18446744073709551616 ∧ v2 m x < 18446744073709551616 := by
  have a := @Nat.and_le_right (x / 2) m; have b := @Nat.and_le_right x m; have c := @Nat.and_le_right (x / 4) m
  unfold v1 v2; omega
theorem o1_nat (n : Nat) (h : n < 18446744073709551616) : o1 n = (v1 6148914691236517205 n : Nat) := by
  have hv := (v_lt 6148914691236517205 n (by omega)).1
  unfold o1
  rw [show (n : Int) / 2 = ((n / 2 : Nat) : Int) by omega, show (6148914691236517205 : Int) = ((6148914691236517205 : Nat) : Int) from rfl,
    u64_and_nat _ _ (by omega) (by omega), u64_and_nat _ _ h (by omega)]
  rw [← Int.natCast_add]
  exact wrap_nat64 _ hv
theorem o2_nat (n : Nat) (h : n < 18446744073709551616) : o2 n = (v2 3689348814741910323 n : Nat) := by
  have hv := (v_lt 3689348814741910323 n (by omega)).2
  unfold o2
  rw [show (n : Int) / 4 = ((n / 4 : Nat) : Int) by omega, show (3689348814741910323 : Int) = ((3689348814741910323 : Nat) : Int) from rfl,
    u64_and_nat _ _ (by omega) (by omega), u64_and_nat _ _ h (by omega)]
  rw [← Int.natCast_add]
  exact wrap_nat64 _ hv
theorem o3_nat (n : Nat) (h : n / 16 + n < 18446744073709551616) : o3 n = (v3 1085102592571150095 n : Nat) := by
  unfold o3
  rw [show (n : Int) / 16 + n = ((n / 16 + n : Nat) : Int) by omega, wrap_nat64 _ h, show (1085102592571150095 : Int) = ((1085102592571150095 : Nat) : Int) from rfl,
    u64_and_nat _ _ h (by omega)]
  rfl
theorem v2_small (m v : Nat) (h : m ≤ 3689348814741910323) : v2 m v ≤ 7378697629483820646 := by
  have b := @Nat.and_le_right v m; have c := @Nat.and_le_right (v / 4) m
  unfold v2; omega
theorem mk85 : mk 85 8 = 6148914691236517205 := by decide
theorem mk51 : mk 51 8 = 3689348814741910323 := by decide
theorem mk15 : mk 15 8 = 1085102592571150095 := by decide
theorem o4_nat (b : Nat) (h : b + b / 256 < 18446744073709551616) : o4 b = (b + b / 256 : Nat) := by
  unfold o4
  rw [show (b : Int) + (b : Int) / 256 = ((b + b / 256 : Nat) : Int) by omega]
  exact wrap_nat64 _ h
theorem o5_nat (b : Nat) (h : b + b / 65536 < 18446744073709551616) : o5 b = (b + b / 65536 : Nat) := by
  unfold o5
  rw [show (b : Int) + (b : Int) / 65536 = ((b + b / 65536 : Nat) : Int) by omega]
  exact wrap_nat64 _ h
theorem o6_nat (b : Nat) (h : b + b / 4294967296 < 18446744073709551616) : o6 b = (b + b / 4294967296 : Nat) := by
  unfold o6
  rw [show (b : Int) + (b : Int) / 4294967296 = ((b + b / 4294967296 : Nat) : Int) by omega]
  exact wrap_nat64 _ h
theorem last_nat (z : Nat) (_h : z < 18446744073709551616) : bits .and .i64 (wrap64 (z : Int)) 127 = ((z % 128 : Nat) : Int) := by
  rw [i64_and127]
  unfold wrap64
  omega
/-- the three last steps -/
theorem ones_end (b p : Nat) (t1 : (b + b / 256 + (b + b / 256) / 65536 + (b + b / 256 + (b + b / 256) / 65536) / 4294967296) % 128 = p)
    (t2 : (b + b / 256 + (b + b / 256) / 65536 + (b + b / 256 + (b + b / 256) / 65536) / 4294967296) < 18446744073709551616) :
    bits .and .i64 (wrap64 (o6 (o5 (o4 (b : Int))))) 127 = (p : Nat) := by
  rw [o4_nat b (by omega), o5_nat _ (by omega), o6_nat _ t2, last_nat _ t2, t1]
/-- **the sum by halves counts the bits** -/
theorem onesI_pop (x : BitVec 64) : onesI (wN x) = (pop 64 x.toNat : Nat) := by
  unfold wN
  have hx : x.toNat < 18446744073709551616 := x.isLt
  have hs := (all_steps 8 x.toNat hx).1
  rw [mk85, mk51, mk15] at hs
  have ht := tail8 _ x.toNat rfl
  rw [← hs, sum8_pop] at ht
  have h1 := o1_nat _ hx
  have h2 := o2_nat _ (v_lt 6148914691236517205 x.toNat (by decide)).1
  have h2s := v2_small 3689348814741910323 (v1 6148914691236517205 x.toNat) (Nat.le_refl _)
  have h3 := o3_nat (v2 3689348814741910323 (v1 6148914691236517205 x.toNat)) (by clear hs ht h1 h2; omega)
  unfold onesI
  rw [h1, h2, h3]
  clear h1 h2 h3 h2s hs
  exact ones_end _ _ ht.1 ht.2
end Go.Proofs.YtgamknphlmcgnaaGreatDoor
end
section
set_option linter.unusedSimpArgs false
set_option linter.unusedVariables false
set_option maxRecDepth 100000
set_option linter.unnecessarySimpa false
namespace Go.Proofs.YtgamknphlmcgnaaGreatDoor
/-- a digit to the base 36 -/
def dg36 (k : Nat) : UInt8 := if k < 10 then (48 + k).toUInt8 else (87 + k).toUInt8
/-- a number to the base 36 -/
def fmt36 (u : Nat) : List UInt8 := if h : u < 36 then [dg36 u] else fmt36 (u / 36) ++ [dg36 (u % 36)]
termination_by u
theorem fmt36_lt {u : Nat} (h : u < 36) : fmt36 u = [dg36 u] := by rw [fmt36, dif_pos h]
theorem fmt36_ge {u : Nat} (h : ¬ u < 36) : fmt36 u = fmt36 (u / 36) ++ [dg36 (u % 36)] := by rw [fmt36, dif_neg h]
theorem fmt36_len : ∀ (k u : Nat), u < 36 ^ (k + 1) → (fmt36 u).length ≤ k + 1
  | 0, u, h => by rw [fmt36_lt (by simpa using h)]; simp
  | k + 1, u, h => by
    by_cases hu : u < 36
    · rw [fmt36_lt hu]; simp
    · rw [fmt36_ge hu, List.length_append]
      have := fmt36_len k (u / 36) (by rw [Nat.pow_succ] at h; omega)
      simp; omega
inductive RE where
  | node (op : Nat) (set : BS) (kids : List RE)
namespace RE
def op : RE → Nat | node o _ _ => o
def set : RE → BS | node _ s _ => s
def kids : RE → List RE | node _ _ k => k
mutual
def size : RE → Nat | node _ _ ks => 1 + sizes ks
def sizes : List RE → Nat | [] => 0 | k :: ks => size k + sizes ks
end
mutual
/-- is the text of no bytes one of an expression's? -/
def null : RE → Bool | node o _ ks => if o = 1 ∨ o = 5 then true else if o = 3 ∨ o = 6 then nullAll ks else if o = 4 then nullAny ks else if o = 7 then nullBut ks else false
def nullAll : List RE → Bool | [] => true | k :: ks => null k && nullAll ks
def nullAny : List RE → Bool | [] => false | k :: ks => null k || nullAny ks
def nullBut : List RE → Bool | [] => false | k :: ks => null k && !nullAny ks
end
def words36 (s : BS) : List (List UInt8) := [fmt36 s.a.toNat, fmt36 s.b.toNat, fmt36 s.c.toNat, fmt36 s.d.toNat]
/-- the parts of the text by which an expression is told apart -/
def parts (o : Nat) (s : BS) (keys : List (List UInt8)) : List (List UInt8) := [(48 + o).toUInt8] :: ((if o = 2 then words36 s else []) ++ keys)
mutual
def key : RE → List UInt8 | node o s ks => [40] ++ Lib.join (parts o s (keys ks)) [32] ++ [41]
def keys : List RE → List (List UInt8) | [] => [] | k :: ks => key k :: keys ks
end
theorem keys_map (l : List RE) : keys l = l.map key := by induction l with | nil => rfl | cons a l ih => simp [keys, ih]
theorem sizes_append (l l' : List RE) : sizes (l ++ l') = sizes l + sizes l' := by
  induction l with
  | nil => simp [sizes]
  | cons a l ih => simp [sizes, ih]; omega
theorem nullAll_eq (l : List RE) : nullAll l = l.all null := by induction l with | nil => rfl | cons a l ih => simp [nullAll, ih]
theorem nullAny_eq (l : List RE) : nullAny l = l.any null := by induction l with | nil => rfl | cons a l ih => simp [nullAny, ih]
def nothing : RE := node 0 BS.none []
def empty : RE := node 1 BS.none []
/-- of one byte of a set -/
def one (s : BS) : RE := if s = BS.none then nothing else node 2 s []
/-- the kids of those of an op in their places -/
def flat1 (o : Nat) : Option RE → List RE
  | none => [nothing]
  | some r => if r.op = o then r.kids else [r]
def flat (o : Nat) (l : List (Option RE)) : List RE := l.flatMap (flat1 o)
def seqL (all : List RE) : RE := match all with
  | [] => empty
  | [x] => x
  | _ => node 3 BS.none all
/-- one behind the other -/
def thenL (l : List (Option RE)) : RE :=
  if ((flat 3 l).filter fun r => r.op != 1).any (fun r => r.op == 0) then nothing else seqL ((flat 3 l).filter fun r => r.op != 1)
def many : Option RE → RE
  | none => empty
  | some r => if r.op = 0 ∨ r.op = 1 then empty else if r.op = 5 then r else node 5 BS.none [r]
def word (bs : List Nat) : RE := thenL (bs.map fun b => some (one (BS.none.add b)))
end RE
end Go.Proofs.YtgamknphlmcgnaaGreatDoor
namespace Go.Proofs.YtgamknphlmcgnaaGreatDoor
def undg (c : UInt8) : Nat := if c.toNat < 58 then c.toNat - 48 else c.toNat - 87
theorem undg_dg : ∀ k, k < 36 → undg (dg36 k) = k := by decide
theorem dg36_ne : ∀ k, k < 36 → dg36 k ≠ 32 ∧ dg36 k ≠ 41 := by decide
def val36 (l : List UInt8) : Nat := l.foldl (fun n c => 36 * n + undg c) 0
theorem val36_fmt (u : Nat) : val36 (fmt36 u) = u := by
  induction u using Nat.strongRecOn with
  | ind u ih =>
    by_cases h : u < 36
    · rw [fmt36_lt h]; simp [val36, undg_dg u h]
    · rw [fmt36_ge h, val36, List.foldl_append]
      have := ih (u / 36) (by omega)
      rw [val36] at this
      rw [this, List.foldl_cons, List.foldl_nil, undg_dg _ (by omega)]; omega
theorem fmt36_inj {u v : Nat} (h : fmt36 u = fmt36 v) : u = v := by rw [← val36_fmt u, ← val36_fmt v, h]
theorem fmt36_ne (u : Nat) : ∀ c ∈ fmt36 u, c ≠ 32 ∧ c ≠ 41 := by
  induction u using Nat.strongRecOn with
  | ind u ih =>
    intro c hc
    by_cases h : u < 36
    · rw [fmt36_lt h] at hc; simp at hc; subst hc; exact dg36_ne u h
    · rw [fmt36_ge h] at hc
      simp at hc
      rcases hc with hc | hc
      · exact ih _ (by omega) c hc
      · subst hc; exact dg36_ne _ (by omega)
/-- what comes ahead of the first of two bytes is one -/
theorem ahead_inj {d e : List UInt8} {c c' : UInt8} {x y : List UInt8} (hd : ∀ b ∈ d, b ≠ 32 ∧ b ≠ 41) (he : ∀ b ∈ e, b ≠ 32 ∧ b ≠ 41) (hc : c = 32 ∨ c = 41) (hc' : c' = 32 ∨ c' = 41) (h : d ++ c :: x = e ++ c' :: y) : d = e ∧ c = c' ∧ x = y := by
  induction d generalizing e with
  | nil =>
    cases e with
    | nil => simp at h; exact ⟨rfl, h⟩
    | cons b e =>
      simp at h
      have := he b (by simp)
      rcases hc with rfl | rfl
      · exact absurd h.1.symm this.1
      · exact absurd h.1.symm this.2
  | cons a d ih =>
    cases e with
    | nil =>
      simp at h
      have := hd a (by simp)
      rcases hc' with rfl | rfl
      · exact absurd h.1 this.1
      · exact absurd h.1 this.2
    | cons b e =>
      simp at h
      obtain ⟨h1, h2, h3⟩ := ih (fun b hb => hd b (by simp [hb])) (fun b hb => he b (by simp [hb])) h.2
      exact ⟨by rw [h.1, h1], h2, h3⟩
namespace RE
mutual
def wf : RE → Prop | node o s ks => o < 8 ∧ (o ≠ 2 → s = BS.none) ∧ wfs ks
def wfs : List RE → Prop | [] => True | k :: ks => wf k ∧ wfs ks
end
/-- the parts, each behind a blank, and what ends them -/
def tailK (l : List (List UInt8)) (z : List UInt8) : List UInt8 := match l with | [] => 41 :: z | k :: l => 32 :: (k ++ tailK l z)
theorem join_tail (p : List UInt8) (l : List (List UInt8)) (z : List UInt8) : Lib.join (p :: l) [32] ++ 41 :: z = p ++ tailK l z := by
  induction l generalizing p with
  | nil => simp [Lib.join, tailK]
  | cons a l ih =>
    rw [tailK, ← ih a]
    simp [Lib.join]
theorem key_eq (o : Nat) (s : BS) (ks : List RE) (z : List UInt8) : key (node o s ks) ++ z = 40 :: (48 + o).toUInt8 :: tailK ((if o = 2 then words36 s else []) ++ keys ks) z := by
  have := join_tail [(48 + o).toUInt8] ((if o = 2 then words36 s else []) ++ keys ks) z
  simp only [key, parts]
  simp only [List.append_assoc, List.cons_append, List.nil_append] at this ⊢
  rw [this]
theorem tailK_head (l : List (List UInt8)) (z : List UInt8) : ∃ c y, tailK l z = c :: y ∧ (c = 32 ∨ c = 41) := by
  cases l with
  | nil => exact ⟨41, z, rfl, .inr rfl⟩
  | cons k l => exact ⟨32, _, rfl, .inl rfl⟩
theorem word_inj {u v : Nat} {l l' : List (List UInt8)} {x y : List UInt8} (h : tailK (fmt36 u :: l) x = tailK (fmt36 v :: l') y) : u = v ∧ tailK l x = tailK l' y := by
  obtain ⟨c, z, hz, hc⟩ := tailK_head l x
  obtain ⟨c', z', hz', hc'⟩ := tailK_head l' y
  simp only [tailK, hz, hz', List.cons.injEq, true_and] at h
  obtain ⟨h1, h2, h3⟩ := ahead_inj (fmt36_ne u) (fmt36_ne v) hc hc' h
  exact ⟨fmt36_inj h1, by rw [hz, hz', h2, h3]⟩
theorem op_inj : ∀ o, o < 8 → ∀ o', o' < 8 → (48 + o).toUInt8 = (48 + o').toUInt8 → o = o' := by decide
mutual
theorem key_inj' : (r r' : RE) → (x y : List UInt8) → wf r → wf r' → key r ++ x = key r' ++ y → r = r' ∧ x = y
  | node o s ks, node o' s' ks', x, y, h, h', e => by
    simp only [wf] at h h'
    rw [key_eq, key_eq] at e
    simp only [List.cons.injEq, true_and] at e
    obtain ⟨e1, e2⟩ := e
    obtain rfl := op_inj o h.1 o' h'.1 e1
    by_cases ho : o = 2
    · simp only [ho, if_true, words36, List.cons_append, List.nil_append] at e2
      obtain ⟨a1, e2⟩ := word_inj e2
      obtain ⟨a2, e2⟩ := word_inj e2
      obtain ⟨a3, e2⟩ := word_inj e2
      obtain ⟨a4, e2⟩ := word_inj e2
      obtain ⟨h1, h2⟩ := keys_inj' ks ks' x y h.2.2 h'.2.2 e2
      obtain ⟨sa, sb, sc, sd⟩ := s
      obtain ⟨ta, tb, tc, td⟩ := s'
      have b1 : sa = ta := BitVec.eq_of_toNat_eq a1
      have b2 : sb = tb := BitVec.eq_of_toNat_eq a2
      have b3 : sc = tc := BitVec.eq_of_toNat_eq a3
      have b4 : sd = td := BitVec.eq_of_toNat_eq a4
      rw [b1, b2, b3, b4, h1]; exact ⟨rfl, h2⟩
    · simp only [if_neg ho, List.nil_append] at e2
      obtain ⟨h1, h2⟩ := keys_inj' ks ks' x y h.2.2 h'.2.2 e2
      rw [h1, h.2.1 ho, h'.2.1 ho]; exact ⟨rfl, h2⟩
theorem keys_inj' : (l l' : List RE) → (x y : List UInt8) → wfs l → wfs l' → tailK (keys l) x = tailK (keys l') y → l = l' ∧ x = y
  | [], [], x, y, _, _, e => by simp [keys, tailK] at e; exact ⟨rfl, e⟩
  | [], _ :: _, x, y, _, _, e => by simp [keys, tailK] at e
  | _ :: _, [], x, y, _, _, e => by simp [keys, tailK] at e
  | k :: l, k' :: l', x, y, h, h', e => by
    simp only [keys, tailK, List.cons.injEq, true_and] at e
    simp only [wfs] at h h'
    obtain ⟨h1, h2⟩ := key_inj' k k' _ _ h.1 h'.1 e
    obtain ⟨h3, h4⟩ := keys_inj' l l' x y h.2 h'.2 h2
    exact ⟨by rw [h1, h3], h4⟩
end
theorem key_inj {r r' : RE} (h : wf r) (h' : wf r') (e : key r = key r') : r = r' := (key_inj' r r' [] [] h h' (by simpa using e)).1
theorem tailK_len (l : List (List UInt8)) (z : List UInt8) : (tailK l z).length = 1 + (l.map fun k => k.length + 1).sum + z.length := by
  induction l with
  | nil => simp [tailK]; omega
  | cons k l ih => simp [tailK, ih]; omega
theorem words36_len (s : BS) : ((words36 s).map fun k => k.length + 1).sum ≤ 56 := by
  have h := fun x : BitVec 64 => fmt36_len 12 x.toNat (by have := x.isLt; omega)
  have h1 := h s.a; have h2 := h s.b; have h3 := h s.c; have h4 := h s.d
  simp [words36]; omega
mutual
theorem key_len : (r : RE) → (key r).length + 1 ≤ 64 * size r
  | node o s ks => by
    have e := congrArg List.length (key_eq o s ks [])
    simp only [List.append_nil, List.length_cons, tailK_len, List.map_append, List.sum_append, List.length_nil] at e
    have h := keys_len ks
    have hw := words36_len s
    rw [size]
    by_cases ho : o = 2
    · simp only [ho, if_true] at e; subst ho; omega
    · simp only [if_neg ho, List.map_nil, List.sum_nil] at e; omega
theorem keys_len : (l : List RE) → ((keys l).map fun k => k.length + 1).sum ≤ 64 * sizes l
  | [] => by simp [keys, sizes]
  | k :: l => by
    have h1 := key_len k
    have h2 := keys_len l
    simp only [keys, List.map_cons, List.sum_cons, sizes]; omega
end
theorem join_len (o : Nat) (s : BS) (ks : List RE) : (Lib.join (parts o s (keys ks)) [32]).length + 3 ≤ 64 * (1 + sizes ks) := by
  have h := key_len (node o s ks)
  simp only [key, size, List.length_append, List.length_cons, List.length_nil] at h
  omega
theorem size_pos : (r : RE) → 1 ≤ size r
  | node _ _ _ => by simp [size]
theorem len_sizes (l : List RE) : l.length ≤ sizes l := by
  induction l with
  | nil => simp
  | cons a l ih => have := size_pos a; simp [sizes]; omega
theorem sizes_take (l : List RE) (k : Nat) : sizes (l.take k) ≤ sizes l := by
  conv => rhs; rw [← List.take_append_drop k l, sizes_append]
  omega
theorem take_snoc (l : List RE) (k : Nat) (h : k < l.length) : l.take (k + 1) = l.take k ++ [l.getD k nothing] := by
  rw [List.take_succ_eq_append_getElem h]; simp [List.getD, h]
theorem keys_append (l l' : List RE) : keys (l ++ l') = keys l ++ keys l' := by simp [keys_map]
theorem parts_snoc (o : Nat) (s : BS) (ks : List (List UInt8)) (k : List UInt8) : parts o s (ks ++ [k]) = parts o s ks ++ [k] := by simp [parts]
end RE
end Go.Proofs.YtgamknphlmcgnaaGreatDoor
namespace Go.Proofs.YtgamknphlmcgnaaGreatDoor
namespace RE
def ins (r : RE) : List RE → List RE
  | [] => [r]
  | x :: xs => if r.key < x.key then r :: x :: xs else if x.key < r.key then x :: ins r xs else x :: xs
/-- in order, each once -/
def uniq (l : List RE) : List RE := l.foldr ins []
def Strict (l : List RE) : Prop := l.Pairwise fun a b => a.key < b.key
theorem key_tri {a b : RE} (ha : wf a) (hb : wf b) (h1 : ¬ a.key < b.key) (h2 : ¬ b.key < a.key) : a = b := key_inj ha hb (List.le_antisymm (List.not_lt.1 h2) (List.not_lt.1 h1))
theorem mem_ins {r r' : RE} {l : List RE} (hr : wf r) (hl : ∀ x ∈ l, wf x) : r' ∈ ins r l ↔ r' = r ∨ r' ∈ l := by
  induction l with
  | nil => simp [ins]
  | cons x xs ih =>
    simp only [ins]
    split
    · simp
    · split
      · have := ih (fun y hy => hl y (by simp [hy]))
        simp only [List.mem_cons, this]
        constructor
        · rintro (h | h | h) <;> simp [h]
        · rintro (h | h | h) <;> simp [h]
      · rename_i h1 h2
        have := key_tri hr (hl x (by simp)) h1 h2
        subst this
        simp
theorem strict_ins {r : RE} {l : List RE} (hr : wf r) (hl : ∀ x ∈ l, wf x) (h : Strict l) : Strict (ins r l) := by
  induction l with
  | nil => simp [ins, Strict]
  | cons x xs ih =>
    have h' := List.pairwise_cons.1 h
    simp only [ins]
    split
    · rename_i h1
      refine List.pairwise_cons.2 ⟨fun y hy => ?_, h⟩
      rcases List.mem_cons.1 hy with rfl | hy
      · exact h1
      · exact List.lt_trans h1 (h'.1 y hy)
    · split
      · rename_i h2
        refine List.pairwise_cons.2 ⟨fun y hy => ?_, ih (fun y hy => hl y (by simp [hy])) h'.2⟩
        rcases (mem_ins hr (fun y hy => hl y (by simp [hy]))).1 hy with rfl | hy
        · exact h2
        · exact h'.1 y hy
      · exact h
theorem uniq_spec {l : List RE} (hl : ∀ x ∈ l, wf x) : Strict (uniq l) ∧ ∀ r, r ∈ uniq l ↔ r ∈ l := by
  induction l with
  | nil => simp [uniq, Strict]
  | cons x xs ih =>
    obtain ⟨h1, h2⟩ := ih (fun y hy => hl y (by simp [hy]))
    have hw : ∀ y ∈ uniq xs, wf y := fun y hy => hl y (by simp [(h2 y).1 hy])
    have hx := hl x (by simp)
    refine ⟨strict_ins hx hw h1, fun r => ?_⟩
    show r ∈ ins x (uniq xs) ↔ _
    rw [mem_ins hx hw, h2]; simp
theorem strict_unique : ∀ {l l' : List RE}, Strict l → Strict l' → (∀ r, r ∈ l ↔ r ∈ l') → l = l'
  | [], [], _, _, _ => rfl
  | [], x :: xs, _, _, h => absurd ((h x).2 (by simp)) (by simp)
  | x :: xs, [], _, _, h => absurd ((h x).1 (by simp)) (by simp)
  | x :: xs, y :: ys, h1, h2, h => by
    have a1 := List.pairwise_cons.1 h1
    have a2 := List.pairwise_cons.1 h2
    have hxy : x = y := by
      rcases List.mem_cons.1 ((h x).1 (by simp)) with e | hx
      · exact e
      · rcases List.mem_cons.1 ((h y).2 (by simp)) with e | hy
        · exact e.symm
        · exact absurd (List.lt_trans (a2.1 x hx) (a1.1 y hy)) (List.lt_irrefl _)
    subst hxy
    congr 1
    refine strict_unique a1.2 a2.2 fun r => ?_
    constructor
    · intro hr
      rcases List.mem_cons.1 ((h r).1 (by simp [hr])) with e | hr'
      · subst e; exact absurd (a1.1 r hr) (List.lt_irrefl _)
      · exact hr'
    · intro hr
      rcases List.mem_cons.1 ((h r).2 (by simp [hr])) with e | hr'
      · subst e; exact absurd (a2.1 r hr) (List.lt_irrefl _)
      · exact hr'
theorem uniq_of {m l : List RE} (hm : Strict m) (hl : ∀ x ∈ l, wf x) (h : ∀ r, r ∈ m ↔ r ∈ l) : m = uniq l :=
  strict_unique hm (uniq_spec hl).1 fun r => (h r).trans ((uniq_spec hl).2 r).symm
theorem uniq_sizes (l : List RE) : sizes (uniq l) ≤ sizes l := by
  have hi : ∀ (r : RE) (l : List RE), sizes (ins r l) ≤ size r + sizes l := by
    intro r l
    induction l with
    | nil => simp [ins, sizes]
    | cons x xs ih => simp only [ins]; split; · simp [sizes]
                      · split <;> simp only [sizes] <;> omega
  induction l with
  | nil => simp [uniq, sizes]
  | cons x xs ih => have := hi x (uniq xs); simp only [uniq, List.foldr_cons, sizes] at *; omega
/-- of a row in order, those that aren't as the one ahead: in order, each once -/
theorem uniq_kept (n : Nat) (r : Nat → RE) (kp : Nat → Bool) (hw : ∀ j, j < n → wf (r j)) (hs : ∀ i j, i < j → j < n → ¬ (r j).key < (r i).key) (h0 : kp 0 = true) (hk : ∀ j, 0 < j → j < n → kp j = !decide ((r j).key = (r (j - 1)).key)) :
    ((List.range n).filter kp).map r = uniq ((List.range n).map r) := by
  have hle : ∀ i j, i ≤ j → j < n → ¬ (r j).key < (r i).key := fun i j hij hj => by
    rcases Nat.lt_or_ge i j with h | h
    · exact hs i j h hj
    · obtain rfl : i = j := by omega
      exact List.lt_irrefl _
  refine uniq_of ?_ (by simpa using hw) ?_
  · have hp : ((List.range n).filter kp).Pairwise fun i j => i < j := List.Pairwise.filter _ List.pairwise_lt_range
    refine List.pairwise_map.2 (hp.imp_of_mem fun {i j} hi hj hij => ?_)
    have hj' := List.mem_filter.1 hj
    have hjn : j < n := by simpa using hj'.1
    have hkj := hj'.2
    rw [hk j (by omega) hjn] at hkj
    have hne : (r j).key ≠ (r (j - 1)).key := by simpa using hkj
    have h1 := hle i (j - 1) (by omega) (by omega)
    have h2 := hs (j - 1) j (by omega) hjn
    by_cases h : (r (j - 1)).key < (r j).key
    · exact List.lt_of_le_of_lt (List.not_lt.1 h1) h
    · exact absurd (List.le_antisymm (List.not_lt.1 h) (List.not_lt.1 h2)) hne
  · intro x
    constructor
    · intro hx
      obtain ⟨j, hj, rfl⟩ := List.mem_map.1 hx
      exact List.mem_map.2 ⟨j, (List.mem_filter.1 hj).1, rfl⟩
    · intro hx
      obtain ⟨j, hj, rfl⟩ := List.mem_map.1 hx
      have hjn : j < n := by simpa using hj
      have key : ∀ j, j < n → r j ∈ ((List.range n).filter kp).map r := by
        intro j
        induction j with
        | zero => intro h; exact List.mem_map.2 ⟨0, List.mem_filter.2 ⟨by simpa using h, h0⟩, rfl⟩
        | succ j ih =>
          intro h
          cases hkj : kp (j + 1) with
          | true => exact List.mem_map.2 ⟨j + 1, List.mem_filter.2 ⟨by simpa using h, hkj⟩, rfl⟩
          | false =>
            rw [hk (j + 1) (by omega) h] at hkj
            have he : (r (j + 1)).key = (r j).key := by simpa using hkj
            rw [key_inj (hw _ h) (hw j (by omega)) he]
            exact ih (by omega)
      exact key j hjn
/-- what is joined: the sets of those of one byte made one -/
def joinGo (f : BS → BS → BS) : List RE → List RE → Option RE → List RE
  | [], out, none => uniq out
  | [], out, some x => uniq (out ++ [x])
  | r :: rs, out, x => if r.op ≠ 2 then joinGo f rs (out ++ [r]) x else match x with
    | none => joinGo f rs out (some r)
    | some y => if (one (f y.set r.set)).op = 0 then out ++ [one (f y.set r.set)] else joinGo f rs out (some (one (f y.set r.set)))
def joinL (o : Nat) (f : BS → BS → BS) (l : List (Option RE)) : List RE := joinGo f (flat o l) [] none
def orS (s t : BS) : BS := ⟨s.a ||| t.a, s.b ||| t.b, s.c ||| t.c, s.d ||| t.d⟩
def andS (s t : BS) : BS := ⟨s.a &&& t.a, s.b &&& t.b, s.c &&& t.c, s.d &&& t.d⟩
def minusS (s t : BS) : BS := ⟨s.a &&& ~~~t.a, s.b &&& ~~~t.b, s.c &&& ~~~t.c, s.d &&& ~~~t.d⟩
/-- of one of them -/
def anyOf (all : List RE) : RE := match all with
  | [] => nothing
  | [x] => x
  | _ => node 4 BS.none all
def anyL (l : List (Option RE)) : RE := anyOf ((joinL 4 orS l).filter fun r => r.op != 0)
/-- of all of them -/
def bothOf (all : List RE) : RE := match all with
  | [] => many (some (one BS.all))
  | [x] => x
  | _ => node 6 BS.none all
def bothL (l : List (Option RE)) : RE := if (joinL 6 andS l).any (fun r => r.op == 0) then nothing else bothOf (joinL 6 andS l)
def keyO : Option RE → List UInt8
  | none => []
  | some r => r.key
/-- of one, but not of another one -/
def but (a b : Option RE) : RE := match a with
  | none => nothing
  | some x => if x.op = 0 then nothing else if keyO (some x) = keyO b then nothing else match b with
    | none => x
    | some y => if y.op = 0 then x else if x.op = 2 ∧ y.op = 2 then one (minusS x.set y.set) else node 7 BS.none [x, y]
def sizeO : Option RE → Nat
  | none => 0
  | some r => r.size
end RE
end Go.Proofs.YtgamknphlmcgnaaGreatDoor
namespace Go.Proofs.YtgamknphlmcgnaaGreatDoor
namespace RE
/-- what a node asks of its parts -/
def nfTop (o : Nat) (s : BS) (ks : List RE) : Prop :=
  o < 8 ∧ (o ≠ 2 → s = BS.none) ∧ (o = 2 → s ≠ BS.none) ∧ (o ≤ 2 → ks = []) ∧
  (o = 3 → 2 ≤ ks.length ∧ ∀ k ∈ ks, k.op ≠ 0 ∧ k.op ≠ 1 ∧ k.op ≠ 3) ∧
  (o = 4 → 2 ≤ ks.length ∧ (∀ k ∈ ks, k.op ≠ 0 ∧ k.op ≠ 4) ∧ Strict ks ∧ ∀ x ∈ ks, ∀ y ∈ ks, x.op = 2 → y.op = 2 → x = y) ∧
  (o = 5 → ∃ k, ks = [k] ∧ k.op ≠ 0 ∧ k.op ≠ 1 ∧ k.op ≠ 5) ∧
  (o = 6 → 2 ≤ ks.length ∧ (∀ k ∈ ks, k.op ≠ 0 ∧ k.op ≠ 6) ∧ Strict ks ∧ ∀ x ∈ ks, ∀ y ∈ ks, x.op = 2 → y.op = 2 → x = y) ∧
  (o = 7 → ∃ a b, ks = [a, b] ∧ a.op ≠ 0 ∧ b.op ≠ 0 ∧ a ≠ b ∧ ¬ (a.op = 2 ∧ b.op = 2))
mutual
def nf : RE → Prop | node o s ks => nfTop o s ks ∧ nfs ks
def nfs : List RE → Prop | [] => True | k :: ks => nf k ∧ nfs ks
end
theorem nfs_iff (l : List RE) : nfs l ↔ ∀ r ∈ l, nf r := by
  induction l with
  | nil => simp [nfs]
  | cons a l ih => simp [nfs, ih]
theorem nf_node {o : Nat} {s : BS} {ks : List RE} : nf (node o s ks) ↔ nfTop o s ks ∧ ∀ k ∈ ks, nf k := by rw [nf, nfs_iff]
mutual
theorem nf_wf : (r : RE) → nf r → wf r
  | node o s ks, h => by
    rw [nf] at h
    exact ⟨h.1.1, h.1.2.1, nfs_wfs ks h.2⟩
theorem nfs_wfs : (l : List RE) → nfs l → wfs l
  | [], _ => trivial
  | k :: ks, h => ⟨nf_wf k h.1, nfs_wfs ks h.2⟩
end
theorem nf_kids {r : RE} (h : nf r) : ∀ k ∈ r.kids, nf k := by cases r; exact (nf_node.1 h).2
theorem nf_top {r : RE} (h : nf r) : nfTop r.op r.set r.kids := by cases r; exact (nf_node.1 h).1
theorem nf_ne {r : RE} (h : nf r) (ho : r.op = 3 ∨ r.op = 4 ∨ r.op = 6) : r.kids ≠ [] := by
  have ht := nf_top h
  rintro e
  unfold nfTop at ht
  rw [e] at ht
  rcases ho with ho | ho | ho <;> simp [ho] at ht
theorem nf_nothing : nf nothing := nf_node.2 ⟨by simp [nfTop], by simp⟩
theorem nf_empty : nf empty := nf_node.2 ⟨by simp [nfTop], by simp⟩
theorem nf_one (s : BS) : nf (one s) := by
  unfold one
  split
  · exact nf_nothing
  · rename_i h; exact nf_node.2 ⟨by simp [nfTop, h], by simp⟩
theorem one_op' (s : BS) : (one s).op = if s = BS.none then 0 else 2 := by unfold one; split <;> rfl
/-- expressions that may be nil are in their normal form -/
def nfO (l : List (Option RE)) : Prop := ∀ r, some r ∈ l → nf r
theorem flat1_some (o : Nat) (r : RE) : flat1 o (some r) = if r.op = o then r.kids else [r] := rfl
theorem nf_flat1 (o : Nat) (x : Option RE) (h : ∀ r, x = some r → nf r) : ∀ r ∈ flat1 o x, nf r := by
  cases x with
  | none => intro r hr; have : r = nothing := by simpa [flat1] using hr
            subst this; exact nf_nothing
  | some y =>
    intro r hr
    rw [flat1_some] at hr
    split at hr
    · exact nf_kids (h y rfl) r hr
    · have : r = y := by simpa using hr
      subst this; exact h r rfl
theorem nf_flat {o : Nat} {l : List (Option RE)} (h : nfO l) : ∀ r ∈ flat o l, nf r := by
  intro r hr
  obtain ⟨x, hx, hr⟩ := List.mem_flatMap.1 hr
  exact nf_flat1 o x (fun y hy => h y (by rw [← hy]; exact hx)) r hr
theorem flat_op {o : Nat} (ho : o = 3 ∨ o = 4 ∨ o = 6) {l : List (Option RE)} (h : nfO l) : ∀ r ∈ flat o l, r.op ≠ o := by
  intro r hr0
  obtain ⟨x, hx, hr⟩ := List.mem_flatMap.1 hr0
  cases x with
  | none =>
    have : r = nothing := by simpa [flat1] using hr
    subst this
    show 0 ≠ o
    omega
  | some y =>
    rw [flat1_some] at hr
    have ht := nf_top (h y hx)
    split at hr
    · rename_i hy
      unfold nfTop at ht
      rcases ho with rfl | rfl | rfl
      · exact ((ht.2.2.2.2.1 hy).2 r hr).2.2
      · exact ((ht.2.2.2.2.2.1 hy).2.1 r hr).2
      · exact ((ht.2.2.2.2.2.2.2.1 hy).2.1 r hr).2
    · rename_i hy
      have : r = y := by simpa using hr
      subst this; exact hy
theorem flat_ne {o : Nat} (ho : o = 3 ∨ o = 4 ∨ o = 6) {l : List (Option RE)} (h : nfO l) : ∀ r, some r ∈ l → r.op = o → r.kids ≠ [] := fun r hr hro => nf_ne (h r hr) (by omega)
theorem nf_seqL {all : List RE} (h : ∀ k ∈ all, nf k) (hop : ∀ k ∈ all, k.op ≠ 0 ∧ k.op ≠ 1 ∧ k.op ≠ 3) : nf (seqL all) := by
  unfold seqL
  split
  · exact nf_empty
  · exact h _ (by simp)
  · rename_i h0 h1
    have : 2 ≤ all.length := by
      match all, h0, h1 with
      | [], h0, _ => exact absurd rfl h0
      | [x], _, h1 => exact absurd rfl (h1 x)
      | x :: y :: z, _, _ => simp
    exact nf_node.2 ⟨by simp [nfTop, this]; exact fun k hk => ⟨(hop k hk).1, (hop k hk).2.1, (hop k hk).2.2⟩, h⟩
theorem nf_thenL {l : List (Option RE)} (h : nfO l) : nf (thenL l) := by
  unfold thenL
  split
  · exact nf_nothing
  · rename_i h0
    refine nf_seqL (fun k hk => nf_flat h k (List.mem_filter.1 hk).1) fun k hk => ?_
    have h1 := List.mem_filter.1 hk
    refine ⟨fun e => h0 (List.any_eq_true.2 ⟨k, hk, by simp [e]⟩), by simpa using h1.2, flat_op (.inl rfl) h k h1.1⟩
theorem nf_many {x : Option RE} (h : ∀ r, x = some r → nf r) : nf (many x) := by
  cases x with
  | none => exact nf_empty
  | some r =>
    unfold many
    dsimp only
    split
    · exact nf_empty
    · split
      · exact h r rfl
      · rename_i h1 h2
        exact nf_node.2 ⟨by simp [nfTop]; omega, by simpa using h r rfl⟩
theorem nf_but {a b : Option RE} (ha : ∀ r, a = some r → nf r) (hb : ∀ r, b = some r → nf r) : nf (but a b) := by
  cases a with
  | none => exact nf_nothing
  | some x =>
    unfold but
    dsimp only
    split
    · exact nf_nothing
    · split
      · exact nf_nothing
      · cases b with
        | none => exact ha x rfl
        | some y =>
          dsimp only
          split
          · exact ha x rfl
          · split
            · exact nf_one _
            · rename_i h1 h2 h3 h4
              refine nf_node.2 ⟨?_, ?_⟩
              · unfold nfTop
                refine ⟨by omega, fun _ => rfl, by omega, by omega, by omega, by omega, by omega, by omega, fun _ => ⟨x, y, rfl, h1, h3, fun e => h2 (by rw [e]), h4⟩⟩
              · intro k hk
                simp only [List.mem_cons, List.not_mem_nil, or_false] at hk
                rcases hk with rfl | rfl
                · exact ha _ rfl
                · exact hb _ rfl
theorem nf_set {r : RE} (h : nf r) (h2 : r.op = 2) : r.set ≠ BS.none := (nf_top h).2.2.1 h2
/-- what is known of what was joined so far -/
def JOk (o : Nat) (out : List RE) (x : Option RE) : Prop := (∀ r ∈ out, nf r ∧ r.op ≠ o ∧ r.op ≠ 2) ∧ ∀ y, x = some y → nf y ∧ y.op = 2
theorem joinGo_nf {o : Nat} (ho : o = 4 ∨ o = 6) (f : BS → BS → BS) : ∀ (l out : List RE) (x : Option RE), (∀ r ∈ l, nf r ∧ r.op ≠ o) → JOk o out x →
    (∃ m s t, joinGo f l out x = m ++ [nothing] ∧ (∀ r ∈ m, nf r) ∧ s ≠ BS.none ∧ t ≠ BS.none ∧ f s t = BS.none) ∨ (Strict (joinGo f l out x) ∧ ∀ r ∈ joinGo f l out x, nf r ∧ r.op ≠ o ∧ ∀ r' ∈ joinGo f l out x, r.op = 2 → r'.op = 2 → r = r')
  | [], out, x, _, h => by
    right
    have key : ∀ m : List RE, (∀ r ∈ m, nf r ∧ r.op ≠ o) → (∀ r ∈ m, ∀ r' ∈ m, r.op = 2 → r'.op = 2 → r = r') →
        Strict (uniq m) ∧ ∀ r ∈ uniq m, nf r ∧ r.op ≠ o ∧ ∀ r' ∈ uniq m, r.op = 2 → r'.op = 2 → r = r' := fun m hm h2 => by
      have hw : ∀ r ∈ m, wf r := fun r hr => nf_wf r (hm r hr).1
      obtain ⟨h3, h4⟩ := uniq_spec hw
      exact ⟨h3, fun r hr => ⟨(hm r ((h4 r).1 hr)).1, (hm r ((h4 r).1 hr)).2, fun r' hr' => h2 r ((h4 r).1 hr) r' ((h4 r').1 hr')⟩⟩
    cases x with
    | none =>
      simp only [joinGo]
      exact key out (fun r hr => ⟨(h.1 r hr).1, (h.1 r hr).2.1⟩) fun r hr r' hr' e => absurd e (h.1 r hr).2.2
    | some y =>
      simp only [joinGo]
      obtain ⟨hy, hy2⟩ := h.2 y rfl
      refine key _ (fun r hr => ?_) fun r hr r' hr' e e' => ?_
      · rcases List.mem_append.1 hr with hr | hr
        · exact ⟨(h.1 r hr).1, (h.1 r hr).2.1⟩
        · rw [List.mem_singleton.1 hr]; exact ⟨hy, by omega⟩
      · rcases List.mem_append.1 hr with hr | hr
        · exact absurd e (h.1 r hr).2.2
        · rcases List.mem_append.1 hr' with hr' | hr'
          · exact absurd e' (h.1 r' hr').2.2
          · rw [List.mem_singleton.1 hr, List.mem_singleton.1 hr']
  | r :: rs, out, x, hl, h => by
    have hr := hl r (by simp)
    have hrs : ∀ r ∈ rs, nf r ∧ r.op ≠ o := fun y hy => hl y (by simp [hy])
    by_cases h2 : r.op = 2
    · cases x with
      | none =>
        simp only [joinGo, h2]
        simpa using joinGo_nf ho f rs out (some r) hrs ⟨h.1, fun y hy => by cases hy; exact ⟨hr.1, h2⟩⟩
      | some y =>
        by_cases h0 : (one (f y.set r.set)).op = 0
        · left
          have hn : f y.set r.set = BS.none := by
            rw [one_op'] at h0
            by_cases e : f y.set r.set = BS.none
            · exact e
            · rw [if_neg e] at h0; omega
          have e : joinGo f (r :: rs) out (some y) = out ++ [nothing] := by
            have e1 : one (f y.set r.set) = nothing := by unfold one; rw [if_pos hn]
            simp [joinGo, h2, e1, show nothing.op = 0 from rfl]
          rw [e]
          exact ⟨out, y.set, r.set, rfl, fun r hr => (h.1 r hr).1, nf_set (h.2 y rfl).1 (h.2 y rfl).2, nf_set hr.1 h2, hn⟩
        · have e : joinGo f (r :: rs) out (some y) = joinGo f rs out (some (one (f y.set r.set))) := by simp [joinGo, h2, h0]
          rw [e]
          refine joinGo_nf ho f rs out _ hrs ⟨h.1, fun z hz => ?_⟩
          cases hz
          refine ⟨nf_one _, ?_⟩
          rw [one_op'] at h0 ⊢
          split at h0
          · omega
          · rename_i e; rw [if_neg e]
    · simp only [joinGo, ne_eq, h2, not_false_eq_true, if_true]
      refine joinGo_nf ho f rs (out ++ [r]) x hrs ⟨fun y hy => ?_, h.2⟩
      rcases List.mem_append.1 hy with hy | hy
      · exact h.1 y hy
      · rw [List.mem_singleton.1 hy]; exact ⟨hr.1, hr.2, h2⟩
theorem orS_none {s t : BS} (h : orS s t = BS.none) : s = BS.none := by
  obtain ⟨a, b, c, d⟩ := s
  obtain ⟨a', b', c', d'⟩ := t
  have e : ∀ x y : BitVec 64, x ||| y = 0 → x = 0 := fun x y h => by
    apply BitVec.eq_of_getLsbD_eq
    intro i hi
    have := congrArg (fun z : BitVec 64 => z.getLsbD i) h
    simp at this
    simp [this.1]
  simp only [orS, BS.none, BS.mk.injEq] at h ⊢
  exact ⟨e _ _ h.1, e _ _ h.2.1, e _ _ h.2.2.1, e _ _ h.2.2.2⟩
theorem two_le {all : List RE} (h0 : all ≠ []) (h1 : ∀ x, all ≠ [x]) : 2 ≤ all.length := by
  match all, h0, h1 with
  | [], h0, _ => exact absurd rfl h0
  | [x], _, h1 => exact absurd rfl (h1 x)
  | x :: y :: z, _, _ => simp
theorem nf_anyOf {all : List RE} (h : ∀ k ∈ all, nf k ∧ k.op ≠ 0 ∧ k.op ≠ 4) (hs : Strict all) (h2 : ∀ x ∈ all, ∀ y ∈ all, x.op = 2 → y.op = 2 → x = y) : nf (anyOf all) := by
  unfold anyOf
  split
  · exact nf_nothing
  · exact (h _ (by simp)).1
  · rename_i h0 h1
    have hl := two_le (fun e => h0 e) (fun x e => h1 x e)
    refine nf_node.2 ⟨?_, fun k hk => (h k hk).1⟩
    unfold nfTop
    exact ⟨by omega, fun _ => rfl, by omega, by omega, by omega, fun _ => ⟨hl, fun k hk => (h k hk).2, hs, h2⟩, by omega, by omega, by omega⟩
theorem nf_bothOf {all : List RE} (h : ∀ k ∈ all, nf k ∧ k.op ≠ 0 ∧ k.op ≠ 6) (hs : Strict all) (h2 : ∀ x ∈ all, ∀ y ∈ all, x.op = 2 → y.op = 2 → x = y) : nf (bothOf all) := by
  unfold bothOf
  split
  · exact nf_many fun r hr => by cases hr; exact nf_one _
  · exact (h _ (by simp)).1
  · rename_i h0 h1
    have hl := two_le (fun e => h0 e) (fun x e => h1 x e)
    refine nf_node.2 ⟨?_, fun k hk => (h k hk).1⟩
    unfold nfTop
    exact ⟨by omega, fun _ => rfl, by omega, by omega, by omega, by omega, by omega, fun _ => ⟨hl, fun k hk => (h k hk).2, hs, h2⟩, by omega⟩
theorem joinL_or_spec {l : List (Option RE)} (h : nfO l) : Strict (joinL 4 orS l) ∧ ∀ r ∈ joinL 4 orS l, nf r ∧ r.op ≠ 4 ∧ ∀ r' ∈ joinL 4 orS l, r.op = 2 → r'.op = 2 → r = r' := by
  have hl : ∀ r ∈ flat 4 l, nf r ∧ r.op ≠ 4 := fun r hr => ⟨nf_flat h r hr, flat_op (by omega) h r hr⟩
  rcases joinGo_nf (.inl rfl) orS (flat 4 l) [] none hl ⟨by simp, by simp⟩ with ⟨_, _, _, _, _, hs, _, he⟩ | h2
  · exact absurd (orS_none he) hs
  · exact h2
theorem Strict.filter {l : List RE} (h : Strict l) (p : RE → Bool) : Strict (l.filter p) := List.Pairwise.filter _ h
theorem nf_anyL {l : List (Option RE)} (h : nfO l) : nf (anyL l) := by
  obtain ⟨h1, h2⟩ := joinL_or_spec h
  refine nf_anyOf (fun k hk => ?_) (h1.filter _) fun x hx y hy => (h2 x (List.mem_filter.1 hx).1).2.2 y (List.mem_filter.1 hy).1
  have hk' := List.mem_filter.1 hk
  exact ⟨(h2 k hk'.1).1, by simpa using hk'.2, (h2 k hk'.1).2.1⟩
theorem nf_bothL {l : List (Option RE)} (h : nfO l) : nf (bothL l) := by
  unfold bothL
  split
  · exact nf_nothing
  · rename_i h0
    have hl : ∀ r ∈ flat 6 l, nf r ∧ r.op ≠ 6 := fun r hr => ⟨nf_flat h r hr, flat_op (by omega) h r hr⟩
    have hop : ∀ r ∈ joinL 6 andS l, r.op ≠ 0 := fun r hr e => h0 (List.any_eq_true.2 ⟨r, hr, by simp [e]⟩)
    rcases joinGo_nf (.inr rfl) andS (flat 6 l) [] none hl ⟨by simp, by simp⟩ with ⟨m, _, _, e, _⟩ | ⟨h1, h2⟩
    · exact absurd rfl (hop nothing (by unfold joinL; rw [e]; simp))
    · exact nf_bothOf (fun k hk => ⟨(h2 k hk).1, hop k hk, (h2 k hk).2.1⟩) h1 fun x hx => (h2 x hx).2.2
theorem joinGo_sizes (f : BS → BS → BS) : ∀ (l out : List RE) (x : Option RE), sizes (joinGo f l out x) ≤ sizes l + sizes out + sizeO x
  | [], out, none => by simp only [joinGo, sizes, sizeO]; have := uniq_sizes out; omega
  | [], out, some y => by simp only [joinGo, sizes, sizeO]; have := uniq_sizes (out ++ [y]); rw [sizes_append] at this; simp only [sizes] at this; omega
  | r :: rs, out, x => by
    have hr := size_pos r
    have hone : ∀ s, (one s).size = 1 := fun s => by unfold one; split <;> simp [nothing, size, sizes]
    by_cases h2 : r.op = 2
    · cases x with
      | none =>
        have := joinGo_sizes f rs out (some r)
        simp only [joinGo, h2, sizes, sizeO] at this ⊢
        simp only [ne_eq, not_true_eq_false, if_false]; omega
      | some y =>
        by_cases h0 : (one (f y.set r.set)).op = 0
        · have := hone (f y.set r.set)
          simp only [joinGo, h2, h0, ne_eq, not_true_eq_false, if_false, if_true, sizes_append, sizes, sizeO]; omega
        · have := joinGo_sizes f rs out (some (one (f y.set r.set)))
          have := hone (f y.set r.set)
          have := size_pos y
          simp only [joinGo, h2, h0, ne_eq, not_true_eq_false, if_false, sizes, sizeO] at *; omega
    · have := joinGo_sizes f rs (out ++ [r]) x
      simp only [joinGo, ne_eq, h2, not_false_eq_true, if_true, sizes_append, sizes] at this ⊢; omega
theorem joinL_sizes (o : Nat) (f : BS → BS → BS) (l : List (Option RE)) : sizes (joinL o f l) ≤ sizes (flat o l) := by
  have := joinGo_sizes f (flat o l) [] none
  simpa [joinL, sizes, sizeO] using this
theorem sizes_filter (l : List RE) (p : RE → Bool) : sizes (l.filter p) ≤ sizes l := by
  induction l with
  | nil => simp
  | cons a l ih => rw [List.filter_cons]; split <;> simp only [sizes] <;> omega
theorem one_size' (s : BS) : (one s).size = 1 := by unfold one; split <;> simp [nothing, size, sizes]
def sizeOs (l : List (Option RE)) : Nat := (l.map fun x => 1 + sizeO x).sum
theorem sizes_flat (o : Nat) (l : List (Option RE)) : sizes (flat o l) ≤ sizeOs l := by
  induction l with
  | nil => simp [flat, sizes, sizeOs]
  | cons x l ih =>
    have h1 : sizes (flat1 o x) ≤ 1 + sizeO x := by
      cases x with
      | none => simp [flat1, sizes, nothing, size, sizeO]
      | some r =>
        rw [flat1_some]
        split
        · cases r; simp [kids, sizeO, size]; omega
        · simp [sizes, sizeO]
    simp only [flat, List.flatMap_cons, sizes_append, sizeOs, List.map_cons, List.sum_cons] at ih ⊢
    omega
theorem size_thenL (l : List (Option RE)) : (thenL l).size ≤ 1 + sizeOs l := by
  have h1 := sizes_flat 3 l
  have h2 := sizes_filter (flat 3 l) fun r => r.op != 1
  unfold thenL
  split
  · simp [nothing, size, sizes]
  · generalize (flat 3 l).filter (fun r => r.op != 1) = F at *
    unfold seqL
    split
    · simp [empty, size, sizes]
    · simp [sizes] at h2; omega
    · simp only [size]; omega
theorem size_anyL (l : List (Option RE)) : (anyL l).size ≤ 1 + sizeOs l := by
  have h1 := sizes_flat 4 l
  have h2 := sizes_filter (joinL 4 orS l) fun r => r.op != 0
  have h3 := joinL_sizes 4 orS l
  unfold anyL
  generalize (joinL 4 orS l).filter (fun r => r.op != 0) = F at *
  unfold anyOf
  split
  · simp [nothing, size, sizes]
  · simp [sizes] at h2; omega
  · simp only [size]; omega
theorem size_many (x : Option RE) : (many x).size ≤ 1 + sizeO x := by
  cases x with
  | none => simp [many, empty, size, sizes]
  | some r =>
    unfold many
    dsimp only
    split
    · simp [empty, size, sizes]
    · split <;> simp [sizeO, size, sizes]
theorem size_bothL (l : List (Option RE)) : (bothL l).size ≤ 2 + sizeOs l := by
  have h1 := sizes_flat 6 l
  have h3 := joinL_sizes 6 andS l
  unfold bothL
  split
  · simp [nothing, size, sizes]; omega
  · generalize joinL 6 andS l = F at *
    unfold bothOf
    split
    · have := size_many (some (one BS.all))
      have h : (one BS.all).size = 1 := one_size' _
      simp only [sizeO] at this; omega
    · simp [sizes] at h3; omega
    · simp only [size]; omega
theorem size_but (a b : Option RE) : (but a b).size ≤ 1 + sizeO a + sizeO b := by
  cases a with
  | none => simp [but, nothing, size, sizes]; omega
  | some x =>
    unfold but
    dsimp only
    split
    · simp [nothing, size, sizes]; omega
    · split
      · simp [nothing, size, sizes]; omega
      · cases b with
        | none => simp [sizeO]
        | some y =>
          dsimp only
          split
          · simp [sizeO]; omega
          · split
            · have := one_size' (minusS x.set y.set); omega
            · simp [sizeO, size, sizes]; omega
end RE
end Go.Proofs.YtgamknphlmcgnaaGreatDoor
end
section
set_option linter.unusedSimpArgs false
set_option linter.unusedVariables false
set_option maxRecDepth 100000
set_option linter.unnecessarySimpa false
namespace Go.Proofs.YtgamknphlmcgnaaGreatDoor
open Go.RowKit
theorem undStr : Tryz.prog.underlying 9 = some .string := by kernel_rfl
theorem dig_list : ∀ k, (h : k < 36) → ([48, 49, 50, 51, 52, 53, 54, 55, 56, 57, 97, 98, 99, 100, 101, 102, 103, 104, 105, 106, 107, 108, 109, 110, 111, 112, 113, 114, 115, 116, 117, 118, 119, 120, 121, 122] : List UInt8)[k]'h = dg36 k := by decide
theorem dig_at (k : Nat) (h : k < 36) : (⟨#[48, 49, 50, 51, 52, 53, 54, 55, 56, 57, 97, 98, 99, 100, 101, 102, 103, 104, 105, 106, 107, 108, 109, 110, 111, 112, 113, 114, 115, 116, 117, 118, 119, 120, 121, 122]⟩ : ByteArray)[k]'h = dg36 k := dig_list k h
/-- 65 bytes: what has been written stands at the end -/
def row65 (l : List UInt8) : Array Value := (List.replicate (65 - l.length) (Value.int .u8 0) ++ l.map fun c => Value.int .u8 (c.toNat : Int)).toArray
theorem row65_get (l : List UInt8) (h : l.length ≤ 65) (j : Nat) (hj : j < 65) : ∃ u : Int, (row65 l)[j]? = some (.int .u8 u) := by
  by_cases hl : j < 65 - l.length
  · refine ⟨0, ?_⟩
    unfold row65
    rw [List.getElem?_toArray, List.getElem?_append_left (by simpa using hl), List.getElem?_replicate, if_pos hl]
  · obtain ⟨c, hc⟩ : ∃ c, l[j - (65 - l.length)]? = some c := ⟨_, List.getElem?_eq_getElem (by omega)⟩
    refine ⟨(c.toNat : Int), ?_⟩
    unfold row65
    rw [List.getElem?_toArray, List.getElem?_append_right (by simp; omega)]
    simp [hc]
theorem row65_set (l : List UInt8) (c : UInt8) (h : l.length ≤ 64) : (row65 l).setIfInBounds (64 - l.length) (.int .u8 (c.toNat : Int)) = row65 (c :: l) := by
  have e : 65 - l.length = (64 - l.length) + 1 := by omega
  unfold row65
  rw [List.setIfInBounds_toArray, e, List.replicate_succ', List.append_assoc, List.set_append_right _ _ (by simp)]
  have e2 : 65 - (c :: l).length = 64 - l.length := by simp
  rw [e2]
  simp
theorem row65_at (l : List UInt8) (h : l.length ≤ 65) (i : Nat) (hi : i < l.length) : (row65 l)[65 - l.length + i]? = some (.int .u8 ((l.getD i 0).toNat : Int)) := by
  unfold row65
  simp [List.getElem?_append_right, hi]
theorem strOfNums_bytes (l : List UInt8) : strOfNums (l.map fun c => (c.toNat : Int)) = ⟨l.toArray⟩ := by
  unfold strOfNums
  congr 1
  simp [Function.comp_def]
theorem und65 : Tryz.prog.underlying 223 = some (.array 65 5) := by kernel_rfl
theorem undBytes : Tryz.prog.underlying 139 = some (.slice 5) := by kernel_rfl
theorem undByte : Tryz.prog.underlying 5 = some (.int .u8) := by kernel_rfl
theorem len65 : Tryz.prog.arrayLen 223 = 65 := by kernel_rfl
theorem elem65 : Tryz.prog.elem 223 = 5 := by kernel_rfl
theorem slice65 (b k : Nat) (h : k < 65) (W : World) : (Instr.sliceAt 223 (.pointer (some ⟨b, 0, none⟩)) (some (.int .i64 (k : Int))) none none).run Tryz.prog W = .ok (.slice (some ⟨b, k, none⟩) (65 - k) (65 - k)) W := by
  have hs : ∀ w, (sizeOf 5).run Tryz.prog w = .ok 1 w := fun _ => by kernel_rfl
  rw [run_sliceAt_array_l W 223 _ (by rw [len65, elem65]; exact und65) .i64 _ (by omega) (by rw [len65]; omega), len65, elem65, hs]
  simp only [Result.andThen_ok, slicedAt, Int.toNat_natCast]
  rw [if_neg (by omega)]
  simp [Addr.add]
  omega
theorem str65 (b : Nat) (l : List UInt8) (h : l.length ≤ 65) (W : World) (hr : W.heap[b]? = some (.cells (row65 l) 223 (0, 0))) (n off : Nat) (hn : n = l.length) (ho : off + l.length = 65) :
    (convert 139 9 (.slice (some ⟨b, off, none⟩) n n)).run Tryz.prog W = .ok (.string ⟨l.toArray⟩) W := by
  rw [run_convert_bytes_arg W 139 5 undBytes undByte b off n n (l.map fun c => (c.toNat : Int)) (by simp [hn]) (fun i hi => ?_) 9 undStr, strOfNums_bytes]
  rw [cell_of_row _ _ _ _ _ _ hr, show off + i = 65 - l.length + i by omega, row65_at l h i (by omega)]
  simp [List.getD, show i < l.length by omega]
theorem isPow36 (w : World) : Calls Tryz.prog 188 #[.int .i64 36] w fun e w' => e = .returned (.bool false) ∧ w' = w := by
  go_enter Tryz.func188, Tryz.ntmps188
  go_wp2
  go_ret
  exact ⟨rfl, rfl⟩
structure FmtW (u0 : Nat) (w : World) (k : Nat) (l : List UInt8) (v : Nat) (wr : World) : Prop where
  len : l.length + k = 64
  fmt : fmt36 u0 = fmt36 v ++ l
  le : v ≤ u0
  row : wr.heap[w.heap.size]? = some (.cells (row65 l) 223 (0, 0))
  bel : Below w.heap.size w wr
def FmtAt (u0 : Nat) (w : World) (i u : Value) (wr : World) : Prop :=
  ∃ (k : Nat) (l : List UInt8) (v : Nat), i = .int .i64 ((k + 1 : Nat) : Int) ∧ u = .int .u64 v ∧ FmtW u0 w k l v wr
set_option maxRecDepth 100000 in
set_option maxHeartbeats 4000000 in
theorem fmtBits_any (u : Nat) (hu : u < 18446744073709551616) (w : World) :
    Calls Tryz.prog 173 #[.slice none 0 0, .int .u64 u, .int .i64 36, .bool false, .bool false] w fun e w' => e = .returned (.tuple #[.slice none 0 0, .string ⟨(fmt36 u).toArray⟩]) ∧ Below w.heap.size w w' := by
  have HLEN : Hid ((fmt36 u).length ≤ 13) := fmt36_len 12 u (by omega)
  go_enter Tryz.func173, Tryz.ntmps173
  go_wp2_with (go_at_call 188; refine (isPow36 _).mono ?_; rintro e w' ⟨rfl, rfl⟩)
  go_loopw [1, 13] (fun vu vi wr => FmtAt u w vi vu wr) (fun vu _ _ => (intOf vu).toNat)
  case atStart => exact ⟨64, [], u, rfl, rfl, ⟨rfl, by simp, Nat.le_refl _, heap_alloc_last w _, ext_alloc (Below.refl _ w) _⟩⟩
  case round =>
    obtain ⟨k, l, v, rfl, rfl, hW⟩ := hrel
    have hk := hW.len
    have hvu := hW.le
    have hl13 : l.length ≤ 13 := by
      have h1 := HLEN.out
      rw [hW.fmt, List.length_append] at h1
      omega
    obtain ⟨z, hz⟩ := row65_get l (by omega) k (by omega)
    have hc : wr.cell? ⟨w.heap.size, k, none⟩ = some (.int .u8 z) := by rw [cell_of_row _ _ _ _ _ _ hW.row]; exact hz
    have hfr : wr.frozen? ⟨w.heap.size, k, none⟩ = false := frozen_of_row _ _ _ _ _ hW.row
    by_cases hv : 36 ≤ v
    · go_wp2_with fail
      go_roundw
      case rel =>
        refine ⟨k - 1, dg36 (v % 36) :: l, v / 36, ?_, ?_, ⟨?_, ?_, ?_, ?_, ?_⟩⟩
        · rw [show k - 1 + 1 = k by omega]
        · first | done | go_num
        · simp; omega
        · rw [hW.fmt, fmt36_ge (by omega)]; simp
        · omega
        · rw [heap_setCell_same _ _ _ _ _ _ hW.row]
          have hs := row65_set l (dg36 (v % 36)) (by omega)
          rw [show 64 - l.length = k by omega] at hs
          rw [← hs, dig_at (v - v / 36 * 36) (by omega), show v - v / 36 * 36 = v % 36 by omega]
        · exact hW.bel.setCell (by simp) _
      case measure => simp [intOf]; omega
    · have hsl := slice65 w.heap.size k (by omega)
      go_wp2_with fail
      have hrow : ∀ c : UInt8, c = dg36 v → (wr.setCell ⟨w.heap.size, k, none⟩ (.int .u8 (c.toNat : Int))).heap[w.heap.size]? = some (.cells (row65 (dg36 v :: l)) 223 (0, 0)) := by
        rintro c rfl
        have hs := row65_set l (dg36 v) (by omega)
        rw [show 64 - l.length = k by omega] at hs
        rw [heap_setCell_same _ _ _ _ _ _ hW.row, hs]
      have hcv := fun c hc => str65 _ _ (by simp; omega) _ (hrow c hc) (65 - k) k (by simp; omega) (by simp; omega)
      have hfin : fmt36 u = dg36 v :: l := by rw [hW.fmt, fmt36_lt (by omega)]; rfl
      rw [hcv _ (dig_at v (by omega))]
      have HC := Lib.hid hfin
      clear hfin hcv hrow
      go_wp2_with fail
      go_ret2
      exact ⟨by rw [HC.out]; rfl, hW.bel.setCell (by simp) _⟩
set_option maxRecDepth 100000 in
set_option maxHeartbeats 1000000 in
theorem FormatUint0_any (u : Nat) (hu : u < 18446744073709551616) (w : World) :
    Calls Tryz.prog 145 #[.int .u64 u, .int .i64 36] w fun e w' => e = .returned (.string ⟨(fmt36 u).toArray⟩) ∧ Below w.heap.size w w' := by
  go_enter Tryz.func145, Tryz.ntmps145
  go_wp2_with (go_at_call 173; refine (fmtBits_any u hu _).mono ?_; rintro e w' ⟨rfl, hb⟩)
  go_ret
  exact ⟨rfl, hb⟩
set_option maxRecDepth 100000 in
set_option maxHeartbeats 1000000 in
theorem FormatUint_any (u : Nat) (hu : u < 18446744073709551616) (w : World) :
    Calls Tryz.prog 108 #[.int .u64 u, .int .i64 36] w fun e w' => e = .returned (.string ⟨(fmt36 u).toArray⟩) ∧ Below w.heap.size w w' := by
  go_enter Tryz.func108, Tryz.ntmps108
  go_wp2_with (go_at_call 145; refine (FormatUint0_any u hu _).mono ?_; rintro e w' ⟨rfl, hb⟩)
  go_ret
  exact ⟨rfl, hb⟩
end Go.Proofs.YtgamknphlmcgnaaGreatDoor
namespace Go.Proofs
open Go.Shelf
shelf_lay Lays.n171 Nm 171 at Tryz as Tryz.laysItoa
shelf_lay Lays.n156 Nm 156 at Tryz as Tryz.laysJoin
shelf_lay Lays.n137 Nm 137 at Tryz as Tryz.laysIdx
theorem Tryz.extraJoin : Builder.Extra Tryz.prog Tryz.laysJoin_ren where
  sizeBuilder := by kernel_rfl
  liesBuilder := by kernel_rfl
  t5 := Tryz.underlying5
  a5 := Tryz.isAgg5
  z5 := Tryz.sizeOf5
  v5 := Tryz.zeroValue5
  infoByte := by kernel_rfl
  cellsByte := by kernel_rfl
  sizeByte := by kernel_rfl
  neB5 := by decide
namespace YtgamknphlmcgnaaGreatDoor
open Go.RowKit
theorem decDigits_small : ∀ i, i < 8 → Lib.decDigits i = [(48 + i).toUInt8] := by decide +kernel
theorem Itoa_op (i : Nat) (hi : i < 8) (w : World) : Calls Tryz.prog 107 #[.int .i64 i] w fun e w' => e = .returned (.string ⟨#[(48 + i).toUInt8]⟩) ∧ w' = w := by
  have := Any.strconv_Itoa_small Tryz.laysItoa i (by omega) w
  rw [decDigits_small i hi] at this
  exact this
theorem Join_any (bk o c : Nat) (xs : List ByteArray) (sep : ByteArray) (w : World)
    (hcells : ∀ (j : Nat) x, xs[j]? = some x → w.cell? ⟨bk, o + j, none⟩ = some (.string x)) (hbk : bk < w.heap.size) (hN : xs.length ≤ 140737488355328) (hcap : xs.length ≤ c)
    (hlen : (Lib.join (xs.map (·.data.toList)) sep.data.toList).length ≤ 140737488355328) :
    Calls Tryz.prog 90 #[.slice (some ⟨bk, o, none⟩) xs.length c, .string sep] w fun e w' => e = .returned (.string ⟨(Lib.join (xs.map (·.data.toList)) sep.data.toList).toArray⟩) ∧ Below w.heap.size w w' :=
  Any.strings_Join Tryz.laysJoin Tryz.extraJoin bk o c xs sep w hcells hbk hN hcap hlen
theorem IndexByte_any (s : ByteArray) (c : Int) (w : World) : Calls Tryz.prog 126 #[.string s, .int .u8 c] w fun e w' => e = .returned (.int .i64 (Lib.indexByte s.data.toList c.toNat.toUInt8)) ∧ w' = w :=
  Any.strings_IndexByte Tryz.laysIdx s c w
end YtgamknphlmcgnaaGreatDoor
end Go.Proofs
end
section
set_option linter.unusedSimpArgs false
set_option linter.unusedVariables false
set_option maxRecDepth 100000
set_option linter.unnecessarySimpa false
namespace Go.Proofs.YtgamknphlmcgnaaGreatDoor
/-- the worlds of a class, as values of a type: so that what holds of each of them is a rule without a premise -/
structure InC (S : World → Prop) where
  w : World
  h : S w
theorem wp_region_class {P : Program} {id : Nat} {Q : Exit → Act → World → Prop} {a : Act} {w : World} {l : List Oper} (S : World → Prop) (hm : P.follows .mixedOrders = true)
   (hB : Region.lexB .any l.toArray = true) (hS : S w.drew)
   (h : wpQuiet P l.toArray (fun w' => ∃ p : InC S, w' = p.w) (fun a' => ∀ p : InC S, Q .normal a' p.w) l a) : (Code.region id l.toArray true).wp P Q a w := by
  refine wp_region_quiet (C := fun w' => ∃ p : InC S, w' = p.w) hm hB ⟨⟨_, hS⟩, rfl⟩ ?_
  have hmono : ∀ (l' : List Oper) (a : Act), wpQuiet P l.toArray (fun w' => ∃ p : InC S, w' = p.w) (fun a' => ∀ p : InC S, Q .normal a' p.w) l' a →
      wpQuiet P l.toArray (fun w' => ∃ p : InC S, w' = p.w) (fun a' => ∀ w', (∃ p : InC S, w' = p.w) → Q .normal a' w') l' a := by
    intro l'
    induction l' with
    | nil => intro a h w' ⟨p, hp⟩; rw [hp]; exact h p
    | cons o rest ih =>
      intro a h
      unfold wpQuiet at h ⊢
      split
      · rename_i hw; rw [if_pos hw] at h; exact Oper.quiet_mono ih h
      · rename_i hw; rw [if_neg hw] at h; exact ih _ h
  exact hmono _ _ h
end Go.Proofs.YtgamknphlmcgnaaGreatDoor
namespace Go.Proofs.YtgamknphlmcgnaaGreatDoor
section
variable {P : Program} {ops : Array Oper} {Q : Exit → Act → World → Prop} {md : Region.Mode} {S : World → Prop} {rd : List Nat}
/-- does j wait, be it through others, for r? -/
def reach (md : Region.Mode) (ops : Array Oper) : Nat → Nat → Nat → Bool
  | 0, _, _ => false
  | n + 1, j, r => match ops[j]? with
    | none => false
    | some o => o.after.any fun e => Region.binds md e && (e.on == r || reach md ops n e.on r)
/-- is there a reader that may come up behind j? -/
def keepB (md : Region.Mode) (ops : Array Oper) (rd : List Nat) (j : Nat) : Bool := rd.any fun r => r != j && !reach md ops ops.size j r
/-- what has come up has come up behind all that it waits for -/
def ClosedL (md : Region.Mode) (ops : Array Oper) (listed : Array Bool) : Prop :=
  ∀ (j : Nat) (o : Oper), ops[j]? = some o → listed.getD j false = true → ∀ e ∈ o.after, Region.binds md e = true → listed.getD e.on false = true
theorem reach_listed {listed : Array Bool} (hc : ClosedL md ops listed) : ∀ (n j r : Nat) (o : Oper), ops[j]? = some o → (∀ e ∈ o.after, Region.binds md e = true → listed.getD e.on false = true) → reach md ops n j r = true → listed.getD r false = true
  | 0, _, _, _, _, _, h => by simp [reach] at h
  | n + 1, j, r, o, ho, hall, h => by
    simp only [reach, ho] at h
    obtain ⟨e, he, hb⟩ := Array.any_eq_true'.1 h
    simp only [Bool.and_eq_true, Bool.or_eq_true, beq_iff_eq] at hb
    obtain ⟨hb1, hb2⟩ := hb
    have hle := hall e he hb1
    rcases hb2 with hb2 | hb2
    · rw [← hb2]; exact hle
    · cases hoe : ops[e.on]? with
      | none => cases n <;> simp [reach, hoe] at hb2
      | some oe => exact reach_listed hc n e.on r oe hoe (hc e.on oe hoe hle) hb2
theorem getD_ft {listed : Array Bool} {i : Nat} (h : listed.getD i true = false) : listed.getD i false = false := by
  rcases Nat.lt_or_ge i listed.size with h' | h'
  · simpa [h'] using h
  · simp [Array.getElem?_eq_none h']
theorem keepB_of {listed : Array Bool} (hc : ClosedL md ops listed) {i j : Nat} (hi : i ∈ rd) (hun : listed.getD i true = false) (hj : j ∈ Region.ready md ops listed) (hji : j ≠ i) : keepB md ops rd j = true := by
  obtain ⟨_, oj, hoj, hall⟩ := mem_ready.1 hj
  unfold keepB
  rw [List.any_eq_true]
  refine ⟨i, hi, ?_⟩
  simp only [Bool.and_eq_true, bne_iff_ne, Bool.not_eq_true']
  refine ⟨Ne.symm hji, ?_⟩
  cases hr : reach md ops ops.size j i with
  | false => rfl
  | true =>
    have := reach_listed hc _ _ _ _ hoj hall hr
    rw [getD_ft hun] at this
    cases this
theorem closedL_set {listed : Array Bool} (hc : ClosedL md ops listed) {j : Nat} (hj : j ∈ Region.ready md ops listed) : ClosedL md ops (listed.setIfInBounds j true) := fun k o ho hk e he hb => by
  obtain ⟨hun, oj, hoj, hall⟩ := mem_ready.1 hj
  refine getD_set_true ?_
  by_cases hkj : j = k
  · subst hkj
    obtain rfl := Option.some.inj (hoj.symm.trans ho)
    exact hall e he hb
  · rw [getD_set_ne false hkj] at hk
    exact hc k o ho hk e he hb
/-- whatever order is picked from here on, and S holds behind each operation behind which a reader may come up -/
def wpAnyD (P : Program) (md : Region.Mode) (ops : Array Oper) (Q : Exit → Act → World → Prop) (S : World → Prop) (rd : List Nat) : Nat → Array Bool → Act → World → Prop
  | 0, listed, a, w => Region.ready md ops listed = [] ∧ Q .normal a w
  | fuel + 1, listed, a, w =>
    (Region.ready md ops listed = [] → Q .normal a w) ∧
    ∀ i ∈ Region.ready md ops listed, wpOp P ops Q i (fun a' w' => (keepB md ops rd i = true → S w') ∧ wpAnyD P md ops Q S rd fuel (listed.setIfInBounds i true) a' w') a w
theorem wpAny_of_D : ∀ (fuel : Nat) (listed : Array Bool) (a : Act) (w : World), wpAnyD P md ops Q S rd fuel listed a w → wpAny P md ops Q fuel listed a w
  | 0, _, _, _, h => h
  | fuel + 1, _, _, _, h => ⟨h.1, fun i hi => wpOp_mono (fun a' w' h' => wpAny_of_D fuel _ a' w' h'.2) (h.2 i hi)⟩
theorem wpAnyD_first {i : Nat} {oi : Oper} {v : Value} (hi : ops[i]? = some oi) (hrd : i ∈ rd) (hsel : ∀ (j : Nat) (o : Oper) cs b, ops[j]? = some o → o.op ≠ .select cs b)
    (hQ : ∀ c a w, Q (.panic c) (a.put oi.dst v) w → Q (.panic c) a w) :
    ∀ (fuel : Nat) (listed : Array Bool) (a : Act) (w : World), ClosedL md ops listed →
      (∀ j oj, ops[j]? = some oj → j ≠ i → listed.getD j true = false → (∀ e ∈ oj.after, Region.binds md e = true → e.on ≠ i) → oi.apart ops oj = true) →
      i ∈ Region.ready md ops listed → YieldsIf P ops S oi v a → S w →
      wpAnyD P md ops Q S rd fuel (listed.setIfInBounds i true) (a.put oi.dst v) w → wpAnyD P md ops Q S rd (fuel + 1) listed a w := by
  intro fuel
  induction fuel with
  | zero =>
    intro listed a w hcl _ hr hy hS H
    refine ⟨fun h => (by rw [h] at hr; cases hr), fun j hj => ?_⟩
    by_cases hji : j = i
    · subst hji; exact hy.wpOp hi hS ⟨fun _ => hS, H⟩
    · have := ready_mono hj hji
      rw [H.1] at this
      cases this
  | succ fuel ih =>
    intro listed a w hcl hfree hr hy hS H
    refine ⟨fun h => (by rw [h] at hr; cases hr), fun j hj => ?_⟩
    by_cases hji : j = i
    · subst hji; exact hy.wpOp hi hS ⟨fun _ => hS, H⟩
    · have h1 := H.2 j (ready_mono hj hji)
      obtain ⟨hjun, oj, hoj, hall⟩ := mem_ready.1 hj
      have hnot : ∀ e ∈ oj.after, Region.binds md e = true → e.on ≠ i := fun e he hb heq => by
        have h1 := hall e he hb
        have h0 := (mem_ready.1 hr).1
        rw [heq] at h1
        rw [getD_ft h0] at h1
        cases h1
      have h2 := wpOp_putIf hoj (hfree j oj hoj hji hjun hnot) (fun cs b => hsel i oi cs b hi) (fun cs b => hsel j oj cs b hoj) hQ hy h1
      have hfree' : ∀ k ok, ops[k]? = some ok → k ≠ i → (listed.setIfInBounds j true).getD k true = false →
          (∀ e ∈ ok.after, Region.binds md e = true → e.on ≠ i) → oi.apart ops ok = true := fun k ok hk hki hun hno => by
        refine hfree k ok hk hki ?_ hno
        by_cases hjk : j = k
        · subst hjk; exact hjun
        · rw [getD_set_ne true hjk] at hun; exact hun
      have hk := keepB_of hcl hrd (mem_ready.1 hr).1 hj hji
      refine wpOp_mono (fun a' w' h3 => ⟨h3.2.1, ih (listed.setIfInBounds j true) a' w' (closedL_set hcl hj) hfree' (ready_mono hr (Ne.symm hji)) h3.1 (h3.2.1 hk) ?_⟩) h2
      rw [Array.setIfInBounds_comm _ _ hji]
      exact h3.2.2
/-- an operation that may be a reader: it neither enters a function nor skips -/
def readB (o : Oper) : Bool := match o.op with
  | .move _ | .assign _ | .pick .. | .load .. | .binOp .. | .unOp .. | .convert .. | .slice .. | .fieldAddr .. | .nilCheck .. | .field .. | .indexAddr .. | .index .. | .extract .. => true
  | .call { callee := .builtin .len, .. } => true
  | _ => false
theorem sem_value {s : Sem Value} {w w' : World} {n : Next} (h : (do pure (Next.value (← s)) : Sem Next).run P w = .ok n w') : ∃ v, n = .value v := by
  rw [Sem.run_bind] at h
  cases hs : s.run P w with
  | ok v w1 => rw [hs] at h; simp at h; exact ⟨v, h.1.symm⟩
  | halt x w1 => rw [hs] at h; simp [Result.andThen] at h
theorem read_value {o : Oper} (hr : readB o = true) {ρ : Operand → Value} {w w' : World} {n : Next} (h : (execOp ρ o).run P w = .ok n w') : ∃ v, n = .value v := by
  obtain ⟨dst, op, ty, pos, after, guard⟩ := o
  cases op with
  | call c =>
    obtain ⟨callee, args, tys⟩ := c
    cases callee with
    | builtin b =>
      cases b <;> simp [readB] at hr
      unfold execOp at h
      simp only [resolve, Sem.run_bind, Sem.run_pure, Result.andThen_ok] at h
      exact sem_value h
    | value f => simp [readB] at hr
    | invoke r m => simp [readB] at hr
  | pick c a b =>
    unfold execOp at h
    rw [Sem.run_bind] at h
    cases hs : (asBool (ρ c)).run P w with
    | ok v w1 => rw [hs] at h; simp at h; exact ⟨_, h.1.symm⟩
    | halt x w1 => rw [hs] at h; simp [Result.andThen] at h
  | move x => unfold execOp at h; simp at h; exact ⟨_, h.1.symm⟩
  | assign x => unfold execOp at h; simp at h; exact ⟨_, h.1.symm⟩
  | load t x => exact sem_value h
  | binOp b t x y u => exact sem_value h
  | unOp b t x => exact sem_value h
  | convert s d x => exact sem_value h
  | slice t x l m k => exact sem_value h
  | fieldAddr t x f => exact sem_value h
  | nilCheck x =>
    unfold execOp at h
    simp only at h
    split at h
    · simp [runtimePanic] at h
    · simp [runtimePanic] at h
    · simp [runtimePanic] at h
    · split at h
      · simp [runtimePanic] at h
      · simp only [Sem.run_bind, run_program, Result.andThen_ok] at h
        generalize hq : Sem.run P (nilAhead _ _ _ _) w = q at h
        cases q with
        | halt y w1 => simp [Result.andThen] at h
        | ok b w1 =>
          simp only [Result.andThen_ok] at h
          split at h
          · simp [unsupported] at h
          · simp at h; exact ⟨_, h.1.symm⟩
      · simp at h; exact ⟨_, h.1.symm⟩
    · simp at h; exact ⟨_, h.1.symm⟩
  | field t x f => exact sem_value h
  | indexAddr t x f => exact sem_value h
  | index t x f => exact sem_value h
  | extract t x => exact sem_value h
  | _ => simp [readB] at hr
/-- S behind the operation, if a reader may come up behind it; what stands behind the region only where it ends otherwise -/
def mixPost (Q : Exit → Act → World → Prop) (k : Bool) (S : World → Prop) (K : Act → World → Prop) : Exit → Act → World → Prop
  | .normal, a, w => (k = true → S w) ∧ K a w
  | e, a, w => Q e a w
/-- the walk in a given order -/
def wpMix (P : Program) (md : Region.Mode) (ops : Array Oper) (Q : Exit → Act → World → Prop) (S : World → Prop) (rd : List Nat) : List Nat → Act → World → Prop
  | [], a, w => Q .normal a w
  | i :: rest, a, w => match ops[i]? with
    | none => False
    | some o => if rd.contains i = true then wpQuiet P ops (fun w' => ∃ p : InC S, w' = p.w) (fun a' => wpMix P md ops Q S rd rest a' w) [o] a
      else wpList P ops (mixPost Q (keepB md ops rd i) S (wpMix P md ops Q S rd rest)) [o] a w
def ordOk (md : Region.Mode) (ops : Array Oper) (rd : List Nat) : List Nat → Array Bool → Bool
  | [], listed => (Region.ready md ops listed).isEmpty
  | i :: rest, listed => (if rd.contains i then (Region.ready md ops listed).contains i && Region.free md ops listed i else Region.ready md ops listed == [i]) && ordOk md ops rd rest (listed.setIfInBounds i true)
def mixB (md : Region.Mode) (ops : Array Oper) (rd ord : List Nat) : Bool :=
  Region.noSelect ops && rd.all (fun i => match ops[i]? with | some o => readB o | none => false) && ord.length == ops.size && ordOk md ops rd ord (Array.replicate ops.size false)
theorem Oper.wp_post {o : Oper} {a : Act} {w : World} {K : Act → World → Prop} {Q Q' : Exit → Act → World → Prop} (hQ : ∀ e a w, e ≠ .normal → Q e a w → Q' e a w) (h : o.wp P a w K Q) : o.wp P a w K Q' := by
  unfold Oper.wp at *
  generalize (execOp a.eval o).run P w = r at *
  cases r with
  | ok n w' =>
    cases n <;> simp only [Oper.upon] at h ⊢ <;>
      first
        | exact h
        | exact Calls.mono h (fun e w'' he => by
            cases e with
            | returned v => exact he
            | panicked c => exact hQ _ _ _ (by simp) he
            | outgrown => exact Exists.elim he fun a1 he => Exists.elim he fun w1 he => ⟨a1, w1, hQ _ _ _ (by simp) he⟩)
  | halt x w' => cases x <;> simp only [Oper.upon] at h ⊢ <;> first | exact h | exact hQ _ _ _ (by simp) h
theorem wpAnyD_of_mix (hs : Region.noSelect ops = true) (hrd : ∀ i ∈ rd, ∃ o, ops[i]? = some o ∧ readB o = true) (hQ : ∀ c a d v w, Q (.panic c) (a.put d v) w → Q (.panic c) a w) :
    ∀ (ord : List Nat) (listed : Array Bool) (a : Act) (w : World), ClosedL md ops listed → ordOk md ops rd ord listed = true → ((∃ r ∈ ord, r ∈ rd) → S w) → wpMix P md ops Q S rd ord a w →
      wpAnyD P md ops Q S rd ord.length listed a w
  | [], listed, a, w, _, hB, _, h => ⟨by simpa [ordOk] using hB, h⟩
  | i :: rest, listed, a, w, hcl, hB, hS, h => by
    simp only [ordOk, Bool.and_eq_true] at hB
    obtain ⟨hB1, hB2⟩ := hB
    unfold wpMix at h
    by_cases hr : rd.contains i = true
    · rw [if_pos hr] at hB1
      simp only [Bool.and_eq_true, List.contains_iff_mem] at hB1
      have hmem : i ∈ rd := by simpa using hr
      obtain ⟨o, ho, hro⟩ := hrd i hmem
      simp only [ho, if_pos hr] at h
      have hSw : S w := hS ⟨i, by simp, hmem⟩
      have hfst : ∀ v, YieldsIf P ops S o v a → wpMix P md ops Q S rd rest (a.put o.dst v) w → wpAnyD P md ops Q S rd (rest.length + 1) listed a w := fun v hy hk =>
        wpAnyD_first ho hmem (Region.noSelect_spec hs) (fun c a w hq => hQ c a o.dst v w hq) rest.length listed a w hcl (Region.free_spec ho hB1.2) hB1.1 hy hSw
          (wpAnyD_of_mix hs hrd hQ rest _ _ w (closedL_set hcl hB1.1) hB2 (fun _ => hSw) hk)
      unfold wpQuiet at h
      split at h
      · rename_i hw
        obtain ⟨v, hv, hn⟩ := h
        refine hfst v (.inl ⟨hw, fun w' hw' => ?_⟩) hn
        have h1 := hv w' ⟨⟨w', hw'⟩, rfl⟩
        unfold Oper.quietAt at h1
        generalize hres : (execOp a.eval o).run P w' = res at *
        cases res with
        | ok n w'' =>
          obtain ⟨u, rfl⟩ := read_value hro hres
          simp only [Oper.quietUpon] at h1
          rw [h1.1, h1.2]
        | halt x w'' => simp only [Oper.quietUpon] at h1
      · rename_i hw
        exact hfst undef (.inr ⟨by simpa using hw, rfl⟩) h
    · rw [if_neg hr] at hB1
      have hready : Region.ready md ops listed = [i] := by simpa using hB1
      have hi : i ∈ Region.ready md ops listed := by rw [hready]; simp
      obtain ⟨hun, o, ho, hall⟩ := mem_ready.1 hi
      simp only [ho, if_neg hr] at h
      have hnext : ∀ a' w', ((keepB md ops rd i = true → S w') ∧ wpMix P md ops Q S rd rest a' w') →
          (keepB md ops rd i = true → S w') ∧ wpAnyD P md ops Q S rd rest.length (listed.setIfInBounds i true) a' w' := fun a' w' hh => by
        refine ⟨hh.1, wpAnyD_of_mix hs hrd hQ rest _ a' w' (closedL_set hcl hi) hB2 (fun ⟨r, hr1, hr2⟩ => hh.1 ?_) hh.2⟩
        have hri : r ≠ i := fun e => hr (by rw [← e]; simpa using hr2)
        have hne : i ≠ r := fun e => hri e.symm
        -- r is in the rest, so it has not come up
        have hrun : listed.getD r true = false := by
          have key : ∀ (l : List Nat) (li : Array Bool), ordOk md ops rd l li = true → r ∈ l → li.getD r true = false := by
            intro l
            induction l with
            | nil => intro li _ hm; simp at hm
            | cons k l ih =>
              intro li hb hm
              simp only [ordOk, Bool.and_eq_true] at hb
              rcases List.mem_cons.1 hm with e | hm'
              · subst e
                have hc1 : rd.contains r = true := by simpa using hr2
                rw [if_pos hc1] at hb
                simp only [Bool.and_eq_true, List.contains_iff_mem] at hb
                exact (mem_ready.1 hb.1.1).1
              · have := ih _ hb.2 hm'
                by_cases hkr : k = r
                · subst hkr
                  rcases Nat.lt_or_ge k li.size with h' | h'
                  · simp [h'] at this
                  · rw [Array.setIfInBounds_eq_of_size_le h'] at this; exact this
                · rwa [getD_set_ne true hkr] at this
          have := key rest _ hB2 hr1
          rwa [getD_set_ne true hne] at this
        exact keepB_of hcl hr2 hrun hi hne
      refine ⟨fun h0 => (by rw [hready] at h0; cases h0), fun j hj => ?_⟩
      rw [hready] at hj
      obtain rfl : j = i := by simpa using hj
      unfold wpOp
      simp only [ho]
      unfold wpList at h
      split
      · rename_i hw
        rw [if_pos hw] at h
        rcases h with h | ⟨h1, h2⟩
        · refine .inl (Oper.wp_mono hnext (Oper.wp_post (Q := mixPost Q (keepB md ops rd j) S (wpMix P md ops Q S rd rest)) (fun e a w he h => ?_) h))
          cases e <;> first | exact h | exact absurd rfl he
        · exact .inr ⟨h1, h2⟩
      · rename_i hw
        rw [if_neg hw] at h
        exact hnext _ _ h
theorem wp_region_mix {id : Nat} {a : Act} {w : World} {l : List Oper} (S : World → Prop) (rd ord : List Nat) (hm : P.follows .mixedOrders = true) (hB : mixB .any l.toArray rd ord = true)
    (hS : S w.drew) (h : wpMix P .any l.toArray (NoPanic Q) S rd ord a w.drew) : (Code.region id l.toArray true).wp P Q a w := by
  refine wp_region_noPanic ?_
  simp only [mixB, Bool.and_eq_true, beq_iff_eq] at hB
  obtain ⟨⟨⟨h1, h2⟩, h3⟩, h4⟩ := hB
  have hcl : ClosedL .any l.toArray (Array.replicate l.toArray.size false) := fun j o ho hj => by
    exfalso
    rw [Array.getD_eq_getD_getElem?, Array.getElem?_replicate] at hj
    split at hj <;> simp at hj
  refine wp_region_any hm (wpAny_of_D (S := S) (rd := rd) _ _ _ _ ?_)
  have hgo : wpAnyD P .any l.toArray (NoPanic Q) S rd ord.length (Array.replicate l.toArray.size false) a w.drew := by
   refine wpAnyD_of_mix h1 (fun i hi => ?_) (fun _ _ _ _ _ h => h) ord _ a w.drew hcl h4 (fun _ => hS) h
   have := (List.all_eq_true.1 h2) i hi
   cases ho : l.toArray[i]? with
   | none => rw [ho] at this; cases this
   | some o => rw [ho] at this; exact ⟨o, rfl, this⟩
  rw [h3] at hgo
  exact hgo
theorem wpMix_read {l : List Oper} {i : Nat} {rest : List Nat} {o : Oper} {a : Act} {w : World} (ho : l[i]? = some o) (hr : rd.contains i = true)
    (h : wpQuiet P l.toArray (fun w' => ∃ p : InC S, w' = p.w) (fun a' => wpMix P md l.toArray Q S rd rest a' w) [o] a) : wpMix P md l.toArray Q S rd (i :: rest) a w := by
  have ho' : l.toArray[i]? = some o := by simpa using ho
  unfold wpMix; simp only [ho', if_pos hr]; exact h
/-- one that makes or writes memory -/
theorem wpMix_eff {l : List Oper} {i : Nat} {rest : List Nat} {o : Oper} {a : Act} {w : World} {k : Bool} (ho : l[i]? = some o) (hr : rd.contains i = false) (hk : keepB md l.toArray rd i = k)
    (h : wpList P l.toArray (mixPost Q k S (wpMix P md l.toArray Q S rd rest)) [o] a w) : wpMix P md l.toArray Q S rd (i :: rest) a w := by
  have ho' : l.toArray[i]? = some o := by simpa using ho
  unfold wpMix; simp only [ho', hr, Bool.false_eq_true, if_false, hk]; exact h
theorem mixPost_keep {K : Act → World → Prop} {a : Act} {w : World} (hS : S w) (h : K a w) : mixPost Q true S K .normal a w := ⟨fun _ => hS, h⟩
theorem mixPost_last {K : Act → World → Prop} {a : Act} {w : World} (h : K a w) : mixPost Q false S K .normal a w := ⟨fun e => absurd e (by decide), h⟩
theorem wpMix_nil {a : Act} {w : World} (h : Q .normal a w) : wpMix P md ops (NoPanic Q) S rd [] a w := h
end
end Go.Proofs.YtgamknphlmcgnaaGreatDoor
end
section
set_option linter.unusedSimpArgs false
set_option linter.unusedVariables false
set_option maxRecDepth 100000
set_option linter.unnecessarySimpa false
namespace Go.Proofs.YtgamknphlmcgnaaGreatDoor
open Go.RowKit
/-- a digit to the base 16 -/
def hexd (k : Nat) : UInt8 := if k < 10 then (48 + k).toUInt8 else (87 + k).toUInt8
def specials : List UInt8 := [40, 41, 91, 93, 124, 38, 45, 42, 43, 63, 46, 92, 32, 9, 10, 13]
def marked (b : Nat) : Bool := specials.contains b.toUInt8 || b == 94 || b == 47 || b == 34 || b == 35
/-- a byte as it is written -/
def byteW (b : Nat) : List UInt8 := if b = 10 then [92, 110] else if b = 9 then [92, 116] else if b < 32 ∨ 127 ≤ b then [92, 120, hexd (b / 16), hexd (b % 16)] else if marked b then [92, b.toUInt8] else [b.toUInt8]
theorem hexSlice (k : Nat) (h : k < 16) (w : World) : (Instr.slice 9 (.string ⟨#[48, 49, 50, 51, 52, 53, 54, 55, 56, 57, 97, 98, 99, 100, 101, 102]⟩) (some (.int .u8 (k : Int))) (some (.int .u8 ((k : Int) + 1))) none).run Tryz.prog w = .ok (.string ⟨#[hexd k]⟩) w := by
  have h0 : ∀ w, (Instr.slice 9 (.string ⟨#[48, 49, 50, 51, 52, 53, 54, 55, 56, 57, 97, 98, 99, 100, 101, 102]⟩) (some (.int .u8 0)) (some (.int .u8 1)) none).run Tryz.prog w = .ok (.string ⟨#[48]⟩) w := fun _ => by kernel_rfl
  have h1 : ∀ w, (Instr.slice 9 (.string ⟨#[48, 49, 50, 51, 52, 53, 54, 55, 56, 57, 97, 98, 99, 100, 101, 102]⟩) (some (.int .u8 1)) (some (.int .u8 2)) none).run Tryz.prog w = .ok (.string ⟨#[49]⟩) w := fun _ => by kernel_rfl
  have h2 : ∀ w, (Instr.slice 9 (.string ⟨#[48, 49, 50, 51, 52, 53, 54, 55, 56, 57, 97, 98, 99, 100, 101, 102]⟩) (some (.int .u8 2)) (some (.int .u8 3)) none).run Tryz.prog w = .ok (.string ⟨#[50]⟩) w := fun _ => by kernel_rfl
  have h3 : ∀ w, (Instr.slice 9 (.string ⟨#[48, 49, 50, 51, 52, 53, 54, 55, 56, 57, 97, 98, 99, 100, 101, 102]⟩) (some (.int .u8 3)) (some (.int .u8 4)) none).run Tryz.prog w = .ok (.string ⟨#[51]⟩) w := fun _ => by kernel_rfl
  have h4 : ∀ w, (Instr.slice 9 (.string ⟨#[48, 49, 50, 51, 52, 53, 54, 55, 56, 57, 97, 98, 99, 100, 101, 102]⟩) (some (.int .u8 4)) (some (.int .u8 5)) none).run Tryz.prog w = .ok (.string ⟨#[52]⟩) w := fun _ => by kernel_rfl
  have h5 : ∀ w, (Instr.slice 9 (.string ⟨#[48, 49, 50, 51, 52, 53, 54, 55, 56, 57, 97, 98, 99, 100, 101, 102]⟩) (some (.int .u8 5)) (some (.int .u8 6)) none).run Tryz.prog w = .ok (.string ⟨#[53]⟩) w := fun _ => by kernel_rfl
  have h6 : ∀ w, (Instr.slice 9 (.string ⟨#[48, 49, 50, 51, 52, 53, 54, 55, 56, 57, 97, 98, 99, 100, 101, 102]⟩) (some (.int .u8 6)) (some (.int .u8 7)) none).run Tryz.prog w = .ok (.string ⟨#[54]⟩) w := fun _ => by kernel_rfl
  have h7 : ∀ w, (Instr.slice 9 (.string ⟨#[48, 49, 50, 51, 52, 53, 54, 55, 56, 57, 97, 98, 99, 100, 101, 102]⟩) (some (.int .u8 7)) (some (.int .u8 8)) none).run Tryz.prog w = .ok (.string ⟨#[55]⟩) w := fun _ => by kernel_rfl
  have h8 : ∀ w, (Instr.slice 9 (.string ⟨#[48, 49, 50, 51, 52, 53, 54, 55, 56, 57, 97, 98, 99, 100, 101, 102]⟩) (some (.int .u8 8)) (some (.int .u8 9)) none).run Tryz.prog w = .ok (.string ⟨#[56]⟩) w := fun _ => by kernel_rfl
  have h9 : ∀ w, (Instr.slice 9 (.string ⟨#[48, 49, 50, 51, 52, 53, 54, 55, 56, 57, 97, 98, 99, 100, 101, 102]⟩) (some (.int .u8 9)) (some (.int .u8 10)) none).run Tryz.prog w = .ok (.string ⟨#[57]⟩) w := fun _ => by kernel_rfl
  have h10 : ∀ w, (Instr.slice 9 (.string ⟨#[48, 49, 50, 51, 52, 53, 54, 55, 56, 57, 97, 98, 99, 100, 101, 102]⟩) (some (.int .u8 10)) (some (.int .u8 11)) none).run Tryz.prog w = .ok (.string ⟨#[97]⟩) w := fun _ => by kernel_rfl
  have h11 : ∀ w, (Instr.slice 9 (.string ⟨#[48, 49, 50, 51, 52, 53, 54, 55, 56, 57, 97, 98, 99, 100, 101, 102]⟩) (some (.int .u8 11)) (some (.int .u8 12)) none).run Tryz.prog w = .ok (.string ⟨#[98]⟩) w := fun _ => by kernel_rfl
  have h12 : ∀ w, (Instr.slice 9 (.string ⟨#[48, 49, 50, 51, 52, 53, 54, 55, 56, 57, 97, 98, 99, 100, 101, 102]⟩) (some (.int .u8 12)) (some (.int .u8 13)) none).run Tryz.prog w = .ok (.string ⟨#[99]⟩) w := fun _ => by kernel_rfl
  have h13 : ∀ w, (Instr.slice 9 (.string ⟨#[48, 49, 50, 51, 52, 53, 54, 55, 56, 57, 97, 98, 99, 100, 101, 102]⟩) (some (.int .u8 13)) (some (.int .u8 14)) none).run Tryz.prog w = .ok (.string ⟨#[100]⟩) w := fun _ => by kernel_rfl
  have h14 : ∀ w, (Instr.slice 9 (.string ⟨#[48, 49, 50, 51, 52, 53, 54, 55, 56, 57, 97, 98, 99, 100, 101, 102]⟩) (some (.int .u8 14)) (some (.int .u8 15)) none).run Tryz.prog w = .ok (.string ⟨#[101]⟩) w := fun _ => by kernel_rfl
  have h15 : ∀ w, (Instr.slice 9 (.string ⟨#[48, 49, 50, 51, 52, 53, 54, 55, 56, 57, 97, 98, 99, 100, 101, 102]⟩) (some (.int .u8 15)) (some (.int .u8 16)) none).run Tryz.prog w = .ok (.string ⟨#[102]⟩) w := fun _ => by kernel_rfl
  match k, h with
  | 0, _ => exact h0 w
  | 1, _ => exact h1 w
  | 2, _ => exact h2 w
  | 3, _ => exact h3 w
  | 4, _ => exact h4 w
  | 5, _ => exact h5 w
  | 6, _ => exact h6 w
  | 7, _ => exact h7 w
  | 8, _ => exact h8 w
  | 9, _ => exact h9 w
  | 10, _ => exact h10 w
  | 11, _ => exact h11 w
  | 12, _ => exact h12 w
  | 13, _ => exact h13 w
  | 14, _ => exact h14 w
  | 15, _ => exact h15 w
  | k + 16, h => exact absurd h (by omega)
theorem hexSliceAt (k : Nat) (h : k < 16) (w : World) : (Instr.sliceAt 9 (.string ⟨#[48, 49, 50, 51, 52, 53, 54, 55, 56, 57, 97, 98, 99, 100, 101, 102]⟩) (some (.int .u8 (k : Int))) (some (.int .u8 ((k : Int) + 1))) none).run Tryz.prog w = .ok (.string ⟨#[hexd k]⟩) w := by
  have h0 : ∀ w, (Instr.sliceAt 9 (.string ⟨#[48, 49, 50, 51, 52, 53, 54, 55, 56, 57, 97, 98, 99, 100, 101, 102]⟩) (some (.int .u8 0)) (some (.int .u8 1)) none).run Tryz.prog w = .ok (.string ⟨#[48]⟩) w := fun _ => by kernel_rfl
  have h1 : ∀ w, (Instr.sliceAt 9 (.string ⟨#[48, 49, 50, 51, 52, 53, 54, 55, 56, 57, 97, 98, 99, 100, 101, 102]⟩) (some (.int .u8 1)) (some (.int .u8 2)) none).run Tryz.prog w = .ok (.string ⟨#[49]⟩) w := fun _ => by kernel_rfl
  have h2 : ∀ w, (Instr.sliceAt 9 (.string ⟨#[48, 49, 50, 51, 52, 53, 54, 55, 56, 57, 97, 98, 99, 100, 101, 102]⟩) (some (.int .u8 2)) (some (.int .u8 3)) none).run Tryz.prog w = .ok (.string ⟨#[50]⟩) w := fun _ => by kernel_rfl
  have h3 : ∀ w, (Instr.sliceAt 9 (.string ⟨#[48, 49, 50, 51, 52, 53, 54, 55, 56, 57, 97, 98, 99, 100, 101, 102]⟩) (some (.int .u8 3)) (some (.int .u8 4)) none).run Tryz.prog w = .ok (.string ⟨#[51]⟩) w := fun _ => by kernel_rfl
  have h4 : ∀ w, (Instr.sliceAt 9 (.string ⟨#[48, 49, 50, 51, 52, 53, 54, 55, 56, 57, 97, 98, 99, 100, 101, 102]⟩) (some (.int .u8 4)) (some (.int .u8 5)) none).run Tryz.prog w = .ok (.string ⟨#[52]⟩) w := fun _ => by kernel_rfl
  have h5 : ∀ w, (Instr.sliceAt 9 (.string ⟨#[48, 49, 50, 51, 52, 53, 54, 55, 56, 57, 97, 98, 99, 100, 101, 102]⟩) (some (.int .u8 5)) (some (.int .u8 6)) none).run Tryz.prog w = .ok (.string ⟨#[53]⟩) w := fun _ => by kernel_rfl
  have h6 : ∀ w, (Instr.sliceAt 9 (.string ⟨#[48, 49, 50, 51, 52, 53, 54, 55, 56, 57, 97, 98, 99, 100, 101, 102]⟩) (some (.int .u8 6)) (some (.int .u8 7)) none).run Tryz.prog w = .ok (.string ⟨#[54]⟩) w := fun _ => by kernel_rfl
  have h7 : ∀ w, (Instr.sliceAt 9 (.string ⟨#[48, 49, 50, 51, 52, 53, 54, 55, 56, 57, 97, 98, 99, 100, 101, 102]⟩) (some (.int .u8 7)) (some (.int .u8 8)) none).run Tryz.prog w = .ok (.string ⟨#[55]⟩) w := fun _ => by kernel_rfl
  have h8 : ∀ w, (Instr.sliceAt 9 (.string ⟨#[48, 49, 50, 51, 52, 53, 54, 55, 56, 57, 97, 98, 99, 100, 101, 102]⟩) (some (.int .u8 8)) (some (.int .u8 9)) none).run Tryz.prog w = .ok (.string ⟨#[56]⟩) w := fun _ => by kernel_rfl
  have h9 : ∀ w, (Instr.sliceAt 9 (.string ⟨#[48, 49, 50, 51, 52, 53, 54, 55, 56, 57, 97, 98, 99, 100, 101, 102]⟩) (some (.int .u8 9)) (some (.int .u8 10)) none).run Tryz.prog w = .ok (.string ⟨#[57]⟩) w := fun _ => by kernel_rfl
  have h10 : ∀ w, (Instr.sliceAt 9 (.string ⟨#[48, 49, 50, 51, 52, 53, 54, 55, 56, 57, 97, 98, 99, 100, 101, 102]⟩) (some (.int .u8 10)) (some (.int .u8 11)) none).run Tryz.prog w = .ok (.string ⟨#[97]⟩) w := fun _ => by kernel_rfl
  have h11 : ∀ w, (Instr.sliceAt 9 (.string ⟨#[48, 49, 50, 51, 52, 53, 54, 55, 56, 57, 97, 98, 99, 100, 101, 102]⟩) (some (.int .u8 11)) (some (.int .u8 12)) none).run Tryz.prog w = .ok (.string ⟨#[98]⟩) w := fun _ => by kernel_rfl
  have h12 : ∀ w, (Instr.sliceAt 9 (.string ⟨#[48, 49, 50, 51, 52, 53, 54, 55, 56, 57, 97, 98, 99, 100, 101, 102]⟩) (some (.int .u8 12)) (some (.int .u8 13)) none).run Tryz.prog w = .ok (.string ⟨#[99]⟩) w := fun _ => by kernel_rfl
  have h13 : ∀ w, (Instr.sliceAt 9 (.string ⟨#[48, 49, 50, 51, 52, 53, 54, 55, 56, 57, 97, 98, 99, 100, 101, 102]⟩) (some (.int .u8 13)) (some (.int .u8 14)) none).run Tryz.prog w = .ok (.string ⟨#[100]⟩) w := fun _ => by kernel_rfl
  have h14 : ∀ w, (Instr.sliceAt 9 (.string ⟨#[48, 49, 50, 51, 52, 53, 54, 55, 56, 57, 97, 98, 99, 100, 101, 102]⟩) (some (.int .u8 14)) (some (.int .u8 15)) none).run Tryz.prog w = .ok (.string ⟨#[101]⟩) w := fun _ => by kernel_rfl
  have h15 : ∀ w, (Instr.sliceAt 9 (.string ⟨#[48, 49, 50, 51, 52, 53, 54, 55, 56, 57, 97, 98, 99, 100, 101, 102]⟩) (some (.int .u8 15)) (some (.int .u8 16)) none).run Tryz.prog w = .ok (.string ⟨#[102]⟩) w := fun _ => by kernel_rfl
  match k, h with
  | 0, _ => exact h0 w
  | 1, _ => exact h1 w
  | 2, _ => exact h2 w
  | 3, _ => exact h3 w
  | 4, _ => exact h4 w
  | 5, _ => exact h5 w
  | 6, _ => exact h6 w
  | 7, _ => exact h7 w
  | 8, _ => exact h8 w
  | 9, _ => exact h9 w
  | 10, _ => exact h10 w
  | 11, _ => exact h11 w
  | 12, _ => exact h12 w
  | 13, _ => exact h13 w
  | 14, _ => exact h14 w
  | 15, _ => exact h15 w
  | k + 16, h => exact absurd h (by omega)
theorem encode_small : ∀ b : Nat, b < 128 → Utf8.encode (b : Int) = ⟨#[b.toUInt8]⟩ := by decide +kernel
theorem wrap8 (x : Int) (h0 : 0 ≤ x) (h1 : x ≤ 255) : IntKind.u8.wrap x = x := by simp [IntKind.wrap, IntKind.signed, IntKind.bits]; omega
theorem index_ge (l : List UInt8) (c : UInt8) : decide (0 ≤ Lib.indexByte l c) = l.contains c := by
  induction l with
  | nil => simp [Lib.indexByte]
  | cons a l ih =>
    have hg := Lib.indexByte_ge l c
    rw [List.contains_cons, ← ih, Lib.indexByte]
    by_cases h : a = c
    · simp [h]
    · have h' : ¬ c = a := fun e => h e.symm
      by_cases h2 : Lib.indexByte l c = -1
      · simp [h, h', h2]
      · have h3 : 0 ≤ Lib.indexByte l c := by omega
        have h4 : 0 ≤ Lib.indexByte l c + 1 := by omega
        simp [h, h', h2, h3, h4]
set_option maxRecDepth 100000 in
set_option maxHeartbeats 2000000 in
theorem Byte_any (b : Nat) (hb : b < 256) (w : World) :
    Calls Tryz.prog 112 #[.int .u8 (b : Int)] w fun e w' => e = .returned (.string ⟨(byteW b).toArray⟩) ∧ Below w.heap.size w w' := by
  by_cases h10 : b = 10
  · subst h10
    go_enter Tryz.func112, Tryz.ntmps112
    go_wp2_with fail
    go_ret
    exact ⟨rfl, Below.refl _ _⟩
  by_cases h9 : b = 9
  · subst h9
    go_enter Tryz.func112, Tryz.ntmps112
    go_wp2_with fail
    go_ret
    exact ⟨rfl, Below.refl _ _⟩
  have h10' : ((b : Int) == 10) = false := by rw [beq_eq_false_iff_ne]; omega
  have h9' : ((b : Int) == 9) = false := by rw [beq_eq_false_iff_ne]; omega
  by_cases hx : b < 32 ∨ 127 ≤ b
  · have HB : Hid (byteW b = [92, 120, hexd (b / 16), hexd (b % 16)]) := by show _ = _; unfold byteW; rw [if_neg h10, if_neg h9, if_pos hx]
    rw [HB.out]
    have hs1 := hexSlice (b / 16) (by omega)
    have hs2 := hexSlice (b % 16) (by omega)
    have hs3 := hexSliceAt (b / 16) (by omega)
    have hs4 := hexSliceAt (b % 16) (by omega)
    have hw1 := wrap8 ((b : Int) / 16 + 1) (by omega) (by omega)
    have hw2 := wrap8 ((b : Int) % 16 + 1) (by omega) (by omega)
    rw [show ((b / 16 : Nat) : Int) = (b : Int) / 16 by omega] at hs1 hs3
    rw [show ((b % 16 : Nat) : Int) = (b : Int) % 16 by omega] at hs2 hs4
    generalize hexd (b / 16) = x1 at *
    generalize hexd (b % 16) = x2 at *
    rcases hx with hx | hx
    · go_enter Tryz.func112, Tryz.ntmps112
      go_wp2_with fail
      go_quiet (fail)
      go_wp2_with fail
      go_ret
      refine ⟨congrArg (fun s => Ending.returned (.string s)) (ByteArray.ext (by simp)), ?_⟩
      repeat (first | exact Below.refl _ _ | assumption | refine Below.drew ?_ | refine ext_drewN ?_ _ | refine ext_alloc ?_ _ | refine Below.setCell ?_ (by (try simp only [World.size_alloc, World.size_setCell, World.size_drew]); omega) _ | refine ext_step ?_ (by assumption))
    · go_enter Tryz.func112, Tryz.ntmps112
      go_wp2_with fail
      go_quiet (fail)
      go_wp2_with fail
      go_ret
      refine ⟨congrArg (fun s => Ending.returned (.string s)) (ByteArray.ext (by simp)), ?_⟩
      repeat (first | exact Below.refl _ _ | assumption | refine Below.drew ?_ | refine ext_drewN ?_ _ | refine ext_alloc ?_ _ | refine Below.setCell ?_ (by (try simp only [World.size_alloc, World.size_setCell, World.size_drew]); omega) _ | refine ext_step ?_ (by assumption))
  · have hlo : 32 ≤ b := by omega
    have hhi : b < 127 := by omega
    have HB : Hid (byteW b = if marked b then [92, b.toUInt8] else [b.toUInt8]) := by show _ = _; unfold byteW; rw [if_neg h10, if_neg h9, if_neg hx]
    have hI := fun W => IndexByte_any ⟨#[40, 41, 91, 93, 124, 38, 45, 42, 43, 63, 46, 92, 32, 9, 10, 13]⟩ (b : Int) W
    have hge := index_ge specials b.toUInt8
    have hm1 := Lib.indexByte_ge specials b.toUInt8
    rw [Int.toNat_natCast] at hI
    change ∀ W, Calls Tryz.prog _ _ W (fun e w' => e = .returned (.int .i64 (Lib.indexByte specials b.toUInt8)) ∧ w' = W) at hI
    have HM : Hid (marked b = (specials.contains b.toUInt8 || b == 94 || b == 47 || b == 34 || b == 35)) := rfl
    have henc := encode_small b (by omega)
    have h32 : decide ((b : Int) < 32) = false := decide_eq_false (by omega)
    have h127 : decide (127 ≤ (b : Int)) = false := decide_eq_false (by omega)
    generalize Lib.indexByte specials b.toUInt8 = r at *
    generalize specials.contains b.toUInt8 = c at *
    by_cases hr : 0 ≤ r
    · have hc : c = true := by rw [← hge]; exact decide_eq_true hr
      subst hc
      have HB2 : Hid (byteW b = [92, b.toUInt8]) := by show _ = _; rw [HB.out, HM.out]; simp
      rw [HB2.out]
      generalize b.toUInt8 = x at *
      have HI := Lib.hid hI
      clear hI hge
      go_enter Tryz.func112, Tryz.ntmps112
      go_wp2_with fail
      refine (HI.out _).mono ?_
      rintro e w' ⟨rfl, rfl⟩
      go_wp2_with fail
      go_ret
      exact ⟨congrArg (fun s => Ending.returned (.string s)) (ByteArray.ext (by simp)), Below.refl _ _⟩
    · obtain rfl : r = -1 := by omega
      have hc : c = false := by rw [← hge]; rfl
      subst hc
      by_cases hq : b = 94 ∨ b = 47 ∨ b = 34 ∨ b = 35
      · have HB2 : Hid (byteW b = [92, b.toUInt8]) := by
          show _ = _
          rw [HB.out, HM.out]
          rcases hq with rfl | rfl | rfl | rfl <;> rfl
        rw [HB2.out]
        have HI := Lib.hid hI
        clear hI hge
        rcases hq with rfl | rfl | rfl | rfl
        all_goals
          go_enter Tryz.func112, Tryz.ntmps112
          go_wp2_with fail
          refine (HI.out _).mono ?_
          rintro e w' ⟨rfl, rfl⟩
          go_wp2_with fail
          go_ret
          exact ⟨rfl, Below.refl _ _⟩
      · have HB2 : Hid (byteW b = [b.toUInt8]) := by
          show _ = _
          rw [HB.out, HM.out, if_neg]
          simp
          omega
        rw [HB2.out]
        have q1 : ((b : Int) == 94) = false := by rw [beq_eq_false_iff_ne]; omega
        have q2 : ((b : Int) == 47) = false := by rw [beq_eq_false_iff_ne]; omega
        have q3 : ((b : Int) == 34) = false := by rw [beq_eq_false_iff_ne]; omega
        have q4 : ((b : Int) == 35) = false := by rw [beq_eq_false_iff_ne]; omega
        generalize b.toUInt8 = x at *
        have HI := Lib.hid hI
        clear hI hge
        go_enter Tryz.func112, Tryz.ntmps112
        go_wp2_with fail
        refine (HI.out _).mono ?_
        rintro e w' ⟨rfl, rfl⟩
        go_wp2_with fail
        go_ret
        exact ⟨rfl, Below.refl _ _⟩
end Go.Proofs.YtgamknphlmcgnaaGreatDoor
namespace Go.Proofs.YtgamknphlmcgnaaGreatDoor
open Go.RowKit
def bytesW (l : List UInt8) : List UInt8 := l.flatMap fun c => byteW c.toNat
def quoteW (l : List UInt8) : List UInt8 := 34 :: (bytesW l ++ [34])
theorem byteW_len (b : Nat) : (byteW b).length ≤ 4 := by
  unfold byteW
  split
  · simp
  · split
    · simp
    · split
      · simp
      · split <;> simp
theorem str_at (l : List UInt8) (k : Nat) (h : k < l.length) (w : World) : (Instr.index 9 (.string ⟨l.toArray⟩) (.int .i64 (k : Int))).run Tryz.prog w = .ok (.int .u8 ((l.getD k 0).toNat : Int)) w := by
  rw [run_index_string w _ _ .i64 _ undStr, dif_pos ⟨by omega, by show (k : Int) < (l.length : Nat); omega⟩]
  simp [List.getD, h]
  rfl
theorem str_size (l : List UInt8) : (⟨l.toArray⟩ : ByteArray).size = l.length := by simp [ByteArray.size]
end Go.Proofs.YtgamknphlmcgnaaGreatDoor
end
