/-
  The reader of expressions, plain: how deep it is behind each part. The iterator over a set's runs, walked through the program: it hands on each run of the set, in order, and stops where it is told to. The least byte of a set, walked through the program: for whatever set; the library's table is read as its initialiser lays it. An expression in memory: the block of its node, the row of its kids, and so on down. It stays where memory grows.
-/
import Derived.Test.YtgamknphlmcgnaaGreatDoorRows
import Derived.WalkSpells
import Derived.WalkLawsBesides
import Derived.Deep.RegionHeld3
import Derived.LoopN
import Derived.Lib.Hide
import Derived.ProofKit
import Derived.OpenShut
import Derived.ShutString
import Derived.ChangeOld
import Derived.Below
import Derived.Lib.SmallJoins
import Derived.RangeFuncNested
import Derived.RangeFuncBound
import Derived.RangeFuncCalls
import Derived.RangeFuncLeaves
import Derived.RangeFuncFrom
import Derived.Shelf.Abstract
import Derived.Shelf.RegionOpen
import Derived.OwnWalkIn
import Derived.TacticsInMore
import Derived.LoopNIn
import Derived.LoopIn
import Derived.Shelf.Spec.TrailingZeros
import Derived.Shelf.Lay
import Derived.WalkKit
import Derived.Test.YtgamknphlmcgnaaGreatDoorZlA
section
set_option linter.unusedSimpArgs false
set_option linter.unusedVariables false
set_option maxRecDepth 100000
set_option linter.unnecessarySimpa false
namespace Go.Proofs.YtgamknphlmcgnaaGreatDoor
/-- where the reader is: what is left of the text, how many bytes are behind, how deep, how many parts, the error and where it was -/
structure PS where
  rest : List UInt8
  at_ : Nat
  deep : Nat
  nodes : Nat
  e : Nat
  wh : Nat
namespace PS
/-- the first error is noted; nothing is left -/
def fail (st : PS) (e : Nat) : PS :=
  { st with e := if st.e = 0 then e else st.e, wh := if st.e = 0 then st.at_ else st.wh, at_ := st.at_ + st.rest.length, rest := [] }
def adv (st : PS) (k : Nat) : PS := { st with rest := st.rest.drop k, at_ := st.at_ + k }
def isWs (c : UInt8) : Bool := c == 32 || c == 9 || c == 10 || c == 13
def wsN : List UInt8 → Nat
  | [] => 0
  | c :: r => if isWs c then wsN r + 1 else 0
/-- past what doesn't count -/
def skip (st : PS) : PS := st.adv (wsN st.rest)
def head (st : PS) : UInt8 := st.rest.headD 0
/-- a byte is taken, if it is the next one -/
def take (st : PS) (b : UInt8) : PS × Bool :=
  if st.rest = [] then (st, false)
  else if st.skip.rest ≠ [] ∧ st.skip.head = b then (st.skip.adv 1, true) else (st.skip, false)
def hexL : List UInt8 := [48, 49, 50, 51, 52, 53, 54, 55, 56, 57, 97, 98, 99, 100, 101, 102]
def isHex (c : UInt8) : Bool := hexL.contains c
def hexV (c : UInt8) : Nat := hexL.idxOf c
/-- may it stand behind a backslash? -/
def escOk (c : UInt8) : Bool := (32 < c && c < 127 && (c < 97 || 122 < c) && (c < 65 || 90 < c) && (c < 48 || 57 < c)) || c == 32
def plainBad (c : UInt8) : Bool := c < 32 || 127 ≤ c || specials.contains c
def one (st : PS) : PS × Nat :=
  match st.rest with
  | [] => (st.fail 2, 0)
  | b :: rest =>
    if b ≠ 92 then (if plainBad b then (st.fail 2, 0) else (st.adv 1, b.toNat))
    else match rest with
      | [] => (st.fail 2, 0)
      | c :: r =>
        if c = 110 then (st.adv 2, 10)
        else if c = 116 then (st.adv 2, 9)
        else if c = 120 then
          match r with
          | h :: l :: _ => if isHex h && isHex l then (st.adv 4, hexV h * 16 + hexV l) else (st.fail 2, 0)
          | _ => (st.fail 2, 0)
        else if escOk c then (st.adv 2, c.toNat) else (st.fail 2, 0)
/-- from one byte to another one -/
def fromS (a b : Nat) : BS := BS.run a (b + 1 - a)
/-- one round of a set -/
def setStep (st : PS) (s : BS) : PS × BS :=
  let r1 := st.one
  let r2 := if r1.1.rest.head? = some 45 then (r1.1.adv 1).one else r1
  (if r2.2 < r1.2 then r2.1.fail 2 else r2.1, RE.orS s (fromS r1.2 r2.2))
def setGo : Nat → PS → BS → PS × BS
  | 0, st, s => (st, s)
  | f + 1, st, s => if st.e = 0 ∧ st.rest.head? ≠ some 93 then setGo f (setStep st s).1 (setStep st s).2 else (st, s)
def set (st : PS) : PS × BS :=
  let not := decide (st.rest.head? = some 94)
  let st1 := if not then st.adv 1 else st
  let r := setGo (st1.rest.length + 1) st1 BS.none
  ({ r.1 with rest := r.1.rest.drop 1, at_ := r.1.at_ + min 1 r.1.rest.length }, if not then notS' r.2 else r.2)
where notS' (s : BS) : BS := ⟨~~~s.a, ~~~s.b, ~~~s.c, ~~~s.d⟩
/-- one part; what stands in parentheses is read by f -/
def atom (f : PS → PS × Option RE) (st0 : PS) : PS × Option RE :=
  let st1 := { st0 with nodes := st0.nodes + 1 }
  if 1000 < st1.nodes then (st1.fail 3, none)
  else
    let st := st1.skip
    if st.rest.head? = some 40 then
      let st2 := { st with deep := st.deep + 1 }
      if 60 < st2.deep then (st2.fail 4, none)
      else
        let t := (st2.adv 1).take 41
        if t.2 then ({ t.1 with deep := t.1.deep - 1 }, some RE.empty)
        else
          let r := f t.1
          let u := r.1.take 41
          let st3 := if u.2 then u.1 else u.1.fail 2
          ({ st3 with deep := st3.deep - 1 }, r.2)
    else if st.rest.head? = some 91 then ((st.adv 1).set.1, some (RE.one (st.adv 1).set.2))
    else if st.rest.head? = some 46 then (st.adv 1, some (RE.one BS.all))
    else (st.one.1, some (RE.one (BS.none.add st.one.2)))
/-- what a sign behind a part makes of it -/
def sign : List (UInt8 × (Option RE → RE)) := [(42, fun r => RE.many r), (43, fun r => RE.thenL [r, some (RE.many r)]), (63, fun r => RE.anyL [r, some RE.empty])]
def bump (st : PS) (r : RE) : PS :=
  let st1 := { st with nodes := st.nodes + 1 }
  if 1000 < st1.nodes ∨ 1000 < r.size then st1.fail 3 else st1
def postGo : Nat → PS → Option RE → PS × Option RE
  | 0, st, _ => (st, none)
  | f + 1, st, r =>
    if st.e ≠ 0 then (st, none)
    else
      let t := st.take 42
      if t.2 then postGo f (t.1.bump (RE.many r)) (some (RE.many r))
      else
        let u := t.1.take 43
        if u.2 then postGo f (u.1.bump (RE.thenL [r, some (RE.many r)])) (some (RE.thenL [r, some (RE.many r)]))
        else
          let v := u.1.take 63
          if v.2 then postGo f (v.1.bump (RE.anyL [r, some RE.empty])) (some (RE.anyL [r, some RE.empty]))
          else (v.1, r)
def post (f : PS → PS × Option RE) (st : PS) : PS × Option RE :=
  let a := atom f st
  postGo (a.1.rest.length + 1) a.1 a.2
def stops (st : PS) : Bool := st.rest.isEmpty || st.head == 41 || st.head == 124 || st.head == 38 || st.head == 45
def catGo (f : PS → PS × Option RE) : Nat → PS → List (Option RE) → PS × RE
  | 0, st, acc => (st, RE.thenL acc)
  | n + 1, st, acc =>
    if st.e ≠ 0 then (st, RE.thenL acc)
    else if st.skip.stops then (st.skip, RE.thenL acc)
    else catGo f n (post f st.skip).1 (acc ++ [(post f st.skip).2])
def cat (f : PS → PS × Option RE) (st : PS) : PS × RE :=
  let a := post f st
  catGo f (a.1.rest.length + 1) a.1 [a.2]
/-- parts with a sign between -/
def listGo (g : PS → PS × RE) (b : UInt8) (F : List (Option RE) → RE) : Nat → PS → List (Option RE) → PS × RE
  | 0, st, acc => (st, F acc)
  | n + 1, st, acc =>
    if st.e ≠ 0 then (st, F acc)
    else
      let t := st.take b
      if t.2 then listGo g b F n (g t.1).1 (acc ++ [some (g t.1).2]) else (t.1, F acc)
def list (g : PS → PS × RE) (b : UInt8) (F : List (Option RE) → RE) (st : PS) : PS × RE :=
  let a := g st
  listGo g b F (a.1.rest.length + 1) a.1 [some a.2]
def and (f : PS → PS × Option RE) : PS → PS × RE := list (cat f) 38 RE.bothL
def minusGo (f : PS → PS × Option RE) : Nat → PS → RE → PS × RE
  | 0, st, r => (st, r)
  | n + 1, st, r =>
    if st.e ≠ 0 then (st, r)
    else
      let t := st.take 45
      if t.2 then minusGo f n (and f t.1).1 (RE.but (some r) (some (and f t.1).2)) else (t.1, r)
def minus (f : PS → PS × Option RE) (st : PS) : PS × RE :=
  let a := and f st
  minusGo f (a.1.rest.length + 1) a.1 a.2
def orS (f : PS → PS × Option RE) : PS → PS × RE := list (minus f) 124 RE.anyL
/-- .. so many parentheses deep at most -/
def orN : Nat → PS → PS × Option RE
  | 0, st => (st, none)
  | n + 1, st => ((orS (orN n) st).1, some (orS (orN n) st).2)
end PS
/-- the expression that a text is; the error, and where it is -/
def readS (s : List UInt8) : PS × RE := PS.orS (PS.orN 60) ⟨s, 0, 0, 0, 0, 0⟩
def readE (s : List UInt8) : PS :=
  let st := (readS s).1
  let st1 := if st.e = 0 then (if st.skip.rest = [] then st.skip else st.skip.fail 2) else st
  if st1.e = 0 ∧ 1000 < (readS s).2.size then { st1 with at_ := 0 }.fail 3 else st1
def readW (s : List UInt8) : Option RE × Nat × Nat :=
  if 65536 < s.length then (none, 3, 0)
  else if (readE s).e = 0 then (some (readS s).2, 0, 0) else (none, (readE s).e, (readE s).wh)
end Go.Proofs.YtgamknphlmcgnaaGreatDoor
namespace Go.Proofs.YtgamknphlmcgnaaGreatDoor
namespace PS
/-- from one place to a later one -/
structure Run (a b : PS) : Prop where
  le : a.at_ ≤ b.at_
  rest : b.rest = a.rest.drop (b.at_ - a.at_)
  tot : b.at_ + b.rest.length = a.at_ + a.rest.length
  err : b.e = 0 ∨ ((b.e = 2 ∨ b.e = 3 ∨ b.e = 4) ∧ a.at_ ≤ b.wh ∧ b.wh ≤ b.at_ ∧ b.rest = [])
theorem Run.refl {a : PS} (h : a.e = 0) : Run a a := ⟨Nat.le_refl _, by simp, rfl, .inl h⟩
theorem Run.trans {a b c : PS} (h : Run a b) (h' : Run b c) : Run a c := by
  refine ⟨Nat.le_trans h.le h'.le, ?_, h'.tot.trans h.tot, ?_⟩
  · rw [h'.rest, h.rest, List.drop_drop]
    congr 1
    have := h.le; have := h'.le; omega
  · rcases h'.err with h1 | ⟨h1, h2, h3⟩
    · exact .inl h1
    · exact .inr ⟨h1, Nat.le_trans h.le h2, h3⟩
theorem adv_run {a : PS} (h : a.e = 0) {k : Nat} (hk : k ≤ a.rest.length) : Run a (a.adv k) :=
  ⟨Nat.le_add_right _ _, by simp [adv], by simp [adv]; omega, .inl h⟩
theorem fail_run {a : PS} (h : a.e = 0) {e : Nat} (he : e = 2 ∨ e = 3 ∨ e = 4) : Run a (a.fail e) :=
  ⟨Nat.le_add_right _ _, by simp [fail], by simp [fail], .inr ⟨by simp [fail, h]; exact he, by simp [fail, h]⟩⟩
theorem fail_e {a : PS} (h : a.e = 0) {e : Nat} (he : e = 2 ∨ e = 3 ∨ e = 4) : (a.fail e).e ≠ 0 := by simp [fail, h]; omega
/-- a second error turns nothing -/
theorem fail_again {a : PS} (h : a.e ≠ 0) (hr : a.rest = []) (e : Nat) : a.fail e = a := by
  cases a with
  | mk r t d n x y =>
    simp only at h hr
    simp [fail, h, hr]
theorem wsN_le (l : List UInt8) : wsN l ≤ l.length := by
  induction l with
  | nil => simp [wsN]
  | cons c r ih => rw [wsN]; split <;> simp <;> omega
theorem skip_run {a : PS} (h : a.e = 0) : Run a a.skip := adv_run h (wsN_le _)
theorem take_same (a : PS) (b : UInt8) : (a.take b).1.e = a.e ∧ (a.take b).1.nodes = a.nodes ∧ (a.take b).1.deep = a.deep ∧ (a.take b).1.wh = a.wh := by
  unfold take
  split
  · exact ⟨rfl, rfl, rfl, rfl⟩
  split <;> exact ⟨rfl, rfl, rfl, rfl⟩
theorem take_run {a : PS} (h : a.e = 0) (b : UInt8) : Run a (a.take b).1 := by
  unfold take
  split
  · exact Run.refl h
  split
  · rename_i h1 h2
    have h3 : 1 ≤ a.skip.rest.length := List.length_pos_iff.2 h2.1
    exact (skip_run h).trans (adv_run (a := a.skip) h h3)
  · exact skip_run h
theorem take_go {a : PS} {b : UInt8} (h : (a.take b).2 = true) : a.at_ < (a.take b).1.at_ := by
  unfold take at h ⊢
  split
  · rename_i h1; rw [if_pos h1] at h; cases h
  split
  · simp [adv, skip]; omega
  · rename_i h1 h2; rw [if_neg h1, if_neg h2] at h; cases h
/-- what is read at a part's place: the end, where nothing is left -/
theorem take_nil {a : PS} (h : a.rest = []) (b : UInt8) : a.take b = (a, false) := by unfold take; rw [if_pos h]
theorem one_same (a : PS) : a.one.1.deep = a.deep ∧ a.one.1.nodes = a.nodes := by
  unfold one
  repeat' split
  all_goals exact ⟨rfl, rfl⟩
theorem hexV_lt {c : UInt8} (h : isHex c = true) : hexV c < 16 := by
  have : c ∈ hexL := by simpa [isHex] using h
  exact List.idxOf_lt_length_of_mem this
theorem one_run {a : PS} (h : a.e = 0) : Run a a.one.1 ∧ (a.one.1.e = 0 → a.at_ < a.one.1.at_) ∧ a.one.2 < 256 := by
  have F : Run a (a.fail 2) ∧ ((a.fail 2).e = 0 → a.at_ < (a.fail 2).at_) ∧ 0 < 256 := ⟨fail_run h (.inl rfl), fun h' => absurd h' (fail_e h (.inl rfl)), by omega⟩
  have A : ∀ k, 0 < k → k ≤ a.rest.length → ∀ x, x < 256 → Run a (a.adv k) ∧ ((a.adv k).e = 0 → a.at_ < (a.adv k).at_) ∧ x < 256 := fun k h0 hk x hx => ⟨adv_run h hk, fun _ => by simp [adv]; omega, hx⟩
  unfold one
  split
  · exact F
  · rename_i b r hr
    split
    · split
      · exact F
      · exact A 1 (by omega) (by rw [hr]; simp) _ b.toNat_lt
    · split
      · exact F
      · rename_i c r
        split
        · exact A 2 (by omega) (by rw [hr]; simp) _ (by omega)
        split
        · exact A 2 (by omega) (by rw [hr]; simp) _ (by omega)
        split
        · split
          · split
            · rename_i hx
              simp only [Bool.and_eq_true] at hx
              have h1 := hexV_lt hx.1
              have h2 := hexV_lt hx.2
              exact A 4 (by omega) (by rw [hr]; simp) _ (by omega)
            · exact F
          · exact F
        split
        · exact A 2 (by omega) (by rw [hr]; simp) _ c.toNat_lt
        · exact F
theorem setStep_run {a : PS} (h : a.e = 0) (s : BS) : Run a (setStep a s).1 ∧ ((setStep a s).1.e = 0 → a.at_ < (setStep a s).1.at_) ∧ (setStep a s).1.nodes = a.nodes ∧ (setStep a s).1.deep = a.deep := by
  obtain ⟨h1, h2, h3⟩ := one_run h
  have n1 := (one_same a).2
  have d1 := (one_same a).1
  have key : ∀ b : PS × Nat, Run a b.1 → (b.1.e = 0 → a.at_ < b.1.at_) → b.1.nodes = a.nodes → b.1.deep = a.deep → Run a (if b.2 < a.one.2 then b.1.fail 2 else b.1) ∧ ((if b.2 < a.one.2 then b.1.fail 2 else b.1).e = 0 → a.at_ < (if b.2 < a.one.2 then b.1.fail 2 else b.1).at_) ∧ (if b.2 < a.one.2 then b.1.fail 2 else b.1).nodes = a.nodes ∧ (if b.2 < a.one.2 then b.1.fail 2 else b.1).deep = a.deep := fun b hb hg hn hd => by
    split
    · rcases hb.err with e | ⟨e, _, _, hr⟩
      · exact ⟨hb.trans (fail_run e (.inl rfl)), fun h' => absurd h' (fail_e e (.inl rfl)), hn, hd⟩
      · rw [fail_again (by omega) hr]; exact ⟨hb, fun h' => by omega, hn, hd⟩
    · exact ⟨hb, hg, hn, hd⟩
  unfold setStep
  simp only
  split
  · rename_i hh
    have he : a.one.1.e = 0 := by
      rcases h1.err with e | ⟨_, _, _, hr⟩
      · exact e
      · rw [hr] at hh; simp at hh
    have hl : 1 ≤ a.one.1.rest.length := by
      cases hq : a.one.1.rest with
      | nil => rw [hq] at hh; simp at hh
      | cons _ _ => simp
    have g1 := adv_run he hl
    obtain ⟨g2, g3, _⟩ := one_run (a := a.one.1.adv 1) he
    exact key _ (h1.trans (g1.trans g2)) (fun e => by have := h2 he; have := g3 e; have : a.one.1.at_ ≤ (a.one.1.adv 1).at_ := g1.le; omega) (by rw [(one_same _).2]; exact n1) (by rw [(one_same _).1]; exact d1)
  · exact key _ h1 h2 n1 d1
theorem setGo_run (f : Nat) : ∀ (a : PS) (s : BS), a.e = 0 → Run a (setGo f a s).1 ∧ (setGo f a s).1.nodes = a.nodes ∧ (setGo f a s).1.deep = a.deep := by
  induction f with
  | zero => intro a s h; exact ⟨Run.refl h, rfl, rfl⟩
  | succ f ih =>
    intro a s h
    rw [setGo]
    split
    · obtain ⟨h1, h2, h3⟩ := setStep_run h s
      rcases h1.err with e | ⟨e, _, _, hr⟩
      · obtain ⟨g1, g2, g3⟩ := ih _ (setStep a s).2 e
        exact ⟨h1.trans g1, g2.trans h3.1, g3.trans h3.2⟩
      · have : setGo f (setStep a s).1 (setStep a s).2 = ((setStep a s).1, (setStep a s).2) := by
          cases f with
          | zero => rfl
          | succ f => rw [setGo, if_neg (by omega)]
        rw [this]; exact ⟨h1, h3⟩
    · exact ⟨Run.refl h, rfl, rfl⟩
/-- behind the closing bracket, if there is one -/
def clip (a : PS) : PS := { a with rest := a.rest.drop 1, at_ := a.at_ + min 1 a.rest.length }
theorem clip_run {a b : PS} (h : Run a b) : Run a b.clip := by
  refine ⟨Nat.le_trans h.le (Nat.le_add_right _ _), ?_, ?_, ?_⟩
  · show b.rest.drop 1 = a.rest.drop (b.at_ + min 1 b.rest.length - a.at_)
    have hle := h.le
    rw [h.rest, List.drop_drop]
    by_cases hl : b.rest = []
    · have h1 : a.rest.length ≤ b.at_ - a.at_ := by have := h.rest; rw [hl] at this; exact List.drop_eq_nil_iff.1 this.symm
      rw [List.drop_eq_nil_of_le (by omega), List.drop_eq_nil_of_le (by omega)]
    · have h1 : 1 ≤ b.rest.length := List.length_pos_iff.2 hl
      rw [← h.rest]
      congr 1; omega
  · show b.at_ + min 1 b.rest.length + (b.rest.drop 1).length = _
    have := h.tot
    rw [List.length_drop]; omega
  · rcases h.err with e | ⟨e1, e2, e3, e4⟩
    · exact .inl e
    · exact .inr ⟨e1, e2, Nat.le_trans e3 (Nat.le_add_right _ _), by show b.rest.drop 1 = []; rw [e4]; rfl⟩
theorem set_run {a : PS} (h : a.e = 0) : Run a a.set.1 ∧ a.set.1.nodes = a.nodes ∧ a.set.1.deep = a.deep := by
  unfold set
  simp only
  by_cases hn : a.rest.head? = some 94
  · have hl : 1 ≤ a.rest.length := by
      cases hq : a.rest with
      | nil => rw [hq] at hn; simp at hn
      | cons _ _ => simp
    rw [if_pos (by simpa using hn)]
    obtain ⟨g1, g2⟩ := setGo_run ((a.adv 1).rest.length + 1) (a.adv 1) BS.none h
    exact ⟨clip_run ((adv_run h hl).trans g1), g2⟩
  · rw [if_neg (by simpa using hn)]
    obtain ⟨g1, g2⟩ := setGo_run (a.rest.length + 1) a BS.none h
    exact ⟨clip_run g1, g2⟩
/-- what a part's reading leaves: c is what is saved of its size -/
structure Res (c : Nat) (a : PS) (r : PS × Option RE) : Prop where
  run : Run a r.1
  go : r.1.e = 0 → a.at_ < r.1.at_ ∧ r.1.nodes ≤ 1000 ∧ r.1.deep = a.deep ∧ ∃ x, r.2 = some x
  nodes : a.nodes < r.1.nodes ∧ r.1.nodes ≤ 1001
  nf : ∀ x, r.2 = some x → RE.nf x
  size : RE.sizeO r.2 + c + 4000 * a.nodes ≤ 4000 * r.1.nodes
/-- a place where a part may begin -/
def At (d : Nat) (a : PS) : Prop := a.e = 0 ∧ a.nodes ≤ 1000 ∧ a.deep + d = 60
/-- how what stands in parentheses is read -/
def Gd (d : Nat) (f : PS → PS × Option RE) : Prop := ∀ a, At d a → Res 92 a (f a)
theorem Res.at {c d : Nat} {a : PS} {r : PS × Option RE} (h : Res c a r) (ha : At d a) (he : r.1.e = 0) : At d r.1 := ⟨he, (h.go he).2.1, by rw [(h.go he).2.2.1]; exact ha.2.2⟩
theorem At.take {d : Nat} {a : PS} (h : At d a) (b : UInt8) : At d (a.take b).1 := by
  obtain ⟨h1, h2, h3, _⟩ := take_same a b
  exact ⟨h1.trans h.1, h2 ▸ h.2.1, by rw [h3]; exact h.2.2⟩
theorem atom_res {d : Nat} (f : PS → PS × Option RE) (hf : ∀ d', d' + 1 = d → Gd d' f) (a : PS) (ha : At d a) : Res 100 a (atom f a) := by
  obtain ⟨he, hn, hd⟩ := ha
  have N : ∀ st : PS, st.e = 0 → ∀ e, (e = 2 ∨ e = 3 ∨ e = 4) → st.nodes = a.nodes + 1 → Run a (st.fail e) → Res 100 a (st.fail e, none) := fun st hst e h2 hn' hr =>
    ⟨hr, fun h' => absurd h' (fail_e hst h2), ⟨by show a.nodes < st.nodes; omega, by show st.nodes ≤ 1001; omega⟩, (fun x hx => by cases hx), by show 0 + 100 + 4000 * a.nodes ≤ 4000 * st.nodes; omega⟩
  have L : ∀ (st : PS) (x : RE), Run a st → (st.e = 0 → a.at_ < st.at_) → st.nodes = a.nodes + 1 → st.deep = a.deep → a.nodes + 1 ≤ 1000 → RE.nf x → x.size = 1 → Res 100 a (st, some x) := fun st x hr hg hn' hd' hle hx hs =>
    ⟨hr, fun h' => ⟨hg h', by show st.nodes ≤ 1000; omega, hd', x, rfl⟩, ⟨by show a.nodes < st.nodes; omega, by show st.nodes ≤ 1001; omega⟩, (fun y hy => by cases hy; exact hx), by show x.size + 100 + 4000 * a.nodes ≤ 4000 * st.nodes; omega⟩
  have R1 : Run a { a with nodes := a.nodes + 1 } := ⟨Nat.le_refl _, by simp, rfl, .inl he⟩
  unfold atom
  simp only
  split
  · exact N { a with nodes := a.nodes + 1 } he 3 (by omega) rfl (R1.trans (fail_run (a := { a with nodes := a.nodes + 1 }) (e := 3) he (by omega)))
  rename_i hle
  have hle : a.nodes + 1 ≤ 1000 := Nat.le_of_not_lt hle
  have R2 := R1.trans (skip_run (a := { a with nodes := a.nodes + 1 }) he)
  generalize hst : ({ a with nodes := a.nodes + 1 } : PS).skip = st at *
  have se : st.e = 0 := by rw [← hst]; exact he
  have sn : st.nodes = a.nodes + 1 := by rw [← hst]; rfl
  have sd : st.deep = a.deep := by rw [← hst]; rfl
  have hl : ∀ c, st.rest.head? = some c → 1 ≤ st.rest.length := fun c hc => by
    cases hq : st.rest with
    | nil => rw [hq] at hc; simp at hc
    | cons _ _ => simp
  have RD : Run st { st with deep := st.deep + 1 } := ⟨Nat.le_refl _, by simp, rfl, .inl se⟩
  have hgo1 : ∀ c, st.rest.head? = some c → Run a (st.adv 1) ∧ a.at_ < (st.adv 1).at_ := fun c hc => ⟨R2.trans (adv_run se (hl c hc)), by have := R2.le; simp [adv]; omega⟩
  clear hst
  split
  · rename_i hc
    split
    · exact N { st with deep := st.deep + 1 } se 4 (by omega) sn ((R2.trans RD).trans (fail_run (a := { st with deep := st.deep + 1 }) (e := 4) se (by omega)))
    rename_i hdp
    have hdp : st.deep + 1 ≤ 60 := Nat.le_of_not_lt hdp
    obtain ⟨g1, g2⟩ := hgo1 _ hc
    have R3 : Run a (({ st with deep := st.deep + 1 } : PS).adv 1) := (R2.trans RD).trans (adv_run (a := { st with deep := st.deep + 1 }) se (hl _ hc))
    have g2 : a.at_ < (({ st with deep := st.deep + 1 } : PS).adv 1).at_ := g2
    obtain ⟨t1, t2, t3, _⟩ := take_same (({ st with deep := st.deep + 1 } : PS).adv 1) 41
    have R4 := R3.trans (take_run (a := ({ st with deep := st.deep + 1 } : PS).adv 1) se 41)
    have t1 : ((({ st with deep := st.deep + 1 } : PS).adv 1).take 41).1.e = 0 := t1.trans se
    have t2 : ((({ st with deep := st.deep + 1 } : PS).adv 1).take 41).1.nodes = a.nodes + 1 := t2.trans sn
    have t3 : ((({ st with deep := st.deep + 1 } : PS).adv 1).take 41).1.deep = a.deep + 1 := t3.trans (by show st.deep + 1 = _; rw [sd])
    have g3 : a.at_ < ((({ st with deep := st.deep + 1 } : PS).adv 1).take 41).1.at_ := Nat.lt_of_lt_of_le g2 (take_run (a := ({ st with deep := st.deep + 1 } : PS).adv 1) se 41).le
    generalize (({ st with deep := st.deep + 1 } : PS).adv 1).take 41 = t at *
    split
    · exact L { t.1 with deep := t.1.deep - 1 } _ ⟨R4.le, R4.rest, R4.tot, R4.err⟩ (fun _ => g3) t2 (by show t.1.deep - 1 = _; omega) hle RE.nf_empty rfl
    · obtain ⟨d', rfl⟩ : ∃ d', d' + 1 = d := ⟨d - 1, by omega⟩
      have hr := hf d' rfl t.1 ⟨t1, by omega, by omega⟩
      have R5 := R4.trans hr.run
      obtain ⟨n1, n2⟩ := hr.nodes
      have hsz := hr.size
      have hgo := hr.go
      have hnf := hr.nf
      generalize f t.1 = r at *
      have key : ∀ st3 : PS, Run a st3 → (st3.e = 0 → a.at_ < st3.at_ ∧ st3.nodes ≤ 1000 ∧ st3.deep = a.deep + 1 ∧ ∃ x, r.2 = some x) → st3.nodes = r.1.nodes → Res 100 a ({ st3 with deep := st3.deep - 1 }, r.2) := fun st3 h1 h2 h3 =>
        ⟨⟨h1.le, h1.rest, h1.tot, h1.err⟩, fun e => by
          obtain ⟨k1, k2, k3, k4⟩ := h2 e
          exact ⟨k1, k2, by show st3.deep - 1 = _; omega, k4⟩, ⟨by show a.nodes < st3.nodes; omega, by show st3.nodes ≤ 1001; omega⟩, hnf, by show RE.sizeO r.2 + 100 + 4000 * a.nodes ≤ 4000 * st3.nodes; omega⟩
      rcases R5.err with e | ⟨e, _, _, hrn⟩
      · obtain ⟨u1, u2, u3, _⟩ := take_same r.1 41
        have R6 := R5.trans (take_run e 41)
        split
        · refine key _ R6 (fun _ => ?_) u2
          obtain ⟨k1, k2, k3, k4⟩ := hgo e
          exact ⟨Nat.lt_of_lt_of_le (Nat.lt_trans g3 k1) (take_run e 41).le, by omega, by omega, k4⟩
        · exact key _ (R6.trans (fail_run (u1.trans e) (by omega))) (fun h' => absurd h' (fail_e (u1.trans e) (by omega))) u2
      · rw [take_nil hrn]
        simp only [Bool.false_eq_true, if_false]
        rw [fail_again (by omega) hrn]
        exact key _ R5 (fun h' => by omega) rfl
  split
  · rename_i hc
    obtain ⟨g1, g2⟩ := hgo1 _ hc
    obtain ⟨g3, g4⟩ := set_run (a := st.adv 1) se
    exact L _ _ (g1.trans g3) (fun _ => Nat.lt_of_lt_of_le g2 g3.le) (g4.1.trans sn) (g4.2.trans sd) hle (RE.nf_one _) (RE.one_size' _)
  split
  · rename_i hc
    obtain ⟨g1, g2⟩ := hgo1 _ hc
    exact L _ _ g1 (fun _ => g2) sn sd hle (RE.nf_one _) (RE.one_size' _)
  · obtain ⟨g1, g2, _⟩ := one_run se
    exact L _ _ (R2.trans g1) (fun h' => Nat.lt_of_le_of_lt R2.le (g2 h')) ((one_same st).2.trans sn) ((one_same st).1.trans sd) hle (RE.nf_one _) (RE.one_size' _)
theorem nf_two {a b : RE} (ha : RE.nf a) (hb : RE.nf b) : RE.nfO [some a, some b] := fun r hr => by
  simp only [List.mem_cons, Option.some.injEq, List.not_mem_nil, or_false] at hr
  rcases hr with rfl | rfl
  · exact ha
  · exact hb
theorem Res.none {c : Nat} {a st : PS} {r : Option RE} (h : Res c a (st, r)) (he : st.e ≠ 0) (hc : c ≤ 4000) : Res c a (st, Option.none) :=
  ⟨h.run, fun e => absurd e he, h.nodes, (fun x hx => by cases hx), by have := h.nodes.1; show 0 + c + 4000 * a.nodes ≤ 4000 * st.nodes; simp only at this; omega⟩
theorem rest_lt' {a b : PS} (h : Run a b) (hlt : a.at_ < b.at_) : b.rest.length < a.rest.length := by
  have h1 := h.tot
  omega
theorem postGo_bad (f : Nat) (st : PS) (r : Option RE) (h : st.e ≠ 0) : postGo f st r = (st, none) := by
  cases f with
  | zero => rfl
  | succ f => rw [postGo, if_pos h]
theorem postGo_res {a : PS} : ∀ (f : Nat) (st : PS) (r : Option RE), Res 100 a (st, r) → (st.e = 0 → st.rest.length < f) → Res 100 a (postGo f st r) := by
  intro f
  induction f with
  | zero =>
    intro st r h hf
    by_cases he : st.e = 0
    · have := hf he; omega
    · exact h.none he (by omega)
  | succ f ih =>
    intro st r h hf
    by_cases he : st.e = 0
    · have hlen := hf he
      obtain ⟨k1, k2, k3, x, rfl⟩ := h.go he
      have hnf := h.nf x rfl
      have hsz := h.size
      obtain ⟨hn1, hn2⟩ := h.nodes
      simp only at k1 k2 k3 hsz hn1 hn2
      -- behind a sign
      have B : ∀ (t : PS) (r' : RE), Run st t → st.at_ < t.at_ → t.e = 0 → t.nodes = st.nodes → t.deep = st.deep → RE.nf r' → Res 100 a (postGo f (t.bump r') (some r')) := fun t r' ht hlt te tn td hr' => by
        by_cases hbig : 1000 < t.nodes + 1 ∨ 1000 < r'.size
        · have hb : t.bump r' = ({ t with nodes := t.nodes + 1 } : PS).fail 3 := by unfold bump; simp only; rw [if_pos hbig]
          rw [hb]
          have hb2 : (({ t with nodes := t.nodes + 1 } : PS).fail 3).e ≠ 0 := fail_e (a := { t with nodes := t.nodes + 1 }) te (by omega)
          rw [postGo_bad _ _ _ hb2]
          have hT : Run t { t with nodes := t.nodes + 1 } := ⟨Nat.le_refl _, by simp, rfl, .inl te⟩
          exact ⟨(h.run.trans ht).trans (hT.trans (fail_run (a := { t with nodes := t.nodes + 1 }) te (by omega))), fun e => absurd e hb2, ⟨by show a.nodes < t.nodes + 1; omega, by show t.nodes + 1 ≤ 1001; omega⟩, (fun x hx => by cases hx), by show 0 + 100 + 4000 * a.nodes ≤ 4000 * (t.nodes + 1); omega⟩
        · have hb : t.bump r' = ({ t with nodes := t.nodes + 1 } : PS) := by unfold bump; simp only; rw [if_neg hbig]
          rw [hb]
          refine ih _ _ ⟨⟨by have := h.run.le; show a.at_ ≤ t.at_; simp only at this; omega, ?_, (h.run.trans ht).tot, .inl te⟩, fun _ => ⟨by show a.at_ < t.at_; omega, by show t.nodes + 1 ≤ 1000; omega, td.trans k3, r', rfl⟩, ⟨by show a.nodes < t.nodes + 1; omega, by show t.nodes + 1 ≤ 1001; omega⟩, (fun x hx => by cases hx; exact hr'), by show r'.size + 100 + 4000 * a.nodes ≤ 4000 * (t.nodes + 1); omega⟩ fun _ => ?_
          · exact (h.run.trans ht).rest
          · have := rest_lt' ht hlt
            show t.rest.length < f; omega
      have hO : ∀ y : RE, RE.nf y → RE.nfO [some x, some y] := fun y hy => nf_two hnf hy
      have hm : RE.nf (RE.many (some x)) := RE.nf_many fun r hr => by cases hr; exact hnf
      obtain ⟨t1, t2, t3, _⟩ := take_same st 42
      have T := take_run he 42
      rw [postGo, if_neg (by omega)]
      simp only
      split
      · rename_i ht
        exact B _ _ T (take_go ht) (t1.trans he) t2 t3 hm
      obtain ⟨u1, u2, u3, _⟩ := take_same (st.take 42).1 43
      have U := take_run (t1.trans he) 43
      split
      · rename_i hu
        exact B _ _ (T.trans U) (Nat.lt_of_le_of_lt T.le (take_go hu)) (u1.trans (t1.trans he)) (u2.trans t2) (u3.trans t3) (RE.nf_thenL (hO _ hm))
      obtain ⟨v1, v2, v3, _⟩ := take_same ((st.take 42).1.take 43).1 63
      have V := take_run (u1.trans (t1.trans he)) 63
      split
      · rename_i hv
        exact B _ _ ((T.trans U).trans V) (Nat.lt_of_le_of_lt (T.trans U).le (take_go hv)) (v1.trans (u1.trans (t1.trans he))) (v2.trans (u2.trans t2)) (v3.trans (u3.trans t3)) (RE.nf_anyL (hO _ RE.nf_empty))
      · have R := (T.trans U).trans V
        have hnn : (((st.take 42).1.take 43).1.take 63).1.nodes = st.nodes := v2.trans (u2.trans t2)
        exact ⟨h.run.trans R, fun _ => ⟨Nat.lt_of_lt_of_le k1 R.le, by show (((st.take 42).1.take 43).1.take 63).1.nodes ≤ 1000; omega, (v3.trans (u3.trans t3)).trans k3, x, rfl⟩, ⟨by show a.nodes < (((st.take 42).1.take 43).1.take 63).1.nodes; omega, by show (((st.take 42).1.take 43).1.take 63).1.nodes ≤ 1001; omega⟩, (fun y hy => by cases hy; exact hnf), by show _ ≤ 4000 * (((st.take 42).1.take 43).1.take 63).1.nodes; rw [hnn]; exact hsz⟩
    · rw [postGo_bad _ _ _ he]; exact h.none he (by omega)
theorem post_res {d : Nat} {f : PS → PS × Option RE} (hf : ∀ d', d' + 1 = d → Gd d' f) (a : PS) (ha : At d a) : Res 100 a (post f a) :=
  postGo_res _ _ _ (atom_res f hf a ha) fun _ => Nat.lt_succ_self _
theorem catGo_bad (f : PS → PS × Option RE) (n : Nat) (st : PS) (acc : List (Option RE)) (h : st.e ≠ 0) : catGo f n st acc = (st, RE.thenL acc) := by
  cases n with
  | zero => rfl
  | succ n => rw [catGo, if_pos h]
/-- so many parts, read one behind the other -/
structure Acc (c : Nat) (a st : PS) (acc : List (Option RE)) : Prop where
  run : Run a st
  go : st.e = 0 → a.at_ < st.at_ ∧ st.nodes ≤ 1000 ∧ st.deep = a.deep
  nodes : a.nodes < st.nodes ∧ st.nodes ≤ 1001
  nf : RE.nfO acc
  ne : acc ≠ []
  size : RE.sizeOs acc + c * acc.length + 4000 * a.nodes ≤ 4000 * st.nodes
theorem sizeOs_snoc (l : List (Option RE)) (r : Option RE) : RE.sizeOs (l ++ [r]) = RE.sizeOs l + (1 + RE.sizeO r) := by simp [RE.sizeOs]
theorem Acc.snoc {c d : Nat} {a st b : PS} {acc : List (Option RE)} {r : PS × Option RE} (h : Acc c a st acc) (he : st.e = 0) (hb : Run st b) (hn : b.nodes = st.nodes) (hd : b.deep = st.deep) (hr : Res (c + 1) b r) : Acc c a r.1 (acc ++ [r.2]) := by
  obtain ⟨k1, k2, k3⟩ := h.go he
  obtain ⟨n1, n2⟩ := h.nodes
  obtain ⟨m1, m2⟩ := hr.nodes
  have hs := h.size
  have hs2 := hr.size
  refine ⟨(h.run.trans hb).trans hr.run, fun e => ?_, ⟨by omega, m2⟩, fun x hx => ?_, by simp, ?_⟩
  · obtain ⟨g1, g2, g3, _⟩ := hr.go e
    have := hb.le
    exact ⟨by omega, g2, by omega⟩
  · rcases List.mem_append.1 hx with h1 | h1
    · exact h.nf x h1
    · exact hr.nf x (by simpa using (List.mem_singleton.1 h1).symm)
  · rw [sizeOs_snoc, List.length_append, List.length_singleton, Nat.mul_add, Nat.mul_one]; omega
theorem Acc.one {c : Nat} {a : PS} {r : PS × Option RE} (hr : Res (c + 1) a r) : Acc c a r.1 [r.2] := by
  have hs2 := hr.size
  refine ⟨hr.run, fun e => ?_, hr.nodes, fun x hx => hr.nf x (by simpa using (List.mem_singleton.1 hx).symm), by simp, ?_⟩
  · obtain ⟨g1, g2, g3, _⟩ := hr.go e
    exact ⟨g1, g2, g3⟩
  · simp only [RE.sizeOs, List.map_cons, List.map_nil, List.sum_cons, List.sum_nil, List.length_singleton]; omega
theorem Acc.done {c k : Nat} {a st b : PS} {acc : List (Option RE)} (h : Acc c a st acc) (hb : Run a b) (hle : st.at_ ≤ b.at_) (hn : b.nodes = st.nodes) (hd : b.deep = st.deep) (he : b.e = 0 → st.e = 0) (F : List (Option RE) → RE) (hF : RE.nf (F acc)) (hs : (F acc).size ≤ k + RE.sizeOs acc) (hk : k ≤ c) : Res (c - k) a (b, some (F acc)) := by
  obtain ⟨n1, n2⟩ := h.nodes
  have hs2 := h.size
  have hl : 1 ≤ acc.length := List.length_pos_iff.2 h.ne
  have hcl : c ≤ c * acc.length := Nat.le_mul_of_pos_right c hl
  refine ⟨hb, fun e => ?_, ⟨by show a.nodes < b.nodes; omega, by show b.nodes ≤ 1001; omega⟩, fun x hx => by cases hx; exact hF, ?_⟩
  · obtain ⟨k1, k2, k3⟩ := h.go (he e)
    exact ⟨Nat.lt_of_lt_of_le k1 hle, by show b.nodes ≤ 1000; omega, hd.trans k3, _, rfl⟩
  · show (F acc).size + (c - k) + 4000 * a.nodes ≤ 4000 * b.nodes
    rw [hn]; omega
theorem catGo_res {d : Nat} {f : PS → PS × Option RE} (hf : ∀ d', d' + 1 = d → Gd d' f) {a : PS} (ha : At d a) : ∀ (n : Nat) (st : PS) (acc : List (Option RE)), Acc 99 a st acc → (st.e = 0 → st.rest.length < n) →
    Res 98 a ((catGo f n st acc).1, some (catGo f n st acc).2) := by
  intro n
  induction n with
  | zero =>
    intro st acc h hn
    by_cases he : st.e = 0
    · have := hn he; omega
    · rw [catGo_bad _ _ _ _ he]
      exact h.done (k := 1) h.run (Nat.le_refl _) rfl rfl id RE.thenL (RE.nf_thenL h.nf) (RE.size_thenL acc) (by omega)
  | succ n ih =>
    intro st acc h hn
    by_cases he : st.e = 0
    · have hln := hn he
      rw [catGo, if_neg (by omega)]
      split
      · exact h.done (k := 1) (h.run.trans (skip_run he)) (skip_run he).le rfl rfl (fun _ => he) RE.thenL (RE.nf_thenL h.nf) (RE.size_thenL acc) (by omega)
      · have hat : At d st.skip := ⟨he, (h.go he).2.1, by show st.deep + d = 60; rw [(h.go he).2.2]; exact ha.2.2⟩
        have hr := post_res hf st.skip hat
        refine ih _ _ (h.snoc (d := d) he (skip_run he) rfl rfl hr) fun e => ?_
        have h1 := rest_lt' hr.run (hr.go e).1
        have h2 : st.skip.rest.length ≤ st.rest.length := by show (st.rest.drop _).length ≤ _; rw [List.length_drop]; omega
        omega
    · rw [catGo_bad _ _ _ _ he]
      exact h.done (k := 1) h.run (Nat.le_refl _) rfl rfl id RE.thenL (RE.nf_thenL h.nf) (RE.size_thenL acc) (by omega)
theorem cat_res {d : Nat} {f : PS → PS × Option RE} (hf : ∀ d', d' + 1 = d → Gd d' f) (a : PS) (ha : At d a) : Res 98 a ((cat f a).1, some (cat f a).2) :=
  catGo_res hf ha _ _ _ (Acc.one (post_res hf a ha)) fun _ => Nat.lt_succ_self _
theorem listGo_bad (g : PS → PS × RE) (b : UInt8) (F : List (Option RE) → RE) (n : Nat) (st : PS) (acc : List (Option RE)) (h : st.e ≠ 0) : listGo g b F n st acc = (st, F acc) := by
  cases n with
  | zero => rfl
  | succ n => rw [listGo, if_pos h]
theorem listGo_res {d c k : Nat} {g : PS → PS × RE} (hg : ∀ a, At d a → Res (c + 1) a ((g a).1, some (g a).2)) (b : UInt8) (F : List (Option RE) → RE) (hF : ∀ l, RE.nfO l → RE.nf (F l) ∧ (F l).size ≤ k + RE.sizeOs l) (hk : k ≤ c) {a : PS} (ha : At d a) :
    ∀ (n : Nat) (st : PS) (acc : List (Option RE)), Acc c a st acc → (st.e = 0 → st.rest.length < n) → Res (c - k) a ((listGo g b F n st acc).1, some (listGo g b F n st acc).2) := by
  intro n
  induction n with
  | zero =>
    intro st acc h hn
    by_cases he : st.e = 0
    · have := hn he; omega
    · rw [listGo_bad _ _ _ _ _ _ he]
      exact h.done h.run (Nat.le_refl _) rfl rfl id F (hF _ h.nf).1 (hF _ h.nf).2 hk
  | succ n ih =>
    intro st acc h hn
    by_cases he : st.e = 0
    · have hln := hn he
      obtain ⟨t1, t2, t3, _⟩ := take_same st b
      have T := take_run he b
      rw [listGo, if_neg (by omega)]
      simp only
      split
      · rename_i ht
        have hat : At d (st.take b).1 := ⟨t1.trans he, by have := (h.go he).2.1; omega, by rw [t3, (h.go he).2.2]; exact ha.2.2⟩
        have hr := hg _ hat
        refine ih _ _ (h.snoc (d := d) he T t2 t3 hr) fun e => ?_
        have h1 := rest_lt' hr.run (hr.go e).1
        have h2 := rest_lt' T (take_go ht)
        simp only at h1
        omega
      · exact h.done (h.run.trans T) T.le t2 t3 (fun _ => he) F (hF _ h.nf).1 (hF _ h.nf).2 hk
    · rw [listGo_bad _ _ _ _ _ _ he]
      exact h.done h.run (Nat.le_refl _) rfl rfl id F (hF _ h.nf).1 (hF _ h.nf).2 hk
theorem list_res {d c k : Nat} {g : PS → PS × RE} (hg : ∀ a, At d a → Res (c + 1) a ((g a).1, some (g a).2)) (b : UInt8) (F : List (Option RE) → RE) (hF : ∀ l, RE.nfO l → RE.nf (F l) ∧ (F l).size ≤ k + RE.sizeOs l) (hk : k ≤ c) (a : PS) (ha : At d a) :
    Res (c - k) a ((list g b F a).1, some (list g b F a).2) :=
  listGo_res hg b F hF hk ha _ _ _ (Acc.one (hg a ha)) fun _ => Nat.lt_succ_self _
theorem and_res {d : Nat} {f : PS → PS × Option RE} (hf : ∀ d', d' + 1 = d → Gd d' f) (a : PS) (ha : At d a) : Res 95 a ((and f a).1, some (and f a).2) :=
  list_res (c := 97) (k := 2) (cat_res hf) 38 RE.bothL (fun l h => ⟨RE.nf_bothL h, RE.size_bothL l⟩) (by omega) a ha
theorem minusGo_bad (f : PS → PS × Option RE) (n : Nat) (st : PS) (r : RE) (h : st.e ≠ 0) : minusGo f n st r = (st, r) := by
  cases n with
  | zero => rfl
  | succ n => rw [minusGo, if_pos h]
theorem minusGo_res {d : Nat} {f : PS → PS × Option RE} (hf : ∀ d', d' + 1 = d → Gd d' f) {a : PS} (ha : At d a) : ∀ (n : Nat) (st : PS) (r : RE), Res 95 a (st, some r) → (st.e = 0 → st.rest.length < n) →
    Res 95 a ((minusGo f n st r).1, some (minusGo f n st r).2) := by
  intro n
  induction n with
  | zero =>
    intro st r h hn
    exact h
  | succ n ih =>
    intro st r h hn
    by_cases he : st.e = 0
    · have hln := hn he
      obtain ⟨t1, t2, t3, _⟩ := take_same st 45
      have T := take_run he 45
      obtain ⟨k1, k2, k3, _⟩ := h.go he
      obtain ⟨n1, n2⟩ := h.nodes
      simp only at k1 k2 k3 n1 n2
      have hsz := h.size
      have hnf := h.nf r rfl
      rw [minusGo, if_neg (by omega)]
      simp only
      split
      · rename_i ht
        have hat : At d (st.take 45).1 := ⟨t1.trans he, by omega, by rw [t3, k3]; exact ha.2.2⟩
        have hr := and_res hf _ hat
        have hs2 := hr.size
        obtain ⟨m1, m2⟩ := hr.nodes
        have hrn := hr.nf _ rfl
        simp only [RE.sizeO] at hsz hs2
        simp only at m1 m2
        have hrun := (h.run.trans T).trans hr.run
        have hle := T.le
        refine ih _ _ ⟨hrun, fun e => ?_, ⟨by show a.nodes < (and f (st.take 45).1).1.nodes; omega, m2⟩, fun x hx => ?_, ?_⟩ fun e => ?_
        · obtain ⟨g1, g2, g3, _⟩ := hr.go e
          simp only at g1 g2 g3
          exact ⟨by show a.at_ < (and f (st.take 45).1).1.at_; omega, g2, by show (and f (st.take 45).1).1.deep = a.deep; omega, _, rfl⟩
        · cases hx
          exact RE.nf_but (fun y hy => by cases hy; exact hnf) (fun y hy => by cases hy; exact hrn)
        · have := RE.size_but (some r) (some (and f (st.take 45).1).2)
          simp only [RE.sizeO] at this
          show (RE.but (some r) (some (and f (st.take 45).1).2)).size + 95 + 4000 * a.nodes ≤ 4000 * (and f (st.take 45).1).1.nodes
          omega
        · have h1 := rest_lt' hr.run (hr.go e).1
          have h2 := rest_lt' T (take_go ht)
          simp only at h1
          omega
      · exact ⟨h.run.trans T, fun _ => ⟨Nat.lt_of_lt_of_le k1 T.le, by show (st.take 45).1.nodes ≤ 1000; omega, t3.trans k3, r, rfl⟩, ⟨by show a.nodes < (st.take 45).1.nodes; omega, by show (st.take 45).1.nodes ≤ 1001; omega⟩, h.nf, by show _ ≤ 4000 * (st.take 45).1.nodes; rw [t2]; exact hsz⟩
    · rw [minusGo_bad _ _ _ _ he]; exact h
theorem minus_res {d : Nat} {f : PS → PS × Option RE} (hf : ∀ d', d' + 1 = d → Gd d' f) (a : PS) (ha : At d a) : Res 95 a ((minus f a).1, some (minus f a).2) :=
  minusGo_res hf ha _ _ _ (and_res hf a ha) fun _ => Nat.lt_succ_self _
theorem orS_res {d : Nat} {f : PS → PS × Option RE} (hf : ∀ d', d' + 1 = d → Gd d' f) (a : PS) (ha : At d a) : Res 93 a ((orS f a).1, some (orS f a).2) :=
  list_res (c := 94) (k := 1) (minus_res hf) 124 RE.anyL (fun l h => ⟨RE.nf_anyL h, RE.size_anyL l⟩) (by omega) a ha
theorem Res.weak {c c' : Nat} {a : PS} {r : PS × Option RE} (h : Res c a r) (hc : c' ≤ c) : Res c' a r := ⟨h.run, h.go, h.nodes, h.nf, by have := h.size; omega⟩
theorem orN_res : ∀ d, Gd d (orN (d + 1))
  | 0 => fun a ha => (orS_res (d := 0) (f := orN 0) (fun d' h => absurd h (by omega)) a ha).weak (by omega)
  | d + 1 => fun a ha => (orS_res (d := d + 1) (f := orN (d + 1)) (fun d' h => (show d = d' by omega) ▸ orN_res d) a ha).weak (by omega)
end PS
end Go.Proofs.YtgamknphlmcgnaaGreatDoor
namespace Go.Proofs.YtgamknphlmcgnaaGreatDoor
namespace PS
/-- no less deep than ahead, and not too deep -/
def Dk (a b : PS) : Prop := a.deep ≤ b.deep ∧ b.deep ≤ 61
theorem Dk.of {a b : PS} (h : b.deep = a.deep) (ha : a.deep ≤ 60) : Dk a b := ⟨by omega, by omega⟩
theorem fail_deep (a : PS) (e : Nat) : (a.fail e).deep = a.deep := rfl
theorem take_deep (a : PS) (b : UInt8) : (a.take b).1.deep = a.deep := (take_same a b).2.2.1
theorem bump_deep (a : PS) (r : RE) : (a.bump r).deep = a.deep := by unfold bump; simp only; split <;> rfl
theorem atom_dk {d : Nat} (f : PS → PS × Option RE) (hf : ∀ d', d' + 1 = d → ∀ a, At d' a → Dk a (f a).1) (a : PS) (ha : At d a) : Dk a (atom f a).1 := by
  obtain ⟨he, hn, hd⟩ := ha
  unfold atom
  simp only
  split
  · exact Dk.of rfl (by omega)
  rename_i hle
  have hle : a.nodes + 1 ≤ 1000 := Nat.le_of_not_lt hle
  generalize hst : ({ a with nodes := a.nodes + 1 } : PS).skip = st at *
  have se : st.e = 0 := by rw [← hst]; exact he
  have sn : st.nodes = a.nodes + 1 := by rw [← hst]; rfl
  have sd : st.deep = a.deep := by rw [← hst]; rfl
  clear hst
  split
  · split
    · exact ⟨by show a.deep ≤ st.deep + 1; omega, by show st.deep + 1 ≤ 61; omega⟩
    rename_i hdp
    have hdp : st.deep + 1 ≤ 60 := Nat.le_of_not_lt hdp
    obtain ⟨t1, t2, t3, _⟩ := take_same (({ st with deep := st.deep + 1 } : PS).adv 1) 41
    have t1 : ((({ st with deep := st.deep + 1 } : PS).adv 1).take 41).1.e = 0 := t1.trans se
    have t2 : ((({ st with deep := st.deep + 1 } : PS).adv 1).take 41).1.nodes = a.nodes + 1 := t2.trans sn
    have t3 : ((({ st with deep := st.deep + 1 } : PS).adv 1).take 41).1.deep = a.deep + 1 := t3.trans (by show st.deep + 1 = _; rw [sd])
    generalize (({ st with deep := st.deep + 1 } : PS).adv 1).take 41 = t at *
    split
    · exact ⟨by show a.deep ≤ t.1.deep - 1; omega, by show t.1.deep - 1 ≤ 61; omega⟩
    · obtain ⟨d', rfl⟩ : ∃ d', d' + 1 = d := ⟨d - 1, by omega⟩
      have hr := hf d' rfl t.1 ⟨t1, by omega, by omega⟩
      have key : ∀ st3 : PS, st3.deep = (f t.1).1.deep → Dk a { st3 with deep := st3.deep - 1 } := fun st3 h => by
        obtain ⟨h1, h2⟩ := hr
        exact ⟨by show a.deep ≤ st3.deep - 1; omega, by show st3.deep - 1 ≤ 61; omega⟩
      split
      · exact key _ (take_deep _ _)
      · exact key _ (take_deep _ _)
  split
  · obtain ⟨_, g4⟩ := set_run (a := st.adv 1) se
    exact Dk.of (g4.2.trans sd) (by omega)
  split
  · exact Dk.of sd (by omega)
  · exact Dk.of ((one_same st).1.trans sd) (by omega)
theorem postGo_deep : ∀ (f : Nat) (st : PS) (r : Option RE), (postGo f st r).1.deep = st.deep := by
  intro f
  induction f with
  | zero => intro st r; rfl
  | succ f ih =>
    intro st r
    rw [postGo]
    split
    · rfl
    simp only
    split
    · rw [ih, bump_deep, take_deep]
    split
    · rw [ih, bump_deep, take_deep, take_deep]
    split
    · rw [ih, bump_deep, take_deep, take_deep, take_deep]
    · show (((st.take 42).1.take 43).1.take 63).1.deep = _
      rw [take_deep, take_deep, take_deep]
theorem post_dk {d : Nat} (f : PS → PS × Option RE) (hf : ∀ d', d' + 1 = d → ∀ a, At d' a → Dk a (f a).1) (a : PS) (ha : At d a) : Dk a (post f a).1 := by
  have := atom_dk f hf a ha
  unfold post
  simp only
  unfold Dk at this ⊢
  rw [postGo_deep]; exact this
theorem catGo_dk {d : Nat} {f : PS → PS × Option RE} (hg : ∀ d', d' + 1 = d → Gd d' f) (hf : ∀ d', d' + 1 = d → ∀ a, At d' a → Dk a (f a).1) {a : PS} (ha : At d a) :
    ∀ (n : Nat) (st : PS) (acc : List (Option RE)), Dk a st → (st.e = 0 → At d st) → Dk a (catGo f n st acc).1 := by
  intro n
  induction n with
  | zero => intro st acc h hat; exact h
  | succ n ih =>
    intro st acc h hat
    by_cases he : st.e = 0
    · rw [catGo, if_neg (by omega)]
      split
      · exact h
      · have hs : At d st.skip := hat he
        have hr := post_res hg st.skip hs
        have hd := post_dk f hf st.skip hs
        exact ih _ _ ⟨Nat.le_trans h.1 hd.1, hd.2⟩ fun e => hr.at hs e
    · rw [catGo_bad _ _ _ _ he]; exact h
theorem cat_dk {d : Nat} {f : PS → PS × Option RE} (hg : ∀ d', d' + 1 = d → Gd d' f) (hf : ∀ d', d' + 1 = d → ∀ a, At d' a → Dk a (f a).1) (a : PS) (ha : At d a) : Dk a (cat f a).1 :=
  catGo_dk hg hf ha _ _ _ (post_dk f hf a ha) fun e => (post_res hg a ha).at ha e
theorem listGo_dk {d c : Nat} {g : PS → PS × RE} (hg : ∀ a, At d a → Res c a ((g a).1, some (g a).2)) (hd : ∀ a, At d a → Dk a (g a).1) (b : UInt8) (F : List (Option RE) → RE) {a : PS} (ha : At d a) :
    ∀ (n : Nat) (st : PS) (acc : List (Option RE)), Dk a st → (st.e = 0 → At d st) → Dk a (listGo g b F n st acc).1 := by
  intro n
  induction n with
  | zero => intro st acc h hat; exact h
  | succ n ih =>
    intro st acc h hat
    by_cases he : st.e = 0
    · rw [listGo, if_neg (by omega)]
      simp only
      have ht : At d (st.take b).1 := (hat he).take b
      split
      · have hr := hg _ ht
        have h2 := hd _ ht
        exact ih _ _ ⟨Nat.le_trans h.1 (by have := h2.1; rw [take_deep] at this; exact this), h2.2⟩ fun e => hr.at ht e
      · show Dk a (st.take b).1
        unfold Dk; rw [take_deep]; exact h
    · rw [listGo_bad _ _ _ _ _ _ he]; exact h
theorem list_dk {d c : Nat} {g : PS → PS × RE} (hg : ∀ a, At d a → Res c a ((g a).1, some (g a).2)) (hd : ∀ a, At d a → Dk a (g a).1) (b : UInt8) (F : List (Option RE) → RE) (a : PS) (ha : At d a) : Dk a (list g b F a).1 :=
  listGo_dk hg hd b F ha _ _ _ (hd a ha) fun e => (hg a ha).at ha e
theorem and_dk {d : Nat} {f : PS → PS × Option RE} (hg : ∀ d', d' + 1 = d → Gd d' f) (hf : ∀ d', d' + 1 = d → ∀ a, At d' a → Dk a (f a).1) (a : PS) (ha : At d a) : Dk a (and f a).1 :=
  list_dk (cat_res hg) (cat_dk hg hf) 38 RE.bothL a ha
theorem minusGo_dk {d : Nat} {f : PS → PS × Option RE} (hg : ∀ d', d' + 1 = d → Gd d' f) (hf : ∀ d', d' + 1 = d → ∀ a, At d' a → Dk a (f a).1) {a : PS} (ha : At d a) :
    ∀ (n : Nat) (st : PS) (r : RE), Dk a st → (st.e = 0 → At d st) → Dk a (minusGo f n st r).1 := by
  intro n
  induction n with
  | zero => intro st acc h hat; exact h
  | succ n ih =>
    intro st acc h hat
    by_cases he : st.e = 0
    · rw [minusGo, if_neg (by omega)]
      simp only
      have ht : At d (st.take 45).1 := (hat he).take 45
      split
      · have hr := and_res hg _ ht
        have h2 := and_dk hg hf _ ht
        exact ih _ _ ⟨Nat.le_trans h.1 (by have := h2.1; rw [take_deep] at this; exact this), h2.2⟩ fun e => hr.at ht e
      · show Dk a (st.take 45).1
        unfold Dk; rw [take_deep]; exact h
    · rw [minusGo_bad _ _ _ _ he]; exact h
theorem minus_dk {d : Nat} {f : PS → PS × Option RE} (hg : ∀ d', d' + 1 = d → Gd d' f) (hf : ∀ d', d' + 1 = d → ∀ a, At d' a → Dk a (f a).1) (a : PS) (ha : At d a) : Dk a (minus f a).1 :=
  minusGo_dk hg hf ha _ _ _ (and_dk hg hf a ha) fun e => (and_res hg a ha).at ha e
theorem orS_dk {d : Nat} {f : PS → PS × Option RE} (hg : ∀ d', d' + 1 = d → Gd d' f) (hf : ∀ d', d' + 1 = d → ∀ a, At d' a → Dk a (f a).1) (a : PS) (ha : At d a) : Dk a (orS f a).1 :=
  list_dk (minus_res hg) (minus_dk hg hf) 124 RE.anyL a ha
theorem orN_fst (d : Nat) (a : PS) : (orN (d + 1) a).1 = (orS (orN d) a).1 := rfl
theorem orN_dk : ∀ d a, At d a → Dk a (orN (d + 1) a).1 := by
  intro d
  induction d with
  | zero =>
    intro a ha
    rw [orN_fst]
    exact orS_dk (d := 0) (f := orN 0) (fun d' h => absurd h (by omega)) (fun d' h => absurd h (by omega)) a ha
  | succ d ih =>
    intro a ha
    rw [orN_fst]
    exact orS_dk (d := d + 1) (f := orN (d + 1)) (fun d' h => (show d = d' by omega) ▸ orN_res d) (fun d' h => (show d = d' by omega) ▸ ih) a ha
end PS
end Go.Proofs.YtgamknphlmcgnaaGreatDoor
end
section
set_option linter.unusedSimpArgs false
set_option linter.unusedVariables false
set_option maxRecDepth 100000
set_option linter.unnecessarySimpa false
namespace Go.Proofs.YtgamknphlmcgnaaGreatDoor
open Go.RowKit
theorem undSet : Tryz.prog.underlying 109 = some (.array 4 30) := by kernel_rfl
theorem undWord : Tryz.prog.underlying 30 = some (.int .u64) := by kernel_rfl
/-- two sets held against each other, word by word -/
theorem eq_words (a0 a1 a2 a3 b0 b1 b2 b3 : Int) (w : World) :
   (Op.equalIn 10000 109 (.agg #[.int .u64 a0, .int .u64 a1, .int .u64 a2, .int .u64 a3]) (.agg #[.int .u64 b0, .int .u64 b1, .int .u64 b2, .int .u64 b3])).run Tryz.prog w =
    .ok (a0 == b0 && (a1 == b1 && (a2 == b2 && a3 == b3))) w := by
  rw [Op.equalIn]
  simp only [Sem.run_bind, run_underlying undSet, Result.andThen_ok]
  have hs : ∀ w, (sizeOf 30).run Tryz.prog w = .ok 1 w := fun _ => by kernel_rfl
  have p0 : ∀ (x0 x1 x2 x3 : Value) (w : World), (part 30 #[x0, x1, x2, x3] (0 * 1)).run Tryz.prog w = .ok x0 w := fun _ _ _ _ _ => by kernel_rfl
  have p1 : ∀ (x0 x1 x2 x3 : Value) (w : World), (part 30 #[x0, x1, x2, x3] ((0 + 1) * 1)).run Tryz.prog w = .ok x1 w := fun _ _ _ _ _ => by kernel_rfl
  have p2 : ∀ (x0 x1 x2 x3 : Value) (w : World), (part 30 #[x0, x1, x2, x3] ((0 + 1 + 1) * 1)).run Tryz.prog w = .ok x2 w := fun _ _ _ _ _ => by kernel_rfl
  have p3 : ∀ (x0 x1 x2 x3 : Value) (w : World), (part 30 #[x0, x1, x2, x3] ((0 + 1 + 1 + 1) * 1)).run Tryz.prog w = .ok x3 w := fun _ _ _ _ _ => by kernel_rfl
  have he : ∀ (a b : Int) (w : World), (Op.equalIn 9999 30 (.int .u64 a) (.int .u64 b)).run Tryz.prog w = .ok (a == b) w := fun a b w => run_equalIn_int w 9998 30 .u64 .u64 a b undWord
  simp only [hs, Result.andThen_ok]
  rw [Std.Legacy.Range.forIn_eq_forIn_range']
  simp only [Std.Legacy.Range.size, List.range', List.forIn_cons, List.forIn_nil]
  by_cases h0 : a0 = b0
  · by_cases h1 : a1 = b1
    · by_cases h2 : a2 = b2
      · by_cases h3 : a3 = b3
        · simp [p0, p1, p2, p3, he, h0, h1, h2, h3]
        · simp [p0, p1, p2, p3, he, h0, h1, h2, h3]
      · simp [p0, p1, p2, p3, he, h0, h1, h2]
    · simp [p0, p1, p2, p3, he, h0, h1]
  · simp [p0, p1, p2, p3, he, h0]
set_option maxHeartbeats 400000 in
theorem Not1_any (x y : BitVec 64) (w : World) :
    Calls Tryz.prog 149 #[.int .u64 (wN x), .int .u64 (wN y)] w fun e w' => e = .returned (.int .u64 (wN (~~~x))) ∧ w' = w := by
  go_enter Tryz.func149, Tryz.ntmps149
  go_wp2
  go_ret
  exact ⟨by simp only [← bits_not_bv]; rfl, rfl⟩
set_option maxHeartbeats 800000 in
theorem each_any (k : Nat) (g : BitVec 64 → BitVec 64 → BitVec 64)
   (hk : ∀ x y w, Calls Tryz.prog k #[.int .u64 (wN (x : BitVec 64)), .int .u64 (wN (y : BitVec 64))] w fun e w' => e = .returned (.int .u64 (wN (g x y))) ∧ w' = w)
   (he : ∀ args w, (callFunc k args).run Tryz.prog w = .ok (.enter k args) w)
   (a0 a1 a2 a3 b0 b1 b2 b3 : BitVec 64) (w : World) :
    Calls Tryz.prog 148 #[.agg #[.int .u64 (wN a0), .int .u64 (wN a1), .int .u64 (wN a2), .int .u64 (wN a3)], .agg #[.int .u64 (wN b0), .int .u64 (wN b1), .int .u64 (wN b2), .int .u64 (wN b3)], .func (.func k) #[] #[]] w fun e w' =>
     e = .returned (.agg #[.int .u64 (wN (g a0 b0)), .int .u64 (wN (g a1 b1)), .int .u64 (wN (g a2 b2)), .int .u64 (wN (g a3 b3))]) ∧ Below w.heap.size w w' := by
  have H := Lib.hid hk; clear hk
  go_enter Tryz.func148, Tryz.ntmps148
  go_wp2
  refine wp_loop_rounds 5 ?_
  rw [rounds_succ]
  go_wp2_with fail
  go_region_held3 (fun w' => w'.cell? ⟨w.heap.size, 0, none⟩ = some (.int .u64 (wN a0)) ∧ w'.cell? ⟨w.heap.size + 1, 0, none⟩ = some (.int .u64 (wN b0))) (go_keep) ((refine (H.out _ _ _).mono ?_; rintro e w' ⟨rfl, rfl⟩))
  go_wp2_with fail
  rw [rounds_succ]
  go_wp2_with fail
  go_region_held3 (fun w' => w'.cell? ⟨w.heap.size, 1, none⟩ = some (.int .u64 (wN a1)) ∧ w'.cell? ⟨w.heap.size + 1, 1, none⟩ = some (.int .u64 (wN b1))) (go_keep) ((refine (H.out _ _ _).mono ?_; rintro e w' ⟨rfl, rfl⟩))
  go_wp2_with fail
  rw [rounds_succ]
  go_wp2_with fail
  go_region_held3 (fun w' => w'.cell? ⟨w.heap.size, 2, none⟩ = some (.int .u64 (wN a2)) ∧ w'.cell? ⟨w.heap.size + 1, 2, none⟩ = some (.int .u64 (wN b2))) (go_keep) ((refine (H.out _ _ _).mono ?_; rintro e w' ⟨rfl, rfl⟩))
  go_wp2_with fail
  rw [rounds_succ]
  go_wp2_with fail
  go_region_held3 (fun w' => w'.cell? ⟨w.heap.size, 3, none⟩ = some (.int .u64 (wN a3)) ∧ w'.cell? ⟨w.heap.size + 1, 3, none⟩ = some (.int .u64 (wN b3))) (go_keep) ((refine (H.out _ _ _).mono ?_; rintro e w' ⟨rfl, rfl⟩))
  go_wp2_with fail
  rw [rounds_succ]
  go_wp2_with fail
  refine bodyPost_ret (v := .agg #[.int .u64 (wN (g a0 b0)), .int .u64 (wN (g a1 b1)), .int .u64 (wN (g a2 b2)), .int .u64 (wN (g a3 b3))]) (by simp [results, Tryz.results148, go_sem]) rfl ⟨rfl, ?_⟩
  repeat (first | exact Below.refl _ _ | assumption | refine Below.drew ?_ | refine ext_drewN ?_ _ | refine ext_alloc ?_ _ | refine Below.setCell ?_ (by (try simp only [World.size_alloc, World.size_setCell, World.size_drew]); omega) _ | refine ext_step ?_ (by assumption))
set_option maxHeartbeats 400000 in
theorem Not_any (a0 a1 a2 a3 : BitVec 64) (w : World) :
    Calls Tryz.prog 114 #[.agg #[.int .u64 (wN a0), .int .u64 (wN a1), .int .u64 (wN a2), .int .u64 (wN a3)]] w fun e w' => e = .returned (.agg #[.int .u64 (wN (~~~a0)), .int .u64 (wN (~~~a1)), .int .u64 (wN (~~~a2)), .int .u64 (wN (~~~a3))]) ∧ Below w.heap.size w w' := by
  go_enter Tryz.func114, Tryz.ntmps114
  go_wp2_with fail
  refine (each_any 149 (fun x _ => ~~~x) Not1_any (fun _ _ => by kernel_rfl) a0 a1 a2 a3 a0 a1 a2 a3 _).mono ?_
  rintro e w1 ⟨rfl, hb⟩
  obtain ⟨hc, hf⟩ := bcell hb
  go_wp2
  refine bodyPost_ret (v := .agg #[.int .u64 (wN (~~~a0)), .int .u64 (wN (~~~a1)), .int .u64 (wN (~~~a2)), .int .u64 (wN (~~~a3))]) (by simp [results, Tryz.results114, go_sem, hc]) rfl ⟨rfl, ?_⟩
  repeat (first | exact Below.refl _ _ | assumption | refine Below.drew ?_ | refine ext_drewN ?_ _ | refine ext_alloc ?_ _ | refine Below.setCell ?_ (by (try simp only [World.size_alloc, World.size_setCell, World.size_drew]); omega) _ | refine ext_step ?_ (by assumption))
end Go.Proofs.YtgamknphlmcgnaaGreatDoor
namespace Go.Proofs.YtgamknphlmcgnaaGreatDoor
open Go.RowKit
set_option maxHeartbeats 400000 in
theorem Ones_any (x : BitVec 64) (w : World) :
    Calls Tryz.prog 147 #[.int .u64 (wN x)] w fun e w' => e = .returned (.int .i64 (pop 64 x.toNat : Nat)) ∧ w' = w := by
  have hl := wN_lo x
  have hh := wN_hi x
  rw [← onesI_pop]
  go_enter Tryz.func147, Tryz.ntmps147
  go_wp2
  go_ret
  refine ⟨?_, rfl⟩
  simp only [onesI, o1, o2, o3, o4, o5, o6]
  rfl
set_option maxHeartbeats 400000 in
theorem Empty_any (a0 a1 a2 a3 : BitVec 64) (w : World) :
    Calls Tryz.prog 57 #[.agg #[.int .u64 (wN a0), .int .u64 (wN a1), .int .u64 (wN a2), .int .u64 (wN a3)]] w fun e w' =>
     e = .returned (.bool (decide ((⟨a0, a1, a2, a3⟩ : BS) = BS.none))) ∧ w' = w.alloc (.cells #[.int .u64 (wN a0), .int .u64 (wN a1), .int .u64 (wN a2), .int .u64 (wN a3)] 109) := by
  have h := eq_words (wN a0) (wN a1) (wN a2) (wN a3) 0 0 0 0
  go_enter Tryz.func57, Tryz.ntmps57
  go_wp2
  go_ret
  refine ⟨?_, rfl⟩
  have e : (wN a0 == 0 && (wN a1 == 0 && (wN a2 == 0 && wN a3 == 0))) = decide ((⟨a0, a1, a2, a3⟩ : BS) = BS.none) := by
    rw [wN_zero, wN_beq, wN_beq, wN_beq, wN_beq]
    simp [BS.none, Bool.decide_and]
  rw [← e]
  rfl
theorem has_word (x : BitVec 64) (k : Nat) (hk : k < 64) : (bits .and .u64 (wN x / 2 ^ k) 1 == 1) = x.getLsbD k := by
  have hx : x.toNat / 2 ^ k < 18446744073709551616 := Nat.lt_of_le_of_lt (Nat.div_le_self _ _) x.isLt
  have e : wN x / 2 ^ k = ((x.toNat / 2 ^ k : Nat) : Int) := by unfold wN; norm_cast
  rw [e, show (1 : Int) = ((1 : Nat) : Int) from rfl, u64_and_nat _ _ hx (by omega), Nat.and_one_is_mod]
  show _ = x.toNat.testBit k
  rw [Nat.testBit_eq_decide_div_mod_eq]
  rcases Nat.mod_two_eq_zero_or_one (x.toNat / 2 ^ k) with h | h <;> rw [h] <;> rfl
theorem cell_of_words (a0 a1 a2 a3 : BitVec 64) (q : Nat) (hq : q < 4) (w : World) :
    (w.alloc (.cells #[.int .u64 (wN a0), .int .u64 (wN a1), .int .u64 (wN a2), .int .u64 (wN a3)] 109)).cell? ⟨w.heap.size, q, none⟩ = some (.int .u64 (wN ((⟨a0, a1, a2, a3⟩ : BS).wd q))) := by
  rw [World.cell?_alloc_new]
  match q, hq with
  | 0, _ => rfl
  | 1, _ => rfl
  | 2, _ => rfl
  | 3, _ => rfl
set_option maxHeartbeats 400000 in
theorem Has_any (a0 a1 a2 a3 : BitVec 64) (b : Int) (h0 : 0 ≤ b) (h1 : b ≤ 255) (w : World) :
    Calls Tryz.prog 151 #[.agg #[.int .u64 (wN a0), .int .u64 (wN a1), .int .u64 (wN a2), .int .u64 (wN a3)], .int .u8 b] w fun e w' =>
     e = .returned (.bool ((⟨a0, a1, a2, a3⟩ : BS).has b.toNat)) ∧ w' = w.alloc (.cells #[.int .u64 (wN a0), .int .u64 (wN a1), .int .u64 (wN a2), .int .u64 (wN a3)] 109) := by
  have hx := cell_of_words a0 a1 a2 a3 (b / 64).toNat (by omega) w
  have hw := has_word ((⟨a0, a1, a2, a3⟩ : BS).wd (b / 64).toNat) (b % 64).toNat (by omega)
  have e1 : (b / 64).toNat = b.toNat / 64 := by omega
  have e2 : (b % 64).toNat = b.toNat % 64 := by omega
  have H : Hid ((⟨a0, a1, a2, a3⟩ : BS).has b.toNat = ((⟨a0, a1, a2, a3⟩ : BS).wd (b / 64).toNat).getLsbD (b % 64).toNat) := by
    show _ = _
    unfold BS.has
    rw [e1, e2]
  clear e1 e2
  generalize ((⟨a0, a1, a2, a3⟩ : BS).wd (b / 64).toNat) = x at *
  rw [H.out]
  have HW := Lib.hid hw
  clear hw H
  have hl := wN_lo x
  have hh := wN_hi x
  go_enter Tryz.func151, Tryz.ntmps151
  go_wp2
  go_ret
  refine ⟨?_, rfl⟩
  rw [← HW.out]
  rfl
theorem ret_int {k : IntKind} {a b : Int} (h : a = b) : Ending.returned (.int k a) = .returned (.int k b) := by rw [h]
set_option maxHeartbeats 800000 in
theorem Len_any (a0 a1 a2 a3 : BitVec 64) (w : World) :
    Calls Tryz.prog 111 #[.agg #[.int .u64 (wN a0), .int .u64 (wN a1), .int .u64 (wN a2), .int .u64 (wN a3)]] w fun e w' =>
     e = .returned (.int .i64 ((⟨a0, a1, a2, a3⟩ : BS).len : Nat)) ∧ w' = w.alloc (.cells #[.int .u64 (wN a0), .int .u64 (wN a1), .int .u64 (wN a2), .int .u64 (wN a3)] 109) := by
  have p0 := pop_le 64 a0.toNat; have p1 := pop_le 64 a1.toNat; have p2 := pop_le 64 a2.toNat; have p3 := pop_le 64 a3.toNat
  have i0 : ∀ w, (Instr.index 109 (.agg #[.int .u64 (wN a0), .int .u64 (wN a1), .int .u64 (wN a2), .int .u64 (wN a3)]) (.int .i64 0)).run Tryz.prog w = .ok (.int .u64 (wN a0)) w := fun _ => by kernel_rfl
  have i1 : ∀ w, (Instr.index 109 (.agg #[.int .u64 (wN a0), .int .u64 (wN a1), .int .u64 (wN a2), .int .u64 (wN a3)]) (.int .i64 1)).run Tryz.prog w = .ok (.int .u64 (wN a1)) w := fun _ => by kernel_rfl
  have i2 : ∀ w, (Instr.index 109 (.agg #[.int .u64 (wN a0), .int .u64 (wN a1), .int .u64 (wN a2), .int .u64 (wN a3)]) (.int .i64 2)).run Tryz.prog w = .ok (.int .u64 (wN a2)) w := fun _ => by kernel_rfl
  have i3 : ∀ w, (Instr.index 109 (.agg #[.int .u64 (wN a0), .int .u64 (wN a1), .int .u64 (wN a2), .int .u64 (wN a3)]) (.int .i64 3)).run Tryz.prog w = .ok (.int .u64 (wN a3)) w := fun _ => by kernel_rfl
  go_enter Tryz.func111, Tryz.ntmps111
  go_wp2
  refine wp_loop_rounds 5 ?_
  rw [rounds_succ]
  go_wp2_with (go_at_call 147; refine (Ones_any _ _).mono ?_; rintro e w' ⟨rfl, rfl⟩)
  rw [rounds_succ]
  go_wp2_with (go_at_call 147; refine (Ones_any _ _).mono ?_; rintro e w' ⟨rfl, rfl⟩)
  rw [rounds_succ]
  go_wp2_with (go_at_call 147; refine (Ones_any _ _).mono ?_; rintro e w' ⟨rfl, rfl⟩)
  rw [rounds_succ]
  go_wp2_with (go_at_call 147; refine (Ones_any _ _).mono ?_; rintro e w' ⟨rfl, rfl⟩)
  rw [rounds_succ]
  go_wp2
  go_ret
  exact ⟨ret_int (by unfold BS.len; dsimp only; push_cast; rfl), rfl⟩
end Go.Proofs.YtgamknphlmcgnaaGreatDoor
namespace Go.Proofs.YtgamknphlmcgnaaGreatDoor
open Go.RowKit
set_option maxHeartbeats 400000 in
theorem All_any (w : World) :
    Calls Tryz.prog 113 #[] w fun e w' => e = .returned (.agg #[.int .u64 (wN fullW), .int .u64 (wN fullW), .int .u64 (wN fullW), .int .u64 (wN fullW)]) ∧ Below w.heap.size w w' := by
  have hn : ∀ w, Calls Tryz.prog 114 #[.agg #[.int .u64 0, .int .u64 0, .int .u64 0, .int .u64 0]] w fun e w' => e = .returned (.agg #[.int .u64 (wN fullW), .int .u64 (wN fullW), .int .u64 (wN fullW), .int .u64 (wN fullW)]) ∧ Below w.heap.size w w' := fun w => Not_any 0 0 0 0 w
  have HN := Lib.hid hn
  clear hn
  go_enter Tryz.func113, Tryz.ntmps113
  go_wp2_with fail
  refine (HN.out _).mono ?_
  rintro e w1 ⟨rfl, hb⟩
  obtain ⟨hc, hf⟩ := bcell hb
  go_wp2
  refine bodyPost_ret (v := .agg #[.int .u64 (wN fullW), .int .u64 (wN fullW), .int .u64 (wN fullW), .int .u64 (wN fullW)]) (by simp [results, Tryz.results113, go_sem, hc]) rfl ⟨rfl, ?_⟩
  repeat (first | exact Below.refl _ _ | assumption | refine Below.drew ?_ | refine ext_drewN ?_ _ | refine ext_alloc ?_ _ | refine Below.setCell ?_ (by (try simp only [World.size_alloc, World.size_setCell, World.size_drew]); omega) _ | refine ext_step ?_ (by assumption))
def ofW (w : World) (s : BS) : World := (w.alloc (.cells #[.int .u64 0, .int .u64 0, .int .u64 0, .int .u64 0] 109)).alloc (.cells #[.int .u64 (wN s.a), .int .u64 (wN s.b), .int .u64 (wN s.c), .int .u64 (wN s.d)] 109)
def OfAt (xs : List Int) (w : World) (i : Value) (wr : World) : Prop := ∃ (k : Nat), k ≤ xs.length ∧ i = .int .i64 k ∧ wr = ofW w (BS.ofL (xs.take k))
theorem take_snoc_getD (xs : List Int) (k : Nat) (h : k < xs.length) : xs.take (k + 1) = xs.take k ++ [xs.getD k 0] := by
  rw [List.take_succ_eq_append_getElem h]; simp [List.getD, h]
set_option maxHeartbeats 800000 in
theorem Of_any (b off cap : Nat) (xs : List Int) (hx : ∀ i, i < xs.length → 0 ≤ xs.getD i 0 ∧ xs.getD i 0 ≤ 255) (hm : xs.length ≤ 140737488351232) (w : World)
   (hc : ∀ i, i < xs.length → w.cell? ⟨b, off + i, none⟩ = some (.int .u8 (xs.getD i 0))) :
    Calls Tryz.prog 117 #[.slice (some ⟨b, off, none⟩) xs.length cap] w fun e w' => e = .returned (.agg #[.int .u64 (wN (BS.ofL xs).a), .int .u64 (wN (BS.ofL xs).b), .int .u64 (wN (BS.ofL xs).c), .int .u64 (wN (BS.ofL xs).d)]) ∧ Below w.heap.size w w' := by
  have HC := Lib.hid hc
  clear hc
  go_enter Tryz.func117, Tryz.ntmps117
  go_wp2
  go_loopw [8] (fun i wr => OfAt xs w i wr) (fun i _ => xs.length - (intOf i).toNat)
  case atStart => exact ⟨0, by omega, rfl, rfl⟩
  case round =>
    obtain ⟨k, hk, rfl, rfl⟩ := hrel
    by_cases hlt : k < xs.length
    · have hcell := HC.out k hlt
      have hcell : ∀ s, (ofW w s).cell? ⟨b, off + k, none⟩ = some (.int .u8 (xs.getD k 0)) := fun s => by
        unfold ofW
        have hb := World.block_lt_of_cell? w _ hcell
        rw [World.cell?_alloc_old _ _ _ (by simp at hb ⊢; omega), World.cell?_alloc_old _ _ _ (by simp at hb ⊢; omega), hcell]
      obtain ⟨h0, h1⟩ := hx k hlt
      have HS : Hid (BS.ofL (xs.take (k + 1)) = (BS.ofL (xs.take k)).add (xs.getD k 0).toNat) := by
        show _ = _
        rw [take_snoc_getD xs k hlt, BS.ofL_snoc]
      generalize xs.getD k 0 = x at *
      generalize hs : BS.ofL (xs.take k) = s at *
      clear hs
      obtain ⟨s0, s1, s2, s3⟩ := s
      have hcell := hcell ⟨s0, s1, s2, s3⟩
      have e1 : (x % 64).toNat = x.toNat % 64 := by omega
      have E1 := Lib.hid e1
      clear e1
      have hm64 : (x % 64).toNat < 64 := by omega
      rcases (show x / 64 = 0 ∨ x / 64 = 1 ∨ x / 64 = 2 ∨ x / 64 = 3 by omega) with hq | hq | hq | hq
      · have HA : Hid ((⟨s0, s1, s2, s3⟩ : BS).add x.toNat = ⟨s0 ||| BitVec.twoPow 64 (x % 64).toNat, s1, s2, s3⟩) := by rw [E1.out]; exact BS.add0 s0 s1 s2 s3 _ (by omega)
        have hbit := or_bit s0 (x % 64).toNat hm64
        dsimp only [ofW] at hcell ⊢
        go_wp2
        go_roundw
        case rel => exact ⟨k + 1, by omega, by go_num, by rw [HS.out, HA.out]; rfl⟩
        case measure => simp [intOf]; omega
      · have HA : Hid ((⟨s0, s1, s2, s3⟩ : BS).add x.toNat = ⟨s0, s1 ||| BitVec.twoPow 64 (x % 64).toNat, s2, s3⟩) := by rw [E1.out]; exact BS.add1 s0 s1 s2 s3 _ (by omega)
        have hbit := or_bit s1 (x % 64).toNat hm64
        dsimp only [ofW] at hcell ⊢
        go_wp2
        go_roundw
        case rel => exact ⟨k + 1, by omega, by go_num, by rw [HS.out, HA.out]; rfl⟩
        case measure => simp [intOf]; omega
      · have HA : Hid ((⟨s0, s1, s2, s3⟩ : BS).add x.toNat = ⟨s0, s1, s2 ||| BitVec.twoPow 64 (x % 64).toNat, s3⟩) := by rw [E1.out]; exact BS.add2 s0 s1 s2 s3 _ (by omega)
        have hbit := or_bit s2 (x % 64).toNat hm64
        dsimp only [ofW] at hcell ⊢
        go_wp2
        go_roundw
        case rel => exact ⟨k + 1, by omega, by go_num, by rw [HS.out, HA.out]; rfl⟩
        case measure => simp [intOf]; omega
      · have HA : Hid ((⟨s0, s1, s2, s3⟩ : BS).add x.toNat = ⟨s0, s1, s2, s3 ||| BitVec.twoPow 64 (x % 64).toNat⟩) := by rw [E1.out]; exact BS.add3 s0 s1 s2 s3 _ (by omega)
        have hbit := or_bit s3 (x % 64).toNat hm64
        dsimp only [ofW] at hcell ⊢
        go_wp2
        go_roundw
        case rel => exact ⟨k + 1, by omega, by go_num, by rw [HS.out, HA.out]; rfl⟩
        case measure => simp [intOf]; omega
    · obtain rfl : k = xs.length := by omega
      rw [List.take_length]
      generalize hs : BS.ofL xs = s
      obtain ⟨s0, s1, s2, s3⟩ := s
      have HE := Lib.hid hs
      clear hs
      dsimp only [ofW]
      go_wp2
      refine bodyPost_ret (v := .agg #[.int .u64 (wN s0), .int .u64 (wN s1), .int .u64 (wN s2), .int .u64 (wN s3)]) (by simp [results, Tryz.results117, go_sem]) rfl ⟨by rw [HE.out], ?_⟩
      repeat (first | exact Below.refl _ _ | assumption | refine Below.drew ?_ | refine ext_drewN ?_ _ | refine ext_alloc ?_ _ | refine Below.setCell ?_ (by (try simp only [World.size_alloc, World.size_setCell, World.size_drew]); omega) _ | refine ext_step ?_ (by assumption))
theorem and63 : ∀ j < 256, bits .and .i64 ((j : Nat) : Int) 63 = (j : Int) % 64 := by decide +kernel
theorem ofW_set0 (w : World) (s0 s1 s2 s3 x : BitVec 64) (m : Nat) : ((ofW w ⟨s0, s1, s2, s3⟩).drewN (m + 1)).setCell ⟨w.heap.size + 1, 0, none⟩ (.int .u64 (wN x)) = (ofW w ⟨x, s1, s2, s3⟩).drewN (m + 1) := by
  show (World.setCell (ofW w _) _ _).drewN (m + 1) = _
  congr 1
  unfold ofW
  rw [World.setCell_alloc_at _ _ _ _ _ (by simp)]
  rfl
theorem ofW_set1 (w : World) (s0 s1 s2 s3 x : BitVec 64) (m : Nat) : ((ofW w ⟨s0, s1, s2, s3⟩).drewN (m + 1)).setCell ⟨w.heap.size + 1, 1, none⟩ (.int .u64 (wN x)) = (ofW w ⟨s0, x, s2, s3⟩).drewN (m + 1) := by
  show (World.setCell (ofW w _) _ _).drewN (m + 1) = _
  congr 1
  unfold ofW
  rw [World.setCell_alloc_at _ _ _ _ _ (by simp)]
  rfl
theorem ofW_set2 (w : World) (s0 s1 s2 s3 x : BitVec 64) (m : Nat) : ((ofW w ⟨s0, s1, s2, s3⟩).drewN (m + 1)).setCell ⟨w.heap.size + 1, 2, none⟩ (.int .u64 (wN x)) = (ofW w ⟨s0, s1, x, s3⟩).drewN (m + 1) := by
  show (World.setCell (ofW w _) _ _).drewN (m + 1) = _
  congr 1
  unfold ofW
  rw [World.setCell_alloc_at _ _ _ _ _ (by simp)]
  rfl
theorem ofW_set3 (w : World) (s0 s1 s2 s3 x : BitVec 64) (m : Nat) : ((ofW w ⟨s0, s1, s2, s3⟩).drewN (m + 1)).setCell ⟨w.heap.size + 1, 3, none⟩ (.int .u64 (wN x)) = (ofW w ⟨s0, s1, s2, x⟩).drewN (m + 1) := by
  show (World.setCell (ofW w _) _ _).drewN (m + 1) = _
  congr 1
  unfold ofW
  rw [World.setCell_alloc_at _ _ _ _ _ (by simp)]
  rfl
end Go.Proofs.YtgamknphlmcgnaaGreatDoor
namespace Go.Proofs.YtgamknphlmcgnaaGreatDoor
open Go.RowKit
set_option maxHeartbeats 400000 in
theorem And1_any (x y : BitVec 64) (w : World) :
    Calls Tryz.prog 176 #[.int .u64 (wN x), .int .u64 (wN y)] w fun e w' => e = .returned (.int .u64 (wN (x &&& y))) ∧ w' = w := by
  go_enter Tryz.func176, Tryz.ntmps176
  go_wp2
  go_ret
  exact ⟨by simp only [← bits_and_bv]; rfl, rfl⟩
set_option maxHeartbeats 400000 in
theorem Or1_any (x y : BitVec 64) (w : World) :
    Calls Tryz.prog 175 #[.int .u64 (wN x), .int .u64 (wN y)] w fun e w' => e = .returned (.int .u64 (wN (x ||| y))) ∧ w' = w := by
  go_enter Tryz.func175, Tryz.ntmps175
  go_wp2
  go_ret
  exact ⟨by simp only [← bits_or_bv]; rfl, rfl⟩
set_option maxHeartbeats 400000 in
theorem Minus1_any (x y : BitVec 64) (w : World) :
    Calls Tryz.prog 177 #[.int .u64 (wN x), .int .u64 (wN y)] w fun e w' => e = .returned (.int .u64 (wN (x &&& ~~~y))) ∧ w' = w := by
  go_enter Tryz.func177, Tryz.ntmps177
  go_wp2
  go_ret
  exact ⟨by simp only [← bits_andNot_bv]; rfl, rfl⟩
set_option maxHeartbeats 400000 in
theorem And_any (a0 a1 a2 a3 b0 b1 b2 b3 : BitVec 64) (w : World) :
    Calls Tryz.prog 157 #[.agg #[.int .u64 (wN a0), .int .u64 (wN a1), .int .u64 (wN a2), .int .u64 (wN a3)], .agg #[.int .u64 (wN b0), .int .u64 (wN b1), .int .u64 (wN b2), .int .u64 (wN b3)]] w fun e w' => e = .returned (.agg #[.int .u64 (wN (a0 &&& b0)), .int .u64 (wN (a1 &&& b1)), .int .u64 (wN (a2 &&& b2)), .int .u64 (wN (a3 &&& b3))]) ∧ Below w.heap.size w w' := by
  go_enter Tryz.func157, Tryz.ntmps157
  go_wp2_with fail
  refine (each_any 176 (fun x y => x &&& y) And1_any (fun _ _ => by kernel_rfl) a0 a1 a2 a3 b0 b1 b2 b3 _).mono ?_
  rintro e w1 ⟨rfl, hb⟩
  obtain ⟨hc, hf⟩ := bcell hb
  go_wp2
  refine bodyPost_ret (v := .agg #[.int .u64 (wN (a0 &&& b0)), .int .u64 (wN (a1 &&& b1)), .int .u64 (wN (a2 &&& b2)), .int .u64 (wN (a3 &&& b3))]) (by simp [results, Tryz.results157, go_sem, hc]) rfl ⟨rfl, ?_⟩
  repeat (first | exact Below.refl _ _ | assumption | refine Below.drew ?_ | refine ext_drewN ?_ _ | refine ext_alloc ?_ _ | refine Below.setCell ?_ (by (try simp only [World.size_alloc, World.size_setCell, World.size_drew]); omega) _ | refine ext_step ?_ (by assumption))
set_option maxHeartbeats 400000 in
theorem Or_any (a0 a1 a2 a3 b0 b1 b2 b3 : BitVec 64) (w : World) :
    Calls Tryz.prog 153 #[.agg #[.int .u64 (wN a0), .int .u64 (wN a1), .int .u64 (wN a2), .int .u64 (wN a3)], .agg #[.int .u64 (wN b0), .int .u64 (wN b1), .int .u64 (wN b2), .int .u64 (wN b3)]] w fun e w' => e = .returned (.agg #[.int .u64 (wN (a0 ||| b0)), .int .u64 (wN (a1 ||| b1)), .int .u64 (wN (a2 ||| b2)), .int .u64 (wN (a3 ||| b3))]) ∧ Below w.heap.size w w' := by
  go_enter Tryz.func153, Tryz.ntmps153
  go_wp2_with fail
  refine (each_any 175 (fun x y => x ||| y) Or1_any (fun _ _ => by kernel_rfl) a0 a1 a2 a3 b0 b1 b2 b3 _).mono ?_
  rintro e w1 ⟨rfl, hb⟩
  obtain ⟨hc, hf⟩ := bcell hb
  go_wp2
  refine bodyPost_ret (v := .agg #[.int .u64 (wN (a0 ||| b0)), .int .u64 (wN (a1 ||| b1)), .int .u64 (wN (a2 ||| b2)), .int .u64 (wN (a3 ||| b3))]) (by simp [results, Tryz.results153, go_sem, hc]) rfl ⟨rfl, ?_⟩
  repeat (first | exact Below.refl _ _ | assumption | refine Below.drew ?_ | refine ext_drewN ?_ _ | refine ext_alloc ?_ _ | refine Below.setCell ?_ (by (try simp only [World.size_alloc, World.size_setCell, World.size_drew]); omega) _ | refine ext_step ?_ (by assumption))
set_option maxHeartbeats 400000 in
theorem Minus_any (a0 a1 a2 a3 b0 b1 b2 b3 : BitVec 64) (w : World) :
    Calls Tryz.prog 158 #[.agg #[.int .u64 (wN a0), .int .u64 (wN a1), .int .u64 (wN a2), .int .u64 (wN a3)], .agg #[.int .u64 (wN b0), .int .u64 (wN b1), .int .u64 (wN b2), .int .u64 (wN b3)]] w fun e w' => e = .returned (.agg #[.int .u64 (wN (a0 &&& ~~~b0)), .int .u64 (wN (a1 &&& ~~~b1)), .int .u64 (wN (a2 &&& ~~~b2)), .int .u64 (wN (a3 &&& ~~~b3))]) ∧ Below w.heap.size w w' := by
  go_enter Tryz.func158, Tryz.ntmps158
  go_wp2_with fail
  refine (each_any 177 (fun x y => x &&& ~~~y) Minus1_any (fun _ _ => by kernel_rfl) a0 a1 a2 a3 b0 b1 b2 b3 _).mono ?_
  rintro e w1 ⟨rfl, hb⟩
  obtain ⟨hc, hf⟩ := bcell hb
  go_wp2
  refine bodyPost_ret (v := .agg #[.int .u64 (wN (a0 &&& ~~~b0)), .int .u64 (wN (a1 &&& ~~~b1)), .int .u64 (wN (a2 &&& ~~~b2)), .int .u64 (wN (a3 &&& ~~~b3))]) (by simp [results, Tryz.results158, go_sem, hc]) rfl ⟨rfl, ?_⟩
  repeat (first | exact Below.refl _ _ | assumption | refine Below.drew ?_ | refine ext_drewN ?_ _ | refine ext_alloc ?_ _ | refine Below.setCell ?_ (by (try simp only [World.size_alloc, World.size_setCell, World.size_drew]); omega) _ | refine ext_step ?_ (by assumption))
end Go.Proofs.YtgamknphlmcgnaaGreatDoor
namespace Go.Proofs.YtgamknphlmcgnaaGreatDoor
open Go.RowKit
def FromAt (low high : Nat) (w : World) (i : Value) (wr : World) : Prop := ∃ (n m : Nat), low + n ≤ 256 ∧ (n = 0 ∨ low + n ≤ high + 1) ∧ i = .int .i64 ((low + n : Nat) : Int) ∧ wr = (ofW w (BS.run low n)).drewN m
set_option maxHeartbeats 1600000 in
theorem From_any (low high : Nat) (hlo : low < 256) (hhi : high < 256) (w : World) :
    Calls Tryz.prog 121 #[.int .u8 (low : Int), .int .u8 (high : Int)] w fun e w' => e = .returned (.agg #[.int .u64 (wN (BS.run low (high + 1 - low)).a), .int .u64 (wN (BS.run low (high + 1 - low)).b), .int .u64 (wN (BS.run low (high + 1 - low)).c), .int .u64 (wN (BS.run low (high + 1 - low)).d)]) ∧ Below w.heap.size w w' := by
  go_enter Tryz.func121, Tryz.ntmps121
  go_wp2
  go_loopw [6] (fun i wr => FromAt low high w i wr) (fun i _ => 256 - (intOf i).toNat)
  case atStart => exact ⟨0, 0, by omega, by omega, by go_num, rfl⟩
  case round =>
    obtain ⟨n, m, hk, hn, rfl, rfl⟩ := hrel
    by_cases hlt : low + n ≤ high
    · have HS : Hid (BS.run low (n + 1) = (BS.run low n).add (low + n)) := rfl
      generalize hs : BS.run low n = s at *
      clear hs
      obtain ⟨s0, s1, s2, s3⟩ := s
      generalize hj : low + n = j at *
      have HJ := Lib.hid hj
      clear hj
      have hm64 : (j % 64) < 64 := by omega
      have hj256 : j ≤ 255 := by omega
      have h63 := and63 j (by omega)
      rcases (show (j : Int) / 64 = 0 ∨ (j : Int) / 64 = 1 ∨ (j : Int) / 64 = 2 ∨ (j : Int) / 64 = 3 by omega) with hq | hq | hq | hq
      · have HA : Hid ((⟨s0, s1, s2, s3⟩ : BS).add j = ⟨s0 ||| BitVec.twoPow 64 (j % 64), s1, s2, s3⟩) := by exact BS.add0 s0 s1 s2 s3 _ (by omega)
        have hbit := or_bit s0 (j % 64) hm64
        dsimp only [ofW]
        go_wp2
        go_region
        go_wp2
        go_roundw
        case rel => exact ⟨n + 1, m + 1, by have := HJ.out; omega, by have := HJ.out; omega, by rw [← Nat.add_assoc, HJ.out]; go_num, by rw [HS.out, HA.out]; exact ofW_set0 w s0 s1 s2 s3 _ _⟩
        case measure => simp [intOf]; omega
      · have HA : Hid ((⟨s0, s1, s2, s3⟩ : BS).add j = ⟨s0, s1 ||| BitVec.twoPow 64 (j % 64), s2, s3⟩) := by exact BS.add1 s0 s1 s2 s3 _ (by omega)
        have hbit := or_bit s1 (j % 64) hm64
        dsimp only [ofW]
        go_wp2
        go_region
        go_wp2
        go_roundw
        case rel => exact ⟨n + 1, m + 1, by have := HJ.out; omega, by have := HJ.out; omega, by rw [← Nat.add_assoc, HJ.out]; go_num, by rw [HS.out, HA.out]; exact ofW_set1 w s0 s1 s2 s3 _ _⟩
        case measure => simp [intOf]; omega
      · have HA : Hid ((⟨s0, s1, s2, s3⟩ : BS).add j = ⟨s0, s1, s2 ||| BitVec.twoPow 64 (j % 64), s3⟩) := by exact BS.add2 s0 s1 s2 s3 _ (by omega)
        have hbit := or_bit s2 (j % 64) hm64
        dsimp only [ofW]
        go_wp2
        go_region
        go_wp2
        go_roundw
        case rel => exact ⟨n + 1, m + 1, by have := HJ.out; omega, by have := HJ.out; omega, by rw [← Nat.add_assoc, HJ.out]; go_num, by rw [HS.out, HA.out]; exact ofW_set2 w s0 s1 s2 s3 _ _⟩
        case measure => simp [intOf]; omega
      · have HA : Hid ((⟨s0, s1, s2, s3⟩ : BS).add j = ⟨s0, s1, s2, s3 ||| BitVec.twoPow 64 (j % 64)⟩) := by exact BS.add3 s0 s1 s2 s3 _ (by omega)
        have hbit := or_bit s3 (j % 64) hm64
        dsimp only [ofW]
        go_wp2
        go_region
        go_wp2
        go_roundw
        case rel => exact ⟨n + 1, m + 1, by have := HJ.out; omega, by have := HJ.out; omega, by rw [← Nat.add_assoc, HJ.out]; go_num, by rw [HS.out, HA.out]; exact ofW_set3 w s0 s1 s2 s3 _ _⟩
        case measure => simp [intOf]; omega
    · obtain rfl : n = high + 1 - low := by omega
      generalize hs : BS.run low (high + 1 - low) = s
      obtain ⟨s0, s1, s2, s3⟩ := s
      have HE := Lib.hid hs
      clear hs
      generalize low + (high + 1 - low) = j at *
      dsimp only [ofW]
      go_wp2
      refine bodyPost_ret (v := .agg #[.int .u64 (wN s0), .int .u64 (wN s1), .int .u64 (wN s2), .int .u64 (wN s3)]) (by simp [results, Tryz.results121, go_sem]) rfl ⟨by rw [HE.out], ?_⟩
      repeat (first | exact Below.refl _ _ | assumption | refine Below.drew ?_ | refine ext_drewN ?_ _ | refine ext_alloc ?_ _ | refine Below.setCell ?_ (by (try simp only [World.size_alloc, World.size_setCell, World.size_drew]); omega) _ | refine ext_step ?_ (by assumption))
end Go.Proofs.YtgamknphlmcgnaaGreatDoor
namespace Go.Proofs.YtgamknphlmcgnaaGreatDoor
open Go.ChangeShapes Go.WideShapes Go.ChangeAt Go.RowKit
theorem own : ownKnob Tryz.prog.godebug = none := by kernel_rfl
theorem laidOut : laidOutB Tryz.prog = true := by kernel_rfl
end Go.Proofs.YtgamknphlmcgnaaGreatDoor
namespace Go.Proofs.YtgamknphlmcgnaaGreatDoor
open Go.RowKit Go.Shelf
attribute [local go_sem] Oper.semAt_some
theorem wide_fn (f : FuncId) : Fence.wide.fn f = True := rfl
theorem wide_depth : Fence.wide.depth = none := rfl
attribute [local go_sem] wide_fn wide_depth
theorem wd {k : Nat} : Fence.wide.depth.isSome = true → 1 ≤ k := fun h => by cases h
/-- block B lies as it lay -/
structure KeepB (B : Nat) (W W' : World) : Prop where
  size : W.heap.size ≤ W'.heap.size
  block : W'.heap[B]? = W.heap[B]?
theorem KeepB.refl (B : Nat) (W : World) : KeepB B W W := ⟨Nat.le_refl _, rfl⟩
theorem KeepB.trans {B : Nat} {X Y Z : World} (h : KeepB B X Y) (k : KeepB B Y Z) : KeepB B X Z := ⟨Nat.le_trans h.size k.size, k.block.trans h.block⟩
theorem KeepB.alloc {B : Nat} {X Y : World} (h : KeepB B X Y) (hB : B < X.heap.size) (o : Obj) : KeepB B X (Y.alloc o) :=
  ⟨by have := h.size; simp; omega, (Below.heap_alloc _ _ _ (by have := h.size; omega)).trans h.block⟩
theorem KeepB.setCell {B : Nat} {X Y : World} (h : KeepB B X Y) {p : Addr} (hp : B ≠ p.block) (v : Value) : KeepB B X (Y.setCell p v) :=
  ⟨by have := h.size; simp; omega, (Below.heap_setCell _ _ _ _ hp).trans h.block⟩
theorem KeepB.step {B : Nat} {X Y Z : World} (h : KeepB B X Y) (hB : B < X.heap.size) (hb : Below Y.heap.size Y Z) : KeepB B X Z :=
  ⟨Nat.le_trans h.size hb.size, (hb.block B (by have := h.size; omega)).trans h.block⟩
theorem keepB_t {B : Nat} {X Y Z : World} (h : KeepB B X Y) (k : KeepB B Y Z) : KeepB B X Z := h.trans k
theorem keepB_b {B : Nat} {w : World} (hB : B < w.heap.size) (W : World) (l : Nat) (o o' : Obj) (hl : w.heap.size ≤ l) (h : W.heap[l]? = some o) (_ : o.isCells = false) (_ : o.isWalk = false) : KeepB B W (W.putObj l o') :=
  ⟨by simp, World.putObj_heap_other (by omega)⟩
/-- the box at block b holds the four words -/
def BoxS (w : World) (b : Nat) (s : BS) : Prop :=
  w.cell? ⟨b, 0, none⟩ = some (.int .u64 (wN s.a)) ∧ w.cell? ⟨b, 1, none⟩ = some (.int .u64 (wN s.b)) ∧ w.cell? ⟨b, 2, none⟩ = some (.int .u64 (wN s.c)) ∧ w.cell? ⟨b, 3, none⟩ = some (.int .u64 (wN s.d))
theorem BoxS.later {B : Nat} {w w1 : World} {b : Nat} {s : BS} (h : BoxS w b s) (hb : Below B w w1) (hlt : b < B) : BoxS w1 b s :=
  ⟨(hb.cell (p := ⟨b, 0, none⟩) hlt).trans h.1, (hb.cell (p := ⟨b, 1, none⟩) hlt).trans h.2.1, (hb.cell (p := ⟨b, 2, none⟩) hlt).trans h.2.2.1, (hb.cell (p := ⟨b, 3, none⟩) hlt).trans h.2.2.2⟩
theorem BoxS.kept {w w1 : World} {b : Nat} {s : BS} (h : BoxS w b s) (hb : KeepB b w w1) : BoxS w1 b s :=
  ⟨(World.cell?_of_block (w := w) hb.block).trans h.1, (World.cell?_of_block (w := w) hb.block).trans h.2.1, (World.cell?_of_block (w := w) hb.block).trans h.2.2.1, (World.cell?_of_block (w := w) hb.block).trans h.2.2.2⟩
theorem BoxS.new (w : World) (a0 a1 a2 a3 : BitVec 64) : BoxS (w.alloc (.cells #[.int .u64 (wN a0), .int .u64 (wN a1), .int .u64 (wN a2), .int .u64 (wN a3)] 109)) w.heap.size ⟨a0, a1, a2, a3⟩ :=
  ⟨by simp, by simp, by simp, by simp⟩
abbrev encR (x : Rn) : Array Value := #[.int .u8 (x.a : Int), .int .u8 (x.b : Int)]
def RunsAt (s : BS) (B : Nat) (W : World) (J : List Rn → World → Prop) (i : Value) (wr : World) : Prop :=
  ∃ (k : Nat) (pre : List Rn), k ≤ 256 ∧ i = .int .i64 k ∧ pre ++ s.runsFrom k = s.runs ∧ J pre wr ∧ KeepB B W wr
def RunIn (s : BS) (B : Nat) (W : World) (J : List Rn → World → Prop) (pre : List Rn) (f : Nat) (i : Value) (wr : World) : Prop :=
  ∃ k : Nat, f ≤ k ∧ k < 256 ∧ i = .int .i64 k ∧ s.runEnd k = s.runEnd f ∧ J pre wr ∧ KeepB B W wr
set_option maxRecDepth 100000 in
set_option maxHeartbeats 2000000 in
theorem RunsLit_in (n l B : Nat) (s : BS) (J Jx : List Rn → World → Prop) (W : World) (hBn : B < W.heap.size) (hbox : BoxS W B s) (hJ : AbidesFrom W.heap.size J)
    (hY : ∀ pre x W1, J pre W1 → pre.length < 256 → YieldAt Fence.wide (n - 1) Tryz.prog l (encR x) W1 fun e W' =>
      (e = .returned (.bool true) ∧ J (pre ++ [x]) W' ∧ KeepB B W1 W') ∨ (e = .returned (.bool false) ∧ Jx (pre ++ [x]) W'))
    (h0 : J [] W) :
    CallsIn Fence.wide n Tryz.prog 150 #[.func (.yield l) #[] #[], .pointer (some ⟨B, 0, none⟩)] W fun e W' => (∃ v, e = .returned v) ∧
      ((∃ xs, xs = s.runs ∧ J xs W') ∨ (∃ pre, pre <+: s.runs ∧ Jx pre W')) := by
  obtain ⟨a0, a1, a2, a3⟩ := s
  refine callsIn_of_wp Tryz.func150 rfl trivial ?_ rfl
  simp only [Tryz.ntmps150, List.size_toArray, List.length_cons, List.length_nil, Nat.reduceAdd, Nat.reduceSub, Array.replicate_succ, Array.replicate_zero, List.push_toArray, List.append_toArray, List.nil_append, List.cons_append]
  gi_wp2
  gi_loopw [3] (fun i wr => RunsAt ⟨a0, a1, a2, a3⟩ B W J i wr) (fun i _ => 256 - (intOf i).toNat)
  case atStart => exact ⟨0, [], by omega, rfl, rfl, h0, KeepB.refl _ _⟩
  case round =>
    obtain ⟨k, pre, hk, rfl, hpre, hJs, hB⟩ := hrel
    by_cases hlt : k < 256
    · have hk0 : (0 : Int) ≤ k := by omega
      have hk255 : (k : Int) ≤ 255 := by omega
      obtain ⟨c0, c1, c2, c3⟩ := hbox.kept hB
      dsimp only at c0 c1 c2 c3
      have hsz : W.heap.size ≤ wr.heap.size := hB.size
      have hJa := hJ _ wr (wr.alloc (.cells #[.int .u64 (wN a0), .int .u64 (wN a1), .int .u64 (wN a2), .int .u64 (wN a3)] 109)) none hJs (World.grownBy_alloc wr _ none) (fun r e => by cases e)
      have hBa : KeepB B W (wr.alloc (.cells #[.int .u64 (wN a0), .int .u64 (wN a1), .int .u64 (wN a2), .int .u64 (wN a3)] 109)) := hB.alloc hBn _
      cases hhas : (⟨a0, a1, a2, a3⟩ : BS).has k with
      | false =>
        rw [BS.runsFrom_no _ k hlt hhas] at hpre
        have HP := Lib.hid hpre
        clear hpre
        have HH := Lib.hid hhas
        clear hhas
        gi_wp2_with (gi_at_call 151; refine (callsIn_wide.2 (Has_any a0 a1 a2 a3 k hk0 hk255 _)).mono ?_; rintro e w' ⟨rfl, rfl⟩; rw [Int.toNat_natCast, HH.out])
        go_roundw
        case rel => exact ⟨k + 1, pre, by omega, by go_num, HP.out, hJa, hBa⟩
        case measure => simp [intOf]; omega
      | true =>
        rw [BS.runsFrom_yes _ k hlt hhas] at hpre
        have HP := Lib.hid hpre
        clear hpre
        have HH := Lib.hid hhas
        clear hhas
        gi_wp2_with (gi_at_call 151; refine (callsIn_wide.2 (Has_any a0 a1 a2 a3 k hk0 hk255 _)).mono ?_; rintro e w' ⟨rfl, rfl⟩; rw [Int.toNat_natCast, HH.out])
        have HJa := hJa
        gi_loopw [3] (fun i wr => RunIn ⟨a0, a1, a2, a3⟩ B W J pre k i wr) (fun i _ => 256 - (intOf i).toNat)
        case atStart => exact ⟨k, by omega, hlt, rfl, rfl, hJa, hBa⟩
        case round =>
          clear hJa hBa HJa c0 c1 c2 c3 hsz hB hJs
          obtain ⟨j, hkj, hj, rfl, hrun, hJ2, hB2⟩ := hrel
          have HR2 := Lib.hid hrun
          clear hrun
          obtain ⟨c0, c1, c2, c3⟩ := hbox.kept hB2
          dsimp only at c0 c1 c2 c3
          have hsz2 : W.heap.size ≤ wr.heap.size := hB2.size
          have hJa2 := hJ _ wr (wr.alloc (.cells #[.int .u64 (wN a0), .int .u64 (wN a1), .int .u64 (wN a2), .int .u64 (wN a3)] 109)) none hJ2 (World.grownBy_alloc wr _ none) (fun r e => by cases e)
          have hBa2 : KeepB B W (wr.alloc (.cells #[.int .u64 (wN a0), .int .u64 (wN a1), .int .u64 (wN a2), .int .u64 (wN a3)] 109)) := hB2.alloc hBn _
          by_cases hj1 : j < 255
          · have hj0 : (0 : Int) ≤ (j : Int) + 1 := by omega
            have hj255 : (j : Int) + 1 ≤ 255 := by omega
            cases hh2 : (⟨a0, a1, a2, a3⟩ : BS).has (j + 1) with
            | true =>
              have hgo := BS.runEnd_go ⟨a0, a1, a2, a3⟩ j hj1 hh2
              rw [HR2.out] at hgo
              have HGO := Lib.hid hgo
              have HH2 := Lib.hid hh2
              clear hgo hh2
              gi_wp2_with (gi_at_call 151; refine (callsIn_wide.2 (Has_any a0 a1 a2 a3 ((j : Int) + 1) hj0 hj255 _)).mono ?_; rintro e w' ⟨rfl, rfl⟩; rw [show ((j : Int) + 1).toNat = j + 1 from rfl, HH2.out])
              go_roundw
              case rel => exact ⟨j + 1, by omega, by omega, by go_num, HGO.out.symm, hJa2, hBa2⟩
              case measure => simp [intOf]; omega
            | false =>
              have hnot : ¬ (j < 255 ∧ (⟨a0, a1, a2, a3⟩ : BS).has (j + 1) = true) := fun h => by rw [hh2] at h; exact absurd h.2 (by decide)
              have HH2 := Lib.hid hh2
              clear hh2
              have hE : (⟨a0, a1, a2, a3⟩ : BS).runEnd k = j := by rw [← HR2.out]; exact BS.runEnd_stop _ j (by exact hnot)
              have hlen : pre.length < 256 := by
                have h1 := congrArg List.length HP.out
                have h2 := (⟨a0, a1, a2, a3⟩ : BS).runsFrom_len 0
                unfold BS.runs at h1
                simp only [List.length_append, List.length_cons] at h1
                omega
              obtain ⟨fn, tmps, assign, body, hy, hR⟩ := hY pre ⟨k, j, hlt, hj⟩ _ hJa2 hlen
              have HP2 : Hid ((pre ++ [(⟨k, j, hlt, hj⟩ : Rn)]) ++ (⟨a0, a1, a2, a3⟩ : BS).runsFrom (j + 1) = (⟨a0, a1, a2, a3⟩ : BS).runs) := by
                have h := HP.out
                simp only [hE] at h
                rw [List.append_assoc]; exact h
              dsimp only [encR] at hy
              have HR := Lib.hid hR
              have HE := Lib.hid hE
              clear hE hR
              gi_wp2_with (gi_at_call 151; refine (callsIn_wide.2 (Has_any a0 a1 a2 a3 ((j : Int) + 1) hj0 hj255 _)).mono ?_; rintro e w' ⟨rfl, rfl⟩; rw [show ((j : Int) + 1).toNat = j + 1 from rfl, HH2.out])
              refine HR.out.mono ?_
              rintro e W3 (⟨rfl, hJ3, hk3⟩ | ⟨rfl, hJx3⟩)
              · gi_wp2
                go_roundw
                case rel => exact ⟨j + 1, _, by omega, by go_num, HP2.out, hJ3, hBa2.trans hk3⟩
                case measure => simp [intOf]; omega
              · gi_wp2
                refine bodyPost_ret (results_none rfl _ _ _) rfl ?_
                exact ⟨⟨_, rfl⟩, .inr ⟨_, ⟨_, HP2.out⟩, hJx3⟩⟩
          · have hnot : ¬ (j < 255 ∧ (⟨a0, a1, a2, a3⟩ : BS).has (j + 1) = true) := fun h => hj1 h.1
            have hj255 : 255 ≤ (j : Int) := by omega
            have hE : (⟨a0, a1, a2, a3⟩ : BS).runEnd k = j := by rw [← HR2.out]; exact BS.runEnd_stop _ j (by exact hnot)
            have hlen : pre.length < 256 := by
              have h1 := congrArg List.length HP.out
              have h2 := (⟨a0, a1, a2, a3⟩ : BS).runsFrom_len 0
              unfold BS.runs at h1
              simp only [List.length_append, List.length_cons] at h1
              omega
            obtain ⟨fn, tmps, assign, body, hy, hR⟩ := hY pre ⟨k, j, hlt, hj⟩ _ hJ2 hlen
            have HP2 : Hid ((pre ++ [(⟨k, j, hlt, hj⟩ : Rn)]) ++ (⟨a0, a1, a2, a3⟩ : BS).runsFrom (j + 1) = (⟨a0, a1, a2, a3⟩ : BS).runs) := by
              have h := HP.out
              simp only [hE] at h
              rw [List.append_assoc]; exact h
            dsimp only [encR] at hy
            have HR := Lib.hid hR
            have HE := Lib.hid hE
            clear hE hR
            gi_wp2
            refine HR.out.mono ?_
            rintro e W3 (⟨rfl, hJ3, hk3⟩ | ⟨rfl, hJx3⟩)
            · gi_wp2
              go_roundw
              case rel => exact ⟨j + 1, _, by omega, by go_num, HP2.out, hJ3, hB2.trans hk3⟩
              case measure => simp [intOf]; omega
            · gi_wp2
              refine bodyPost_ret (results_none rfl _ _ _) rfl ?_
              exact ⟨⟨_, rfl⟩, .inr ⟨_, ⟨_, HP2.out⟩, hJx3⟩⟩
    · obtain rfl : k = 256 := by omega
      rw [BS.runsFrom_end _ 256 (Nat.le_refl _), List.append_nil] at hpre
      have HP := Lib.hid hpre
      clear hpre
      gi_wp2
      go_end0
      exact ⟨⟨_, rfl⟩, .inl ⟨_, HP.out, hJs⟩⟩
theorem Runs_any (a0 a1 a2 a3 : BitVec 64) (w : World) :
    Calls Tryz.prog 115 #[.agg #[.int .u64 (wN a0), .int .u64 (wN a1), .int .u64 (wN a2), .int .u64 (wN a3)]] w fun e w' => e = .returned (.func (.func 150) #[] #[.pointer (some ⟨w.heap.size, 0, none⟩)]) ∧ w' = w.alloc (.cells #[.int .u64 (wN a0), .int .u64 (wN a1), .int .u64 (wN a2), .int .u64 (wN a3)] 109) := by
  go_enter Tryz.func115, Tryz.ntmps115
  go_wp2
  go_ret
  exact ⟨rfl, rfl⟩
/-- what s.Runs() hands back hands on the runs of s, in order -/
theorem Runs_stops (n B : Nat) (s : BS) (w : World) (hBn : B < w.heap.size) (hbox : BoxS w B s) :
    SeqStopsK Fence.wide n Tryz.prog 150 #[.pointer (some ⟨B, 0, none⟩)] encR (KeepB B) (fun xs => xs = s.runs) (fun pre => pre <+: s.runs) 256 w :=
  fun l J Jx W hW hJ _ hY h0 => RunsLit_in n l B s J Jx W (by have := hW.size; omega) (hbox.later hW hBn) hJ hY h0
end Go.Proofs.YtgamknphlmcgnaaGreatDoor
end
section
set_option linter.unusedSimpArgs false
set_option linter.unusedVariables false
set_option maxRecDepth 100000
set_option linter.unnecessarySimpa false
namespace Go.Proofs
shelf_lay Lays7.n29 Nm7 29 at Tryz as Tryz.lays29
namespace YtgamknphlmcgnaaGreatDoor
open Go.RowKit Go.Shelf
/-- the library's table lies as its initialiser lays it -/
def Tab (w : World) : Prop := TabAt (Tryz.lays29_ren.g 1) Lib.deBruijn64tab w
theorem Tab.later {w w1 : World} (h : Tab w) (hb : Below w.heap.size w w1) : Tab w1 := fun j hj => by
  have hc := h j hj
  have := World.block_lt_of_cell? w _ hc
  rw [hb.cell (p := ⟨_, j, none⟩) this]; exact hc
theorem Tab.alloc {w : World} (h : Tab w) (o : Obj) : Tab (w.alloc o) := h.later (ext_alloc (Below.refl _ _) o)
theorem TZ (x : BitVec 64) (w : World) (h : Tab w) : Calls Tryz.prog 146 #[.int .u64 (wN x)] w fun e w' => e = .returned (.int .i64 (Lib.ctz 64 x.toNat : Nat)) ∧ w' = w :=
  Any7.bits_TrailingZeros64 Tryz.lays29 x.toNat x.isLt w (fun _ => h)
theorem ctz_lt (x : BitVec 64) (h : x ≠ 0) : Lib.ctz 64 x.toNat < 64 := (Lib.lowest_bit 64 x.toNat (fun e => h (BitVec.eq_of_toNat_eq (by simpa using e))) x.isLt).2
def BS.least (s : BS) : Nat := if s.a ≠ 0 then Lib.ctz 64 s.a.toNat else if s.b ≠ 0 then 64 + Lib.ctz 64 s.b.toNat else if s.c ≠ 0 then 128 + Lib.ctz 64 s.c.toNat else if s.d ≠ 0 then 192 + Lib.ctz 64 s.d.toNat else 0
theorem wN_ne {x : BitVec 64} (h : x ≠ 0) : (wN x != 0) = true := by
  rw [bne_iff_ne, wN_zero]; exact fun e => h (wN_inj.1 e)
theorem wN_z : (wN 0 != 0) = false := by rw [wN_zero]; simp
set_option maxRecDepth 100000 in
set_option maxHeartbeats 1600000 in
theorem Least_any (a0 a1 a2 a3 : BitVec 64) (w : World) (hT : Tab w) :
    Calls Tryz.prog 110 #[.agg #[.int .u64 (wN a0), .int .u64 (wN a1), .int .u64 (wN a2), .int .u64 (wN a3)]] w fun e w' => e = .returned (.tuple #[.int .u8 ((⟨a0, a1, a2, a3⟩ : BS).least : Nat), .bool (decide ((⟨a0, a1, a2, a3⟩ : BS) ≠ BS.none))]) ∧ Below w.heap.size w w' := by
  have hz := wN_z
  have i0 : ∀ w, (Instr.index 109 (.agg #[.int .u64 (wN a0), .int .u64 (wN a1), .int .u64 (wN a2), .int .u64 (wN a3)]) (.int .i64 0)).run Tryz.prog w = .ok (.int .u64 (wN a0)) w := fun _ => by kernel_rfl
  have i1 : ∀ w, (Instr.index 109 (.agg #[.int .u64 (wN a0), .int .u64 (wN a1), .int .u64 (wN a2), .int .u64 (wN a3)]) (.int .i64 1)).run Tryz.prog w = .ok (.int .u64 (wN a1)) w := fun _ => by kernel_rfl
  have i2 : ∀ w, (Instr.index 109 (.agg #[.int .u64 (wN a0), .int .u64 (wN a1), .int .u64 (wN a2), .int .u64 (wN a3)]) (.int .i64 2)).run Tryz.prog w = .ok (.int .u64 (wN a2)) w := fun _ => by kernel_rfl
  have i3 : ∀ w, (Instr.index 109 (.agg #[.int .u64 (wN a0), .int .u64 (wN a1), .int .u64 (wN a2), .int .u64 (wN a3)]) (.int .i64 3)).run Tryz.prog w = .ok (.int .u64 (wN a3)) w := fun _ => by kernel_rfl
  have HT := Lib.hid (hT.alloc (.cells #[.int .u64 (wN a0), .int .u64 (wN a1), .int .u64 (wN a2), .int .u64 (wN a3)] 109))
  clear hT
  have hE : Below w.heap.size w (w.alloc (.cells #[.int .u64 (wN a0), .int .u64 (wN a1), .int .u64 (wN a2), .int .u64 (wN a3)] 109)) := by repeat (first | exact Below.refl _ _ | assumption | refine Below.drew ?_ | refine ext_drewN ?_ _ | refine ext_alloc ?_ _ | refine Below.setCell ?_ (by (try simp only [World.size_alloc, World.size_setCell, World.size_drew]); omega) _ | refine ext_step ?_ (by assumption))
  by_cases h0 : a0 = 0
  rotate_left
  · have hq := wN_ne h0
    have hk := ctz_lt a0 h0
    have HL : Hid ((⟨a0, a1, a2, a3⟩ : BS).least = Lib.ctz 64 a0.toNat) := Lib.hid (by show _ = _; unfold BS.least; dsimp only; rw [if_pos h0])
    have HNB : Hid (decide ((⟨a0, a1, a2, a3⟩ : BS) ≠ BS.none) = true) := Lib.hid (decide_eq_true (fun e => h0 (congrArg BS.a e)))
    have HTZ := Lib.hid (TZ a0)
    generalize Lib.ctz 64 a0.toNat = k at *
    rw [HL.out, HNB.out]
    have hk' : (k : Int) ≤ 63 := by omega
    clear h0 hk
    go_enter Tryz.func110, Tryz.ntmps110
    go_wp2_with fail
    refine wp_loop_rounds 1 ?_
    rw [rounds_succ]
    go_wp2_with (go_at_call 146; refine (HTZ.out _ HT.out).mono ?_; rintro e w' ⟨rfl, rfl⟩)
    go_ret2
    refine ⟨?_, hE⟩
    first | rfl | (push_cast; rfl)
  have hz0 : (wN a0 != 0) = false := by rw [h0]; exact wN_z
  by_cases h1 : a1 = 0
  rotate_left
  · have hq := wN_ne h1
    have hk := ctz_lt a1 h1
    have HL : Hid ((⟨a0, a1, a2, a3⟩ : BS).least = 64 + Lib.ctz 64 a1.toNat) := Lib.hid (by show _ = _; unfold BS.least; dsimp only; rw [if_neg (fun h => h h0), if_pos h1])
    have HNB : Hid (decide ((⟨a0, a1, a2, a3⟩ : BS) ≠ BS.none) = true) := Lib.hid (decide_eq_true (fun e => h1 (congrArg BS.b e)))
    have HTZ := Lib.hid (TZ a1)
    generalize Lib.ctz 64 a1.toNat = k at *
    rw [HL.out, HNB.out]
    have hk' : (k : Int) ≤ 63 := by omega
    clear h0 h1 hk
    go_enter Tryz.func110, Tryz.ntmps110
    go_wp2_with fail
    refine wp_loop_rounds 2 ?_
    rw [rounds_succ]
    go_wp2_with (go_at_call 146; refine (HTZ.out _ HT.out).mono ?_; rintro e w' ⟨rfl, rfl⟩)
    rw [rounds_succ]
    go_wp2_with (go_at_call 146; refine (HTZ.out _ HT.out).mono ?_; rintro e w' ⟨rfl, rfl⟩)
    go_ret2
    refine ⟨?_, hE⟩
    first | rfl | (push_cast; rfl)
  have hz1 : (wN a1 != 0) = false := by rw [h1]; exact wN_z
  by_cases h2 : a2 = 0
  rotate_left
  · have hq := wN_ne h2
    have hk := ctz_lt a2 h2
    have HL : Hid ((⟨a0, a1, a2, a3⟩ : BS).least = 128 + Lib.ctz 64 a2.toNat) := Lib.hid (by show _ = _; unfold BS.least; dsimp only; rw [if_neg (fun h => h h0), if_neg (fun h => h h1), if_pos h2])
    have HNB : Hid (decide ((⟨a0, a1, a2, a3⟩ : BS) ≠ BS.none) = true) := Lib.hid (decide_eq_true (fun e => h2 (congrArg BS.c e)))
    have HTZ := Lib.hid (TZ a2)
    generalize Lib.ctz 64 a2.toNat = k at *
    rw [HL.out, HNB.out]
    have hk' : (k : Int) ≤ 63 := by omega
    clear h0 h1 h2 hk
    go_enter Tryz.func110, Tryz.ntmps110
    go_wp2_with fail
    refine wp_loop_rounds 3 ?_
    rw [rounds_succ]
    go_wp2_with (go_at_call 146; refine (HTZ.out _ HT.out).mono ?_; rintro e w' ⟨rfl, rfl⟩)
    rw [rounds_succ]
    go_wp2_with (go_at_call 146; refine (HTZ.out _ HT.out).mono ?_; rintro e w' ⟨rfl, rfl⟩)
    rw [rounds_succ]
    go_wp2_with (go_at_call 146; refine (HTZ.out _ HT.out).mono ?_; rintro e w' ⟨rfl, rfl⟩)
    go_ret2
    refine ⟨?_, hE⟩
    first | rfl | (push_cast; rfl)
  have hz2 : (wN a2 != 0) = false := by rw [h2]; exact wN_z
  by_cases h3 : a3 = 0
  rotate_left
  · have hq := wN_ne h3
    have hk := ctz_lt a3 h3
    have HL : Hid ((⟨a0, a1, a2, a3⟩ : BS).least = 192 + Lib.ctz 64 a3.toNat) := Lib.hid (by show _ = _; unfold BS.least; dsimp only; rw [if_neg (fun h => h h0), if_neg (fun h => h h1), if_neg (fun h => h h2), if_pos h3])
    have HNB : Hid (decide ((⟨a0, a1, a2, a3⟩ : BS) ≠ BS.none) = true) := Lib.hid (decide_eq_true (fun e => h3 (congrArg BS.d e)))
    have HTZ := Lib.hid (TZ a3)
    generalize Lib.ctz 64 a3.toNat = k at *
    rw [HL.out, HNB.out]
    have hk' : (k : Int) ≤ 63 := by omega
    clear h0 h1 h2 h3 hk
    go_enter Tryz.func110, Tryz.ntmps110
    go_wp2_with fail
    refine wp_loop_rounds 4 ?_
    rw [rounds_succ]
    go_wp2_with (go_at_call 146; refine (HTZ.out _ HT.out).mono ?_; rintro e w' ⟨rfl, rfl⟩)
    rw [rounds_succ]
    go_wp2_with (go_at_call 146; refine (HTZ.out _ HT.out).mono ?_; rintro e w' ⟨rfl, rfl⟩)
    rw [rounds_succ]
    go_wp2_with (go_at_call 146; refine (HTZ.out _ HT.out).mono ?_; rintro e w' ⟨rfl, rfl⟩)
    rw [rounds_succ]
    go_wp2_with (go_at_call 146; refine (HTZ.out _ HT.out).mono ?_; rintro e w' ⟨rfl, rfl⟩)
    go_ret2
    refine ⟨?_, hE⟩
    first | rfl | (push_cast; rfl)
  have hz3 : (wN a3 != 0) = false := by rw [h3]; exact wN_z
  have HL : Hid ((⟨a0, a1, a2, a3⟩ : BS).least = 0) := Lib.hid (by show _ = _; unfold BS.least; dsimp only; rw [if_neg (fun h => h h0), if_neg (fun h => h h1), if_neg (fun h => h h2), if_neg (fun h => h h3)])
  have HNB : Hid (decide ((⟨a0, a1, a2, a3⟩ : BS) ≠ BS.none) = false) := Lib.hid (decide_eq_false (fun e => e (by rw [h0, h1, h2, h3]; rfl)))
  rw [HL.out, HNB.out]
  clear h0 h1 h2 h3
  go_enter Tryz.func110, Tryz.ntmps110
  go_wp2_with fail
  refine wp_loop_rounds 5 ?_
  rw [rounds_succ]
  go_wp2_with fail
  rw [rounds_succ]
  go_wp2_with fail
  rw [rounds_succ]
  go_wp2_with fail
  rw [rounds_succ]
  go_wp2_with fail
  rw [rounds_succ]
  go_wp2_with fail
  go_ret2
  exact ⟨rfl, hE⟩
end YtgamknphlmcgnaaGreatDoor
end Go.Proofs
end
section
set_option linter.unusedSimpArgs false
set_option linter.unusedVariables false
set_option maxRecDepth 100000
set_option linter.unnecessarySimpa false
namespace Go.Proofs.YtgamknphlmcgnaaGreatDoor
open Go.RowKit
/-- the value of a pointer to a node -/
abbrev ptr (b : Nat) : Value := .pointer (some ⟨b, 0, none⟩)
/-- pointers to nodes lie in a row -/
def PtrsAt (w : World) (kp : Option Addr) (bs : List Nat) : Prop := bs = [] ∨ ∃ kb ko, kp = some ⟨kb, ko, none⟩ ∧ ∀ i, i < bs.length → w.cell? ⟨kb, ko + i, none⟩ = some (ptr (bs.getD i 0))
theorem PtrsAt.later {B : Nat} {w w' : World} {kp : Option Addr} {bs : List Nat} (h : PtrsAt w kp bs) (hB : w.heap.size ≤ B) (hb : Below B w w') : PtrsAt w' kp bs := by
  rcases h with h | ⟨kb, ko, hk, hc⟩
  · exact .inl h
  · refine .inr ⟨kb, ko, hk, fun i hi => ?_⟩
    have := World.block_lt_of_cell? w _ (hc i hi)
    rw [hb.cell (p := ⟨kb, ko + i, none⟩) (Nat.lt_of_lt_of_le this hB)]; exact hc i hi
/-- what a row lies in: a block of pointers to nodes -/
def TyAt (w : World) (bs : List Nat) (kp : Option Addr) : Prop := bs ≠ [] → ∀ a : Addr, kp = some a → ∃ cur fr, w.heap[a.block]? = some (.cells cur 28 fr)
theorem TyAt.keep {w w' : World} {bs : List Nat} {kp : Option Addr} (h : TyAt w bs kp) (hw : bs ≠ [] → ∀ a : Addr, kp = some a → w'.heap[a.block]? = w.heap[a.block]?) : TyAt w' bs kp := fun hne a ha => by
  obtain ⟨cur, fr, hc⟩ := h hne a ha
  exact ⟨cur, fr, (hw hne a ha).trans hc⟩
theorem TyAt.later {B : Nat} {w w' : World} {bs : List Nat} {kp : Option Addr} (h : TyAt w bs kp) (hB : w.heap.size ≤ B) (hb : Below B w w') : TyAt w' bs kp := fun hne a ha => by
  obtain ⟨cur, fr, hc⟩ := h hne a ha
  exact ⟨cur, fr, (hb.block _ (Nat.lt_of_lt_of_le (Array.getElem?_eq_some_iff.1 hc).1 hB)).trans hc⟩
/-- the cells of a node -/
def nodeCells (r : RE) (kp : Option Addr) (cap : Nat) : Array Value :=
  #[.int .i64 (r.op : Nat), .int .u64 (wN r.set.a), .int .u64 (wN r.set.b), .int .u64 (wN r.set.c), .int .u64 (wN r.set.d), .slice kp r.kids.length cap, .bool r.null, .string ⟨r.key.toArray⟩, .int .i64 (r.size : Nat)]
inductive IsRe (w : World) : Nat → RE → Prop
  | mk (b : Nat) (r : RE) (kp : Option Addr) (cap : Nat) (bs : List Nat) (hb : w.heap[b]? = some (.cells (nodeCells r kp cap) 117 (0, 0))) (hl : bs.length = r.kids.length) (hr : PtrsAt w kp bs) (hy : TyAt w bs kp)
      (hk : ∀ i, i < r.kids.length → IsRe w (bs.getD i 0) (r.kids.getD i RE.nothing)) : IsRe w b r
theorem IsRe.lt {w : World} {b : Nat} {r : RE} (h : IsRe w b r) : b < w.heap.size := by
  cases h with
  | mk _ _ _ _ _ hb _ _ _ _ => exact (Array.getElem?_eq_some_iff.1 hb).1
theorem IsRe.later {B : Nat} {w w' : World} {b : Nat} {r : RE} (h : IsRe w b r) (hB : w.heap.size ≤ B) (hb : Below B w w') : IsRe w' b r := by
  induction h with
  | mk b r kp cap bs h1 hl hr hy hk ih =>
    refine .mk b r kp cap bs ?_ hl (hr.later hB hb) (hy.later hB hb) ih
    have := (Array.getElem?_eq_some_iff.1 h1).1
    rw [hb.block b (Nat.lt_of_lt_of_le this hB)]; exact h1
/-- a list of expressions, by the blocks of their nodes -/
def AreRe (w : World) (bs : List Nat) (l : List RE) : Prop := bs.length = l.length ∧ ∀ i, i < l.length → IsRe w (bs.getD i 0) (l.getD i RE.nothing)
/-- a pointer that may be nil, and what it points to -/
def IsReO (w : World) (v : Value) : Option RE → Prop
  | none => v = .pointer none
  | some r => ∃ b, v = ptr b ∧ IsRe w b r
theorem IsReO.later {w w' : World} {v : Value} {o : Option RE} (h : IsReO w v o) (hb : Below w.heap.size w w') : IsReO w' v o := by
  cases o with
  | none => exact h
  | some r => obtain ⟨b, h1, h2⟩ := h; exact ⟨b, h1, h2.later (Nat.le_refl _) hb⟩
/-- what a node's block says -/
theorem IsRe.open {w : World} {b : Nat} {r : RE} (h : IsRe w b r) : ∃ kp cap bs, w.heap[b]? = some (.cells (nodeCells r kp cap) 117 (0, 0)) ∧ PtrsAt w kp bs ∧ AreRe w bs r.kids := by
  cases h with
  | mk _ _ kp cap bs hb hl hr hy hk => exact ⟨kp, cap, bs, hb, hr, hl, hk⟩
/-- .. none of whose blocks is one of some -/
inductive IsReX (X : Nat → Prop) (w : World) : Nat → RE → Prop
  | mk (b : Nat) (r : RE) (kp : Option Addr) (cap : Nat) (bs : List Nat) (hx : ¬ X b) (hb : w.heap[b]? = some (.cells (nodeCells r kp cap) 117 (0, 0))) (hl : bs.length = r.kids.length) (hr : PtrsAt w kp bs) (hy : TyAt w bs kp)
      (hrx : ∀ a : Addr, kp = some a → bs ≠ [] → ¬ X a.block) (hk : ∀ i, i < r.kids.length → IsReX X w (bs.getD i 0) (r.kids.getD i RE.nothing)) : IsReX X w b r
theorem IsReX.is {X : Nat → Prop} {w : World} {b : Nat} {r : RE} (h : IsReX X w b r) : IsRe w b r := by
  induction h with
  | mk b r kp cap bs hx hb hl hr hy hrx hk ih => exact .mk b r kp cap bs hb hl hr hy ih
theorem IsReX.mono {X Y : Nat → Prop} {w : World} {b : Nat} {r : RE} (h : IsReX X w b r) (hXY : ∀ k, k < w.heap.size → Y k → X k) : IsReX Y w b r := by
  induction h with
  | mk b r kp cap bs hx hb hl hr hy hrx hk ih =>
    refine .mk b r kp cap bs (fun hy => hx (hXY b (Array.getElem?_eq_some_iff.1 hb).1 hy)) hb hl hr hy (fun a ha hne hy => hrx a ha hne (hXY _ ?_ hy)) ih
    rcases hr with h0 | ⟨kb, ko, hk', hc⟩
    · exact absurd h0 hne
    · rw [ha] at hk'
      cases hk'
      exact World.block_lt_of_cell? w _ (hc 0 (List.length_pos_iff.2 hne))
theorem IsRe.avoid {X : Nat → Prop} {w : World} {b : Nat} {r : RE} (h : IsRe w b r) (hX : ∀ k, k < w.heap.size → ¬ X k) : IsReX X w b r := by
  induction h with
  | mk b r kp cap bs hb hl hr hy hk ih =>
    refine .mk b r kp cap bs (hX b (Array.getElem?_eq_some_iff.1 hb).1) hb hl hr hy (fun a ha hne => hX _ ?_) ih
    rcases hr with h0 | ⟨kb, ko, hk', hc⟩
    · exact absurd h0 hne
    · rw [ha] at hk'
      cases hk'
      exact World.block_lt_of_cell? w _ (hc 0 (List.length_pos_iff.2 hne))
theorem IsReX.keep {X : Nat → Prop} {w w' : World} {b : Nat} {r : RE} (h : IsReX X w b r) (hw : ∀ k, k < w.heap.size → ¬ X k → w'.heap[k]? = w.heap[k]?) : IsReX X w' b r := by
  induction h with
  | mk b r kp cap bs hx hb hl hr hy hrx hk ih =>
    refine .mk b r kp cap bs hx ((hw b (Array.getElem?_eq_some_iff.1 hb).1 hx).trans hb) hl ?_ (hy.keep fun hne a ha => hw _ (by obtain ⟨cur, fr, hc⟩ := hy hne a ha; exact (Array.getElem?_eq_some_iff.1 hc).1) (hrx a ha hne)) hrx ih
    rcases hr with h0 | ⟨kb, ko, hk', hc⟩
    · exact .inl h0
    · refine .inr ⟨kb, ko, hk', fun i hi => ?_⟩
      have hlt := World.block_lt_of_cell? w _ (hc i hi)
      have hne : bs ≠ [] := List.length_pos_iff.1 (by omega)
      rw [World.cell?_of_block (w := w) (a := ⟨kb, ko + i, none⟩) (hw kb hlt (hrx _ hk' hne))]; exact hc i hi
/-- a list of them -/
def AreReX (X : Nat → Prop) (w : World) (bs : List Nat) (l : List RE) : Prop := bs.length = l.length ∧ ∀ i, i < l.length → IsReX X w (bs.getD i 0) (l.getD i RE.nothing)
theorem AreReX.is {X : Nat → Prop} {w : World} {bs : List Nat} {l : List RE} (h : AreReX X w bs l) : AreRe w bs l := ⟨h.1, fun i hi => (h.2 i hi).is⟩
theorem AreReX.keep {X : Nat → Prop} {w w' : World} {bs : List Nat} {l : List RE} (h : AreReX X w bs l) (hw : ∀ k, k < w.heap.size → ¬ X k → w'.heap[k]? = w.heap[k]?) : AreReX X w' bs l := ⟨h.1, fun i hi => (h.2 i hi).keep hw⟩
theorem AreReX.mono {X Y : Nat → Prop} {w : World} {bs : List Nat} {l : List RE} (h : AreReX X w bs l) (hXY : ∀ k, k < w.heap.size → Y k → X k) : AreReX Y w bs l := ⟨h.1, fun i hi => (h.2 i hi).mono hXY⟩
theorem AreRe.avoid {X : Nat → Prop} {w : World} {bs : List Nat} {l : List RE} (h : AreRe w bs l) (hX : ∀ k, k < w.heap.size → ¬ X k) : AreReX X w bs l := ⟨h.1, fun i hi => (h.2 i hi).avoid hX⟩
theorem AreReX.nil {X : Nat → Prop} {w : World} : AreReX X w [] [] := ⟨rfl, fun i hi => absurd hi (by simp)⟩
theorem AreReX.append {X : Nat → Prop} {w : World} {bs bs' : List Nat} {l l' : List RE} (h : AreReX X w bs l) (h' : AreReX X w bs' l') : AreReX X w (bs ++ bs') (l ++ l') := by
  refine ⟨by simp [h.1, h'.1], fun i hi => ?_⟩
  by_cases hl : i < l.length
  · have := h.2 i hl
    have hb : i < bs.length := by rw [h.1]; exact hl
    simpa [List.getD, List.getElem?_append_left, hl, hb] using this
  · have hn : l.length ≤ i := by omega
    have hi' : i - l.length < l'.length := by simp at hi; omega
    have := h'.2 (i - l.length) hi'
    have hnb : bs.length ≤ i := by rw [h.1]; exact hn
    simpa [List.getD, List.getElem?_append_right, hn, hnb, h.1] using this
theorem AreReX.one {X : Nat → Prop} {w : World} {b : Nat} {r : RE} (h : IsReX X w b r) : AreReX X w [b] [r] := ⟨rfl, fun i hi => by
  obtain rfl : i = 0 := by simpa using hi
  simpa using h⟩
theorem IsRe.made {w w' : World} {b o cap : Nat} {s : BS} {kp : Option Addr} {bs : List Nat} {ks : List RE} (hb : w'.heap[b]? = some (.cells (nodeCells (RE.node o s ks) kp cap) 117 (0, 0)))
   (hr : PtrsAt w kp bs) (hy : TyAt w bs kp) (hk : AreRe w bs ks) (hB : Below w.heap.size w w') : IsRe w' b (RE.node o s ks) :=
  .mk b _ kp cap bs hb hk.1 (hr.later (Nat.le_refl _) hB) (hy.later (Nat.le_refl _) hB) (fun i hi => (hk.2 i hi).later (Nat.le_refl _) hB)
/-- what is written into a block of another kind leaves an expression as it is -/
theorem IsRe.put {w w' : World} {b c : Nat} {r : RE} (h : IsRe w b r) {cs : Array Value} {t : TypeId} {fr : Nat × Nat} (hc : w.heap[c]? = some (.cells cs t fr)) (h1 : t ≠ 117) (h2 : t ≠ 28) (hw : ∀ k, k < w.heap.size → k ≠ c → w'.heap[k]? = w.heap[k]?) : IsRe w' b r := by
  induction h with
  | mk b r kp cap bs hb hl hr hy hk ih =>
    have hbc : b ≠ c := fun e => by
      subst e
      rw [hc] at hb
      have := Option.some.inj hb
      injection this with _ e2 _
      exact h1 e2
    have hkc : bs ≠ [] → ∀ a : Addr, kp = some a → w'.heap[a.block]? = w.heap[a.block]? := fun hne a ha => by
      obtain ⟨cur, fr', hcur⟩ := hy hne a ha
      refine hw _ (Array.getElem?_eq_some_iff.1 hcur).1 fun e => ?_
      rw [e, hc] at hcur
      have := Option.some.inj hcur
      injection this with _ e2 _
      exact h2 e2
    refine .mk b r kp cap bs ((hw b (Array.getElem?_eq_some_iff.1 hb).1 hbc).trans hb) hl ?_ (hy.keep hkc) ih
    rcases hr with h0 | ⟨kb, ko, hk', hcl⟩
    · exact .inl h0
    · by_cases hne : bs = []
      · exact .inl hne
      · exact .inr ⟨kb, ko, hk', fun i hi => by rw [World.cell?_of_block (w := w) (w' := w') (a := ⟨kb, ko + i, none⟩) (show w'.heap[kb]? = w.heap[kb]? from hkc hne _ hk')]; exact hcl i hi⟩
theorem IsReO.put {w w' : World} {v : Value} {o : Option RE} {c : Nat} (h : IsReO w v o) {cs : Array Value} {t : TypeId} {fr : Nat × Nat} (hc : w.heap[c]? = some (.cells cs t fr)) (h1 : t ≠ 117) (h2 : t ≠ 28) (hw : ∀ k, k < w.heap.size → k ≠ c → w'.heap[k]? = w.heap[k]?) : IsReO w' v o := by
  cases o with
  | none => exact h
  | some r => obtain ⟨b, e, hb⟩ := h; exact ⟨b, e, hb.put hc h1 h2 hw⟩
end Go.Proofs.YtgamknphlmcgnaaGreatDoor
end
