/-
  The reader of expressions, plain: where it is, what it takes, what it makes of a text. No program stands in it.
-/
import Derived.Test.YtpajpjocakhcdaaGreatDoorReN
import Derived.Test.YtpajpjocakhcdaaGreatDoorTxB
set_option linter.unusedSimpArgs false
set_option linter.unusedVariables false
set_option maxRecDepth 100000
set_option linter.unnecessarySimpa false
namespace Go.Proofs.YtpajpjocakhcdaaGreatDoor
/-- where the reader is: what is left of the text, how many bytes are behind, how deep, how many parts, the error and where it was -/
structure PS where
  rest : List UInt8
  at_ : Nat
  deep : Nat
  nodes : Nat
  e : Nat
  wh : Nat
namespace PS
/-- the first error is noted; nothing is left -/
def fail (st : PS) (e : Nat) : PS :=
  { st with e := if st.e = 0 then e else st.e, wh := if st.e = 0 then st.at_ else st.wh, at_ := st.at_ + st.rest.length, rest := [] }
def adv (st : PS) (k : Nat) : PS := { st with rest := st.rest.drop k, at_ := st.at_ + k }
def isWs (c : UInt8) : Bool := c == 32 || c == 9 || c == 10 || c == 13
def wsN : List UInt8 → Nat
  | [] => 0
  | c :: r => if isWs c then wsN r + 1 else 0
/-- past what doesn't count -/
def skip (st : PS) : PS := st.adv (wsN st.rest)
def head (st : PS) : UInt8 := st.rest.headD 0
/-- a byte is taken, if it is the next one -/
def take (st : PS) (b : UInt8) : PS × Bool :=
  if st.rest = [] then (st, false)
  else if st.skip.rest ≠ [] ∧ st.skip.head = b then (st.skip.adv 1, true) else (st.skip, false)
def hexL : List UInt8 := [48, 49, 50, 51, 52, 53, 54, 55, 56, 57, 97, 98, 99, 100, 101, 102]
def isHex (c : UInt8) : Bool := hexL.contains c
def hexV (c : UInt8) : Nat := hexL.idxOf c
/-- may it stand behind a backslash? -/
def escOk (c : UInt8) : Bool := (32 < c && c < 127 && (c < 97 || 122 < c) && (c < 65 || 90 < c) && (c < 48 || 57 < c)) || c == 32
def plainBad (c : UInt8) : Bool := c < 32 || 127 ≤ c || specials.contains c
def one (st : PS) : PS × Nat :=
  match st.rest with
  | [] => (st.fail 2, 0)
  | b :: rest =>
    if b ≠ 92 then (if plainBad b then (st.fail 2, 0) else (st.adv 1, b.toNat))
    else match rest with
      | [] => (st.fail 2, 0)
      | c :: r =>
        if c = 110 then (st.adv 2, 10)
        else if c = 116 then (st.adv 2, 9)
        else if c = 120 then
          match r with
          | h :: l :: _ => if isHex h && isHex l then (st.adv 4, hexV h * 16 + hexV l) else (st.fail 2, 0)
          | _ => (st.fail 2, 0)
        else if escOk c then (st.adv 2, c.toNat) else (st.fail 2, 0)
/-- from one byte to another one -/
def fromS (a b : Nat) : BS := BS.run a (b + 1 - a)
/-- one round of a set -/
def setStep (st : PS) (s : BS) : PS × BS :=
  let r1 := st.one
  let r2 := if r1.1.rest.head? = some 45 then (r1.1.adv 1).one else r1
  (if r2.2 < r1.2 then r2.1.fail 2 else r2.1, RE.orS s (fromS r1.2 r2.2))
def setGo : Nat → PS → BS → PS × BS
  | 0, st, s => (st, s)
  | f + 1, st, s => if st.e = 0 ∧ st.rest.head? ≠ some 93 then setGo f (setStep st s).1 (setStep st s).2 else (st, s)
def set (st : PS) : PS × BS :=
  let not := decide (st.rest.head? = some 94)
  let st1 := if not then st.adv 1 else st
  let r := setGo (st1.rest.length + 1) st1 BS.none
  ({ r.1 with rest := r.1.rest.drop 1, at_ := r.1.at_ + min 1 r.1.rest.length }, if not then notS' r.2 else r.2)
where notS' (s : BS) : BS := ⟨~~~s.a, ~~~s.b, ~~~s.c, ~~~s.d⟩
/-- one part; what stands in parentheses is read by f -/
def atom (f : PS → PS × Option RE) (st0 : PS) : PS × Option RE :=
  let st1 := { st0 with nodes := st0.nodes + 1 }
  if 1000 < st1.nodes then (st1.fail 3, none)
  else
    let st := st1.skip
    if st.rest.head? = some 40 then
      let st2 := { st with deep := st.deep + 1 }
      if 60 < st2.deep then (st2.fail 4, none)
      else
        let t := (st2.adv 1).take 41
        if t.2 then ({ t.1 with deep := t.1.deep - 1 }, some RE.empty)
        else
          let r := f t.1
          let u := r.1.take 41
          let st3 := if u.2 then u.1 else u.1.fail 2
          ({ st3 with deep := st3.deep - 1 }, r.2)
    else if st.rest.head? = some 91 then ((st.adv 1).set.1, some (RE.one (st.adv 1).set.2))
    else if st.rest.head? = some 46 then (st.adv 1, some (RE.one BS.all))
    else (st.one.1, some (RE.one (BS.none.add st.one.2)))
/-- what a sign behind a part makes of it -/
def sign : List (UInt8 × (Option RE → RE)) := [(42, fun r => RE.many r), (43, fun r => RE.thenL [r, some (RE.many r)]), (63, fun r => RE.anyL [r, some RE.empty])]
def bump (st : PS) (r : RE) : PS :=
  let st1 := { st with nodes := st.nodes + 1 }
  if 1000 < st1.nodes ∨ 1000 < r.size then st1.fail 3 else st1
def postGo : Nat → PS → Option RE → PS × Option RE
  | 0, st, _ => (st, none)
  | f + 1, st, r =>
    if st.e ≠ 0 then (st, none)
    else
      let t := st.take 42
      if t.2 then postGo f (t.1.bump (RE.many r)) (some (RE.many r))
      else
        let u := t.1.take 43
        if u.2 then postGo f (u.1.bump (RE.thenL [r, some (RE.many r)])) (some (RE.thenL [r, some (RE.many r)]))
        else
          let v := u.1.take 63
          if v.2 then postGo f (v.1.bump (RE.anyL [r, some RE.empty])) (some (RE.anyL [r, some RE.empty]))
          else (v.1, r)
def post (f : PS → PS × Option RE) (st : PS) : PS × Option RE :=
  let a := atom f st
  postGo (a.1.rest.length + 1) a.1 a.2
def stops (st : PS) : Bool := st.rest.isEmpty || st.head == 41 || st.head == 124 || st.head == 38 || st.head == 45
def catGo (f : PS → PS × Option RE) : Nat → PS → List (Option RE) → PS × RE
  | 0, st, acc => (st, RE.thenL acc)
  | n + 1, st, acc =>
    if st.e ≠ 0 then (st, RE.thenL acc)
    else if st.skip.stops then (st.skip, RE.thenL acc)
    else catGo f n (post f st.skip).1 (acc ++ [(post f st.skip).2])
def cat (f : PS → PS × Option RE) (st : PS) : PS × RE :=
  let a := post f st
  catGo f (a.1.rest.length + 1) a.1 [a.2]
/-- parts with a sign between -/
def listGo (g : PS → PS × RE) (b : UInt8) (F : List (Option RE) → RE) : Nat → PS → List (Option RE) → PS × RE
  | 0, st, acc => (st, F acc)
  | n + 1, st, acc =>
    if st.e ≠ 0 then (st, F acc)
    else
      let t := st.take b
      if t.2 then listGo g b F n (g t.1).1 (acc ++ [some (g t.1).2]) else (t.1, F acc)
def list (g : PS → PS × RE) (b : UInt8) (F : List (Option RE) → RE) (st : PS) : PS × RE :=
  let a := g st
  listGo g b F (a.1.rest.length + 1) a.1 [some a.2]
def and (f : PS → PS × Option RE) : PS → PS × RE := list (cat f) 38 RE.bothL
def minusGo (f : PS → PS × Option RE) : Nat → PS → RE → PS × RE
  | 0, st, r => (st, r)
  | n + 1, st, r =>
    if st.e ≠ 0 then (st, r)
    else
      let t := st.take 45
      if t.2 then minusGo f n (and f t.1).1 (RE.but (some r) (some (and f t.1).2)) else (t.1, r)
def minus (f : PS → PS × Option RE) (st : PS) : PS × RE :=
  let a := and f st
  minusGo f (a.1.rest.length + 1) a.1 a.2
def orS (f : PS → PS × Option RE) : PS → PS × RE := list (minus f) 124 RE.anyL
/-- .. so many parentheses deep at most -/
def orN : Nat → PS → PS × Option RE
  | 0, st => (st, none)
  | n + 1, st => ((orS (orN n) st).1, some (orS (orN n) st).2)
end PS
/-- the expression that a text is; the error, and where it is -/
def readS (s : List UInt8) : PS × RE := PS.orS (PS.orN 60) ⟨s, 0, 0, 0, 0, 0⟩
def readE (s : List UInt8) : PS :=
  let st := (readS s).1
  let st1 := if st.e = 0 then (if st.skip.rest = [] then st.skip else st.skip.fail 2) else st
  if st1.e = 0 ∧ 1000 < (readS s).2.size then { st1 with at_ := 0 }.fail 3 else st1
def readW (s : List UInt8) : Option RE × Nat × Nat :=
  if 65536 < s.length then (none, 3, 0)
  else if (readE s).e = 0 then (some (readS s).2, 0, 0) else (none, (readE s).e, (readE s).wh)
end Go.Proofs.YtpajpjocakhcdaaGreatDoor
