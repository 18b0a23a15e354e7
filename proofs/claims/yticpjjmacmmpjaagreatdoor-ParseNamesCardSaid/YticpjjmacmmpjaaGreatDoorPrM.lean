/-
  The parser, plain: what it makes of tokens, or the error by which it gives up.
-/
import Derived.Test.YticpjjmacmmpjaaGreatDoorLxY
import Derived.Test.YticpjjmacmmpjaaGreatDoorLxR
import Derived.Test.YticpjjmacmmpjaaGreatDoorLxG
import Derived.Test.YticpjjmacmmpjaaGreatDoorLnA
set_option linter.unusedSimpArgs false
set_option linter.unusedVariables false
set_option maxRecDepth 100000
set_option linter.unnecessarySimpa false
namespace Go.Proofs.YticpjjmacmmpjaaGreatDoor
namespace PR
/-- what a part of the parser leaves: what it made, the tokens left, how many terms there are; or an error, and where it is -/
inductive Res (α : Type) where
  | ok (a : α) (rest : List LT) (c : Nat)
  | bad (e at_ : Nat)
def Res.bind {α β : Type} (r : Res α) (f : α → List LT → Nat → Res β) : Res β := match r with | .ok a ts c => f a ts c | .bad e p => .bad e p
def hd (ts : List LT) : LT := ts.headD lt0
def stp (ts : List LT) : List LT := if (hd ts).kind = 0 then ts else ts.tail
def isT (ts : List LT) (k : Nat) (s : List UInt8) : Bool := (hd ts).kind == k && (hd ts).text == s
def form {α : Type} (ts : List LT) : Res α := .bad 2 (hd ts).at_
def want (s : List UInt8) (ts : List LT) (c : Nat) : Res Unit := if isT ts 2 s = true then .ok () (stp ts) c else form ts
def opn (g : Nat) (ts : List LT) (c : Nat) : Res Unit := if isT ts 2 [40] = true then (if g = 0 then .bad 4 (hd ts).at_ else .ok () (stp ts) c) else form ts
def cnt (p : Nat) (ts : List LT) (c : Nat) : Res Unit := if 1000 < c + 1 then .bad 3 p else .ok () ts (c + 1)
def nm (ts : List LT) (c : Nat) : Res LT := if (hd ts).kind = 1 ∧ LX.nameB (hd ts).text = true then .ok (hd ts) (stp ts) c else form ts
def quo (ts : List LT) (c : Nat) : Res (List UInt8) := if (hd ts).kind = 3 then .ok (hd ts).text (stp ts) c else form ts
def big (r : Option RE) : Bool := decide (300 < RE.sizeO r) || decide (50 < deepW (RE.ofO r))
def expr (ts : List LT) (c : Nat) : Res (Option RE) := if (hd ts).kind = 4 then (if big (hd ts).re = true then .bad 3 (hd ts).at_ else .ok (hd ts).re (stp ts) c) else form ts
def nameT (n : LT) : TA := TA.node 0 0 (n.at_ : Nat) n.text none [] [] []
/-- a name as a term -/
def nmT (ts : List LT) (c : Nat) : Res TA := (nm ts c).bind fun n ts c => (cnt n.at_ ts c).bind fun _ ts c => .ok (nameT n) ts c
def arg (ts : List LT) (c : Nat) : Res (Option RE × List TA) := if (hd ts).kind = 4 then (expr ts c).bind fun r ts c => .ok (r, []) ts c else (nmT ts c).bind fun n ts c => .ok (none, [n]) ts c
def plain (o a : Nat) (ts : List LT) (c : Nat) : Res TA :=
  (cnt a ts c).bind fun _ ts c =>
  (if o = 3 then (nm ts c).bind fun n ts c => .ok n.text ts c else .ok [] ts c).bind fun n ts c =>
  (if o ≠ 6 then arg ts c else .ok (none, []) ts c).bind fun ra ts c =>
  (if o = 4 ∨ o = 6 ∨ o = 17 then quo ts c else .ok [] ts c).bind fun t ts c =>
  (if o = 4 ∨ o = 5 then quo ts c else .ok [] ts c).bind fun k ts c => .ok (TA.node 0 o (a : Nat) n ra.1 t k ra.2) ts c
/-- terms with commas between: so many more, behind those -/
def callGo (rec : List LT → Nat → Res TA) : Nat → List TA → List LT → Nat → Res (List TA)
  | 0, ks, ts, c => .ok ks ts c
  | n + 1, ks, ts, c => (if ks.isEmpty = true then .ok () ts c else want [44] ts c).bind fun _ ts c => (rec ts c).bind fun x ts c => callGo rec n (ks ++ [x]) ts c
def call (o a n g : Nat) (rec : List LT → Nat → Res TA) (ts : List LT) (c : Nat) : Res TA :=
  (cnt a ts c).bind fun _ ts c => (opn g ts c).bind fun _ ts c => (callGo rec n [] ts c).bind fun ks ts c =>
  (want [41] ts c).bind fun _ ts c => .ok (TA.node 0 o (a : Nat) [] none [] [] ks) ts c
/-- which op a word is -/
def opGo (s : List UInt8) : Nat → Nat → Option Nat
  | 0, _ => none
  | f + 1, o => if TA.word o = s then some o else opGo s f (o + 1)
def opOf (s : List UInt8) : Option Nat := opGo s 16 2
def word (g : Nat) (rec : List LT → Nat → Res TA) (ts : List LT) (c : Nat) : Res TA :=
  match opOf (hd ts).text with
  | some o => if o = 10 ∨ o = 14 ∨ o = 15 then call o (hd ts).at_ 2 g rec (stp ts) c else if o = 12 ∨ o = 13 then call o (hd ts).at_ 1 g rec (stp ts) c else plain o (hd ts).at_ (stp ts) c
  | none => nmT ts c
def atom (g : Nat) (rec : List LT → Nat → Res TA) (ts : List LT) (c : Nat) : Res TA :=
  if (hd ts).kind = 1 then word g rec ts c
  else if (hd ts).kind = 4 then (cnt (hd ts).at_ ts c).bind fun _ ts1 c => (expr ts1 c).bind fun r ts2 c => .ok (TA.node 0 1 ((hd ts).at_ : Nat) [] r [] [] []) ts2 c
  else if isT ts 2 [40] = true then (opn g ts c).bind fun _ ts c => (rec ts c).bind fun x ts c => (want [41] ts c).bind fun _ ts c => .ok x ts c
  else form ts
def starGo : Nat → TA → List LT → Nat → Res TA
  | 0, t, ts, c => .ok t ts c
  | n + 1, t, ts, c => if isT ts 2 [42] = true then (cnt (hd ts).at_ (stp ts) c).bind fun _ ts1 c => starGo n (TA.node 0 9 ((hd ts).at_ : Nat) [] none [] [] [t]) ts1 c else .ok t ts c
def star (g : Nat) (rec : List LT → Nat → Res TA) (ts : List LT) (c : Nat) : Res TA := (atom g rec ts c).bind fun t ts c => starGo ts.length t ts c
def chGo (sg : UInt8) (o : Nat) (nx : List LT → Nat → Res TA) : Nat → TA → List LT → Nat → Res TA
  | 0, t, ts, c => .ok t ts c
  | n + 1, t, ts, c => if isT ts 2 [sg] = true then (cnt (hd ts).at_ (stp ts) c).bind fun _ ts1 c => (nx ts1 c).bind fun y ts2 c => chGo sg o nx n (TA.node 0 o ((hd ts).at_ : Nat) [] none [] [] [t, y]) ts2 c else .ok t ts c
def chL (sg : UInt8) (o : Nat) (nx : List LT → Nat → Res TA) (ts : List LT) (c : Nat) : Res TA := (nx ts c).bind fun t ts c => chGo sg o nx ts.length t ts c
def sgn (l : Nat) : UInt8 := if l = 0 then 124 else if l = 1 then 46 else 59
def opc (l : Nat) : Nat := if l = 0 then 7 else if l = 1 then 8 else 11
/-- terms with signs between: from so many levels below the stars on -/
def chN (g : Nat) (rec : List LT → Nat → Res TA) : Nat → List LT → Nat → Res TA
  | 0 => star g rec
  | k + 1 => chL (sgn (2 - k)) (opc (2 - k)) (chN g rec k)
def chain : Nat → List LT → Nat → Res TA
  | 0 => chN 0 (fun ts _ => form ts) 3
  | g + 1 => chN (g + 1) (chain g) 3
/-- a name, where it stands, and what it stands for -/
structure LetT where
  name : List UInt8
  at_ : Nat
  term : TA
def letW : List UInt8 := [108, 101, 116]
def inW : List UInt8 := [105, 110]
def progGo : Nat → List LetT → List LT → Nat → Res (List LetT × TA)
  | 0, _, ts, _ => form ts
  | n + 1, ls, ts, c =>
    if isT ts 1 letW = true then
      if ls.length = 200 then .bad 3 (hd ts).at_
      else (nm (stp ts) c).bind fun x ts c => (want [61] ts c).bind fun _ ts c => (chain 60 ts c).bind fun t ts c =>
        if isT ts 1 inW = true then progGo n (ls ++ [⟨x.text, x.at_, t⟩]) (stp ts) c else form ts
    else (chain 60 ts c).bind fun b ts c => if (hd ts).kind = 0 then .ok (ls, b) ts c else form ts
def prog (ts : List LT) : Res (List LetT × TA) := progGo ts.length [] ts 0
end PR
/-- the program that a text is; the error, and where it is -/
def parseW (s : List UInt8) : Option (List PR.LetT × TA) × Nat × Nat :=
  if (lexW s).2.1 ≠ 0 then (none, (lexW s).2.1, (lexW s).2.2)
  else match PR.prog (lexW s).1 with
    | .ok r _ _ => (some r, 0, 0)
    | .bad e a => (none, e, a)
end Go.Proofs.YticpjjmacmmpjaaGreatDoor
