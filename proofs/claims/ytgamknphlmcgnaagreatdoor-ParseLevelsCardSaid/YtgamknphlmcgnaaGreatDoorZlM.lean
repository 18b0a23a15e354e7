/-
  Names with signs between, parsed, plain; ParseDeep, plain. Tokens that make a term, by the grammar: what the parser makes of them, whatever is behind; plain. Texts that are tokens, one by one: gaps, signs, names, texts in quotes, expressions; plain. How deep the parentheses of a term's text lie in one another; plain. Terms as they are written: what the parser makes of their texts; plain. What the parser makes, whatever tokens: the terms' shape, their number, how deep they are; programs as they are written are read as they are; plain. Are two terms the same? Walked through the program. ParseLevels, plain: names with signs between, put together by what holds closer. ParseLevels: names with signs between, put together: the statement's own functions, walked through the program. Whole numbers in a row. A term's blocks aside: its text, its size, what it weighs. Programs in memory: as they are written, and whether two are the same: walked through the program. ParseLevels, walked through the program. What the listed variables' data give the walks: the library's table and the ops' words lie as their initialisers lay them.
-/
import Derived.Deep.RegionWith
import Derived.IntWalk
import Derived.Test.YtgamknphlmcgnaaGreatDoorRows
import Derived.Test.YtgamknphlmcgnaaGreatDoorTie
import Derived.ProofKit
import Derived.LaidMore
import Derived.OpenShut
import Derived.Stop.Joined
import Derived.Test.YtgamknphlmcgnaaGreatDoorZlA
import Derived.Test.YtgamknphlmcgnaaGreatDoorZlB
import Derived.Test.YtgamknphlmcgnaaGreatDoorZlC
import Derived.Test.YtgamknphlmcgnaaGreatDoorZlD
import Derived.Test.YtgamknphlmcgnaaGreatDoorZlE
import Derived.Test.YtgamknphlmcgnaaGreatDoorZlF
import Derived.Test.YtgamknphlmcgnaaGreatDoorZlG
import Derived.Test.YtgamknphlmcgnaaGreatDoorZlH
import Derived.Test.YtgamknphlmcgnaaGreatDoorZlI
import Derived.Test.YtgamknphlmcgnaaGreatDoorZlJ
import Derived.Test.YtgamknphlmcgnaaGreatDoorZlK
import Derived.Test.YtgamknphlmcgnaaGreatDoorZlL
section
set_option linter.unusedSimpArgs false
set_option linter.unusedVariables false
set_option maxRecDepth 100000
set_option linter.unnecessarySimpa false
namespace Go.Proofs.YtgamknphlmcgnaaGreatDoor
namespace PR
/-- a name, as a token -/
structure NameTk (t : LT) : Prop where
  kind : t.kind = 1
  name : LX.nameB t.text = true
theorem opOf_name {s : List UInt8} (h : LX.nameB s = true) : opOf s = none := by
  have hr : LX.resB s = false := by
    unfold LX.nameB at h
    simp only [Bool.and_eq_true, Bool.not_eq_true'] at h
    exact h.1.2
  have hne : s ≠ [] := by
    unfold LX.nameB at h
    simp only [Bool.and_eq_true, Bool.not_eq_true'] at h
    intro e
    rw [e] at h
    simp at h
  have key : ∀ f o, o + f ≤ 18 → 2 ≤ o → opGo s f o = none := by
    intro f
    induction f with
    | zero => intro o _ _; rfl
    | succ f ih =>
      intro o h1 h2
      have hw : TA.word o ≠ s := by
        intro e
        have hall : ∀ o, o < 18 → 2 ≤ o → TA.word o = [] ∨ LX.resB (TA.word o) = true := by decide
        rcases hall o (by omega) h2 with h3 | h3
        · exact hne (by rw [← e]; exact h3)
        · rw [e, hr] at h3; cases h3
      rw [opGo, if_neg hw]
      exact ih (o + 1) (by omega) (by omega)
  exact key 16 2 (by omega) (by omega)
theorem hd_cons (t : LT) (ts : List LT) : hd (t :: ts) = t := rfl
theorem stp_cons (t : LT) (ts : List LT) (h : t.kind ≠ 0) : stp (t :: ts) = ts := by unfold stp; rw [hd_cons, if_neg h]; rfl
theorem nm_name {t : LT} (h : NameTk t) (ts : List LT) (c : Nat) : nm (t :: ts) c = .ok t ts c := by
  unfold nm
  rw [hd_cons, if_pos ⟨h.kind, h.name⟩, stp_cons t ts (by rw [h.kind]; decide)]
theorem nmT_name {t : LT} (h : NameTk t) (ts : List LT) (c : Nat) : nmT (t :: ts) c = if 1000 < c + 1 then .bad 3 t.at_ else .ok (nameT t) ts (c + 1) := by
  unfold nmT
  rw [nm_name h]
  show (cnt t.at_ ts c).bind _ = _
  unfold cnt
  split <;> rfl
theorem word_name {t : LT} (h : NameTk t) (g : Nat) (rec : List LT → Nat → Res TA) (ts : List LT) (c : Nat) : word g rec (t :: ts) c = if 1000 < c + 1 then .bad 3 t.at_ else .ok (nameT t) ts (c + 1) := by
  unfold word
  rw [hd_cons, opOf_name h.name]
  exact nmT_name h ts c
theorem atom_name {t : LT} (h : NameTk t) (g : Nat) (rec : List LT → Nat → Res TA) (ts : List LT) (c : Nat) : atom g rec (t :: ts) c = if 1000 < c + 1 then .bad 3 t.at_ else .ok (nameT t) ts (c + 1) := by
  unfold atom
  rw [hd_cons, if_pos h.kind]
  exact word_name h g rec ts c
/-- is the token at hand no such sign? -/
def noSg (b : UInt8) (ts : List LT) : Prop := isT ts 2 [b] = false
theorem starGo_stop {ts : List LT} (h : noSg 42 ts) (n : Nat) (t : TA) (c : Nat) : starGo n t ts c = .ok t ts c := by
  cases n with
  | zero => rfl
  | succ n => rw [starGo, if_neg (by rw [h]; simp)]
theorem chGo_stop {sg : UInt8} {ts : List LT} (h : noSg sg ts) (o : Nat) (nx : List LT → Nat → Res TA) (n : Nat) (t : TA) (c : Nat) : chGo sg o nx n t ts c = .ok t ts c := by
  cases n with
  | zero => rfl
  | succ n => rw [chGo, if_neg (by rw [h]; simp)]
theorem noSg_kind {b : UInt8} {t : LT} {ts : List LT} (h : t.kind ≠ 2) : noSg b (t :: ts) := by
  unfold noSg isT
  rw [hd_cons]
  have : (t.kind == 2) = false := by simpa using h
  rw [this]; rfl
theorem noSg_other {b d : UInt8} {t : LT} {ts : List LT} (h : t.text = [d]) (hd' : d ≠ b) : noSg b (t :: ts) := by
  unfold noSg isT
  rw [hd_cons, h]
  have : (([d] : List UInt8) == [b]) = false := by simpa using hd'
  rw [this, Bool.and_false]
end PR
end Go.Proofs.YtgamknphlmcgnaaGreatDoor
end
section
set_option linter.unusedSimpArgs false
set_option linter.unusedVariables false
set_option maxRecDepth 100000
set_option linter.unnecessarySimpa false
namespace Go.Proofs.YtgamknphlmcgnaaGreatDoor
namespace PR
def recOf : Nat → List LT → Nat → Res TA
  | 0 => fun ts _ => form ts
  | g + 1 => chain g
theorem chain_eq (g : Nat) : chain g = chN g (recOf g) 3 := by cases g <;> rfl
/-- a part of a level: an atom, an atom with stars, .. -/
def lev (g : Nat) : Nat → List LT → Nat → Res TA
  | 0 => atom g (recOf g)
  | k + 1 => chN g (recOf g) k
/-- no sign by which a part of a level goes on -/
def stopAt : Nat → List LT → Prop
  | 0, _ => True
  | 1, ts => noSg 42 ts
  | k + 2, ts => stopAt (k + 1) ts ∧ noSg (sgn (2 - k)) ts
def stopB : Nat → List LT → Prop
  | 0, _ => True
  | 1, _ => True
  | k + 2, ts => stopAt (k + 1) ts
theorem stopB_of {k : Nat} {ts : List LT} (h : stopAt (k + 1) ts) : stopB (k + 1) ts := by
  cases k with
  | zero => trivial
  | succ k => exact h.1
/-- a sign as a token -/
def sgT (b : UInt8) (a : Nat) : LT := ⟨2, [b], none, a⟩
/-- tokens that make a term: its level, the tokens, the term, how many terms, how deep -/
inductive Tk : Nat → List LT → TA → Nat → Nat → Prop
  | name (t : LT) (h : NameTk t) : Tk 0 [t] (nameT t) 1 0
  | re (a : Nat) (r : Option RE) (h : big r = false) : Tk 0 [⟨4, [], r, a⟩] (TA.node 0 1 (a : Nat) [] r [] [] []) 1 0
  | leaf (w : LT) (o : Nat) (ts : List LT) (t : TA) (n : Nat) (hk : w.kind = 1) (ho : opOf w.text = some o) (hp : ¬ (o = 10 ∨ o = 14 ∨ o = 15) ∧ ¬ (o = 12 ∨ o = 13)) (h : ∀ rest c, c + n ≤ 1000 → plain o w.at_ (ts ++ rest) c = .ok t rest (c + n)) : Tk 0 (w :: ts) t n 0
  | par (a b : Nat) (ts : List LT) (t : TA) (n d : Nat) (h : Tk 4 ts t n d) : Tk 0 (sgT 40 a :: (ts ++ [sgT 41 b])) t n (d + 1)
  | one (w : LT) (o a b : Nat) (ts : List LT) (t : TA) (n d : Nat) (hk : w.kind = 1) (ho : opOf w.text = some o) (hp : o = 12 ∨ o = 13) (h : Tk 4 ts t n d) : Tk 0 (w :: sgT 40 a :: (ts ++ [sgT 41 b])) (TA.node 0 o (w.at_ : Nat) [] none [] [] [t]) (n + 1) (d + 1)
  | two (w : LT) (o a q b : Nat) (ts ts' : List LT) (t t' : TA) (n d n' d' : Nat) (hk : w.kind = 1) (ho : opOf w.text = some o) (hp : o = 10 ∨ o = 14 ∨ o = 15) (h : Tk 4 ts t n d) (h' : Tk 4 ts' t' n' d') : Tk 0 (w :: sgT 40 a :: (ts ++ sgT 44 q :: (ts' ++ [sgT 41 b]))) (TA.node 0 o (w.at_ : Nat) [] none [] [] [t, t']) (n + n' + 1) (max d d' + 1)
  | at0 (ts : List LT) (t : TA) (n d : Nat) (h : Tk 0 ts t n d) : Tk 1 ts t n d
  | sta (a : Nat) (ts : List LT) (t : TA) (n d : Nat) (h : Tk 1 ts t n d) : Tk 1 (ts ++ [sgT 42 a]) (TA.node 0 9 (a : Nat) [] none [] [] [t]) (n + 1) d
  | up (k : Nat) (ts : List LT) (t : TA) (n d : Nat) (h : Tk (k + 1) ts t n d) : Tk (k + 2) ts t n d
  | bin (k a : Nat) (hk : k ≤ 2) (ts ts' : List LT) (t t' : TA) (n d n' d' : Nat) (h : Tk (k + 2) ts t n d) (h' : Tk (k + 1) ts' t' n' d') : Tk (k + 2) (ts ++ sgT (sgn (2 - k)) a :: ts') (TA.node 0 (opc (2 - k)) (a : Nat) [] none [] [] [t, t']) (n + n' + 1) (max d d')
def Ran (g : Nat) : Nat → List LT → List LT → TA → Nat → Nat → Prop
  | 0, ts, rest, t, c, c' => atom g (recOf g) ts c = .ok t rest c'
  | 1, ts, rest, t, c, c' => ∃ t0 ts0 c0 m, atom g (recOf g) ts c = .ok t0 ts0 c0 ∧ m + rest.length ≤ ts0.length ∧ ∀ f, starGo (f + m) t0 ts0 c0 = starGo f t rest c'
  | k + 2, ts, rest, t, c, c' => ∃ t0 ts0 c0 m, chN g (recOf g) k ts c = .ok t0 ts0 c0 ∧ m + rest.length ≤ ts0.length ∧ ∀ f, chGo (sgn (2 - k)) (opc (2 - k)) (chN g (recOf g) k) (f + m) t0 ts0 c0 = chGo (sgn (2 - k)) (opc (2 - k)) (chN g (recOf g) k) f t rest c'
theorem Ran.fin {g : Nat} : ∀ {l : Nat} {ts rest : List LT} {t : TA} {c c' : Nat}, Ran g l ts rest t c c' → stopAt l rest → lev g l ts c = .ok t rest c'
  | 0, ts, rest, t, c, c', h, _ => h
  | 1, ts, rest, t, c, c', ⟨t0, ts0, c0, m, h1, h2, h3⟩, hs => by
    show star g (recOf g) ts c = _
    unfold star
    rw [h1, bind_ok]
    have := h3 (ts0.length - m)
    rw [show ts0.length - m + m = ts0.length by omega] at this
    rw [this]
    exact starGo_stop hs _ _ _
  | k + 2, ts, rest, t, c, c', ⟨t0, ts0, c0, m, h1, h2, h3⟩, hs => by
    show chL (sgn (2 - k)) (opc (2 - k)) (chN g (recOf g) k) ts c = _
    unfold chL
    rw [h1, bind_ok]
    have := h3 (ts0.length - m)
    rw [show ts0.length - m + m = ts0.length by omega] at this
    rw [this]
    exact chGo_stop hs.2 _ _ _ _ _
theorem isT_sg (b : UInt8) (a : Nat) (ts : List LT) : isT (sgT b a :: ts) 2 [b] = true := by
  unfold isT; rw [hd_cons]; simp [sgT]
theorem stp_sg (b : UInt8) (a : Nat) (ts : List LT) : stp (sgT b a :: ts) = ts := stp_cons _ _ (by show (2 : Nat) ≠ 0; decide)
theorem want_sg (b : UInt8) (a : Nat) (ts : List LT) (c : Nat) : want [b] (sgT b a :: ts) c = .ok () ts c := by
  unfold want; rw [isT_sg, if_pos rfl, stp_sg]
theorem cnt_ok (p : Nat) (ts : List LT) (c : Nat) (h : c + 1 ≤ 1000) : cnt p ts c = .ok () ts (c + 1) := by
  unfold cnt; rw [if_neg (by omega)]
theorem opn_sg (g a : Nat) (ts : List LT) (c : Nat) (h : g ≠ 0) : opn g (sgT 40 a :: ts) c = .ok () ts c := by
  unfold opn; rw [isT_sg, if_pos rfl, if_neg h, stp_sg]
theorem noSg_sg (b d a : _) (ts : List LT) (h : d ≠ b) : noSg b (sgT d a :: ts) := noSg_other (d := d) rfl h
theorem stop_sg (b : UInt8) (a : Nat) (ts : List LT) (h : b = 41 ∨ b = 44) : stopAt 4 (sgT b a :: ts) := by
  rcases h with rfl | rfl
  · exact ⟨⟨⟨noSg_sg _ _ _ _ (by decide), noSg_sg _ _ _ _ (by decide)⟩, noSg_sg _ _ _ _ (by decide)⟩, noSg_sg _ _ _ _ (by decide)⟩
  · exact ⟨⟨⟨noSg_sg _ _ _ _ (by decide), noSg_sg _ _ _ _ (by decide)⟩, noSg_sg _ _ _ _ (by decide)⟩, noSg_sg _ _ _ _ (by decide)⟩
theorem stop_kind {t : LT} (ts : List LT) (h : t.kind ≠ 2) : stopAt 4 (t :: ts) := ⟨⟨⟨noSg_kind h, noSg_kind h⟩, noSg_kind h⟩, noSg_kind h⟩
theorem stop_next (k a : Nat) (hk : k ≤ 2) (ts : List LT) : stopAt (k + 1) (sgT (sgn (2 - k)) a :: ts) := by
  have h : k = 0 ∨ k = 1 ∨ k = 2 := by omega
  rcases h with rfl | rfl | rfl
  · exact noSg_sg _ _ _ _ (by decide)
  · exact ⟨noSg_sg _ _ _ _ (by decide), noSg_sg _ _ _ _ (by decide)⟩
  · exact ⟨⟨noSg_sg _ _ _ _ (by decide), noSg_sg _ _ _ _ (by decide)⟩, noSg_sg _ _ _ _ (by decide)⟩
theorem atom_word (g : Nat) (rec : List LT → Nat → Res TA) {w : LT} {o : Nat} (hk : w.kind = 1) (ho : opOf w.text = some o) (ts : List LT) (c : Nat) :
    atom g rec (w :: ts) c = if o = 10 ∨ o = 14 ∨ o = 15 then call o w.at_ 2 g rec ts c else if o = 12 ∨ o = 13 then call o w.at_ 1 g rec ts c else plain o w.at_ ts c := by
  unfold atom
  rw [hd_cons, if_pos hk]
  unfold word
  rw [hd_cons, ho, stp_cons _ _ (by rw [hk]; decide)]
theorem Tk.ran {l : Nat} {ts : List LT} {t : TA} {n d : Nat} (h : Tk l ts t n d) : ∀ (g : Nat) (rest : List LT) (c : Nat), d ≤ g → stopB l rest → c + n ≤ 1000 → Ran g l (ts ++ rest) rest t c (c + n) := by
  induction h with
  | name t h =>
    intro g rest c _ _ hc
    show atom g (recOf g) (t :: rest) c = _
    rw [atom_name h, if_neg (by omega)]
  | re a r h =>
    intro g rest c _ _ hc
    show atom g (recOf g) (⟨4, [], r, a⟩ :: rest) c = _
    unfold atom
    rw [hd_cons, if_neg (by show ¬ ((4 : Nat) = 1); decide), if_pos (by rfl), cnt_ok _ _ _ hc, bind_ok]
    unfold expr
    rw [hd_cons, if_pos (by rfl), if_neg (by rw [h]; simp), stp_cons _ _ (by show (4 : Nat) ≠ 0; decide), bind_ok]
  | leaf w o ts t n hk ho hp h =>
    intro g rest c _ _ hc
    show atom g (recOf g) (w :: (ts ++ rest)) c = _
    rw [atom_word _ _ hk ho, if_neg hp.1, if_neg hp.2]
    exact h rest c hc
  | par a b ts t n d h ih =>
    intro g rest c hg _ hc
    obtain ⟨g, rfl⟩ : ∃ g', g = g' + 1 := ⟨g - 1, by omega⟩
    have e1 : (sgT 40 a :: (ts ++ [sgT 41 b])) ++ rest = sgT 40 a :: (ts ++ (sgT 41 b :: rest)) := by simp
    rw [e1]
    show atom (g + 1) (chain g) _ c = _
    have e2 := (ih g (sgT 41 b :: rest) c (by omega) (stop_sg _ _ _ (.inl rfl)).1 hc).fin (stop_sg _ _ _ (.inl rfl))
    have e2 : chain g (ts ++ (sgT 41 b :: rest)) c = .ok t (sgT 41 b :: rest) (c + n) := by rw [chain_eq]; exact e2
    unfold atom
    rw [hd_cons, if_neg (by show ¬ ((2 : Nat) = 1); decide), if_neg (by show ¬ ((2 : Nat) = 4); decide), isT_sg, if_pos rfl, opn_sg _ _ _ _ (by omega), bind_ok, e2, bind_ok, want_sg, bind_ok]
  | one w o a b ts t n d hk ho hp h ih =>
    intro g rest c hg _ hc
    obtain ⟨g, rfl⟩ : ∃ g', g = g' + 1 := ⟨g - 1, by omega⟩
    have e1 : (w :: sgT 40 a :: (ts ++ [sgT 41 b])) ++ rest = w :: sgT 40 a :: (ts ++ (sgT 41 b :: rest)) := by simp
    rw [e1]
    show atom (g + 1) (chain g) _ c = _
    have e2 := (ih g (sgT 41 b :: rest) (c + 1) (by omega) (stop_sg _ _ _ (.inl rfl)).1 (by omega)).fin (stop_sg _ _ _ (.inl rfl))
    have e2 : chain g (ts ++ (sgT 41 b :: rest)) (c + 1) = .ok t (sgT 41 b :: rest) (c + 1 + n) := by rw [chain_eq]; exact e2
    rw [atom_word _ _ hk ho, if_neg (by omega), if_pos hp]
    unfold call
    rw [cnt_ok _ _ _ (by omega), bind_ok, opn_sg _ _ _ _ (by omega), bind_ok, callGo, if_pos (show ([] : List TA).isEmpty = true from rfl), bind_ok, e2, bind_ok, callGo, bind_ok, want_sg, bind_ok]
    rw [show c + 1 + n = c + (n + 1) by omega]
    rfl
  | two w o a q b ts ts' t t' n d n' d' hk ho hp h h' ih ih' =>
    intro g rest c hg _ hc
    obtain ⟨g, rfl⟩ : ∃ g', g = g' + 1 := ⟨g - 1, by omega⟩
    have e1 : (w :: sgT 40 a :: (ts ++ sgT 44 q :: (ts' ++ [sgT 41 b]))) ++ rest = w :: sgT 40 a :: (ts ++ (sgT 44 q :: (ts' ++ (sgT 41 b :: rest)))) := by simp
    rw [e1]
    show atom (g + 1) (chain g) _ c = _
    have e2 := (ih g (sgT 44 q :: (ts' ++ (sgT 41 b :: rest))) (c + 1) (by omega) (stop_sg _ _ _ (.inr rfl)).1 (by omega)).fin (stop_sg _ _ _ (.inr rfl))
    have e2 : chain g (ts ++ (sgT 44 q :: (ts' ++ (sgT 41 b :: rest)))) (c + 1) = .ok t (sgT 44 q :: (ts' ++ (sgT 41 b :: rest))) (c + 1 + n) := by rw [chain_eq]; exact e2
    have e3 := (ih' g (sgT 41 b :: rest) (c + 1 + n) (by omega) (stop_sg _ _ _ (.inl rfl)).1 (by omega)).fin (stop_sg _ _ _ (.inl rfl))
    have e3 : chain g (ts' ++ (sgT 41 b :: rest)) (c + 1 + n) = .ok t' (sgT 41 b :: rest) (c + 1 + n + n') := by rw [chain_eq]; exact e3
    rw [atom_word _ _ hk ho, if_pos hp]
    unfold call
    rw [cnt_ok _ _ _ (by omega), bind_ok, opn_sg _ _ _ _ (by omega), bind_ok, callGo, if_pos (show ([] : List TA).isEmpty = true from rfl), bind_ok, e2, bind_ok, callGo, if_neg (by simp), want_sg, bind_ok, e3, bind_ok, callGo, bind_ok, want_sg, bind_ok]
    rw [show c + 1 + n + n' = c + (n + n' + 1) by omega]
    rfl
  | at0 ts t n d h ih =>
    intro g rest c hg _ hc
    exact ⟨t, rest, c + n, 0, ih g rest c hg trivial hc, by omega, fun f => rfl⟩
  | sta a ts t n d h ih =>
    intro g rest c hg _ hc
    have e1 : (ts ++ [sgT 42 a]) ++ rest = ts ++ (sgT 42 a :: rest) := by simp
    rw [e1]
    obtain ⟨t0, ts0, c0, m, h1, h2, h3⟩ := ih g (sgT 42 a :: rest) c hg trivial (by omega)
    refine ⟨t0, ts0, c0, m + 1, h1, by simp at h2; omega, fun f => ?_⟩
    rw [show f + (m + 1) = f + 1 + m by omega, h3, starGo, isT_sg, if_pos rfl, stp_sg, cnt_ok _ _ _ (by omega), bind_ok]
    rfl
  | up k ts t n d h ih =>
    intro g rest c hg hs hc
    have hs : stopAt (k + 1) rest := hs
    exact ⟨t, rest, c + n, 0, (ih g rest c hg (stopB_of hs) hc).fin hs, by omega, fun f => rfl⟩
  | bin k a hk ts ts' t t' n d n' d' h h' ih ih' =>
    intro g rest c hg hs hc
    have hs : stopAt (k + 1) rest := hs
    have e1 : (ts ++ sgT (sgn (2 - k)) a :: ts') ++ rest = ts ++ (sgT (sgn (2 - k)) a :: (ts' ++ rest)) := by simp
    rw [e1]
    obtain ⟨t0, ts0, c0, m, h1, h2, h3⟩ := ih g (sgT (sgn (2 - k)) a :: (ts' ++ rest)) c (by omega) (stop_next k a hk _) (by omega)
    have e2 : chN g (recOf g) k (ts' ++ rest) (c + n + 1) = .ok t' rest (c + n + 1 + n') := (ih' g rest (c + n + 1) (by omega) (stopB_of hs) (by omega)).fin hs
    refine ⟨t0, ts0, c0, m + 1, h1, by simp at h2; omega, fun f => ?_⟩
    rw [show f + (m + 1) = f + 1 + m by omega, h3, chGo, isT_sg, if_pos rfl, stp_sg, cnt_ok _ _ _ (by omega), bind_ok, e2, bind_ok]
    rw [show c + n + 1 + n' = c + (n + n' + 1) by omega]
    rfl
/-- what the parser makes of such tokens -/
theorem Tk.run {l : Nat} {ts : List LT} {t : TA} {n d : Nat} (h : Tk l ts t n d) (g : Nat) (rest : List LT) (c : Nat) (hg : d ≤ g) (hs : stopAt l rest) (hc : c + n ≤ 1000) : lev g l (ts ++ rest) c = .ok t rest (c + n) := by
  refine (h.ran g rest c hg ?_ hc).fin hs
  match l, hs with
  | 0, _ => trivial
  | 1, _ => trivial
  | k + 2, hs => exact hs.1
theorem Tk.chain {ts : List LT} {t : TA} {n d : Nat} (h : Tk 4 ts t n d) (g : Nat) (rest : List LT) (c : Nat) (hg : d ≤ g) (hs : stopAt 4 rest) (hc : c + n ≤ 1000) : PR.chain g (ts ++ rest) c = .ok t rest (c + n) := by
  rw [chain_eq]; exact h.run g rest c hg hs hc
theorem opOf_let : opOf letW = none := by decide
theorem nameB_let : LX.nameB letW = false := by decide
/-- no term begins with the word of a binding -/
theorem Tk.head {l : Nat} {ts : List LT} {t : TA} {n d : Nat} (h : Tk l ts t n d) : ∀ rest, isT (ts ++ rest) 1 letW = false := by
  have key : ∀ (w : LT) (ts : List LT), w.text ≠ letW → isT (w :: ts) 1 letW = false := fun w ts hw => by
    unfold isT; rw [hd_cons]
    have : (w.text == letW) = false := by simpa using hw
    rw [this, Bool.and_false]
  have kop : ∀ {w : LT} {o : Nat}, opOf w.text = some o → w.text ≠ letW := fun {w o} ho e => by rw [e, opOf_let] at ho; cases ho
  induction h with
  | name t h => intro rest; exact key _ _ fun e => by have := h.name; rw [e, nameB_let] at this; cases this
  | re a r h => intro rest; rfl
  | leaf w o ts t n hk ho hp h => intro rest; exact key _ _ (kop ho)
  | par a b ts t n d h ih => intro rest; rfl
  | one w o a b ts t n d hk ho hp h ih => intro rest; exact key _ _ (kop ho)
  | two w o a q b ts ts' t t' n d n' d' hk ho hp h h' ih ih' => intro rest; exact key _ _ (kop ho)
  | at0 ts t n d h ih => exact ih
  | sta a ts t n d h ih => intro rest; rw [List.append_assoc]; exact ih _
  | up k ts t n d h ih => exact ih
  | bin k a hk ts ts' t t' n d n' d' h h' ih ih' => intro rest; rw [List.append_assoc]; exact ih _
/-- tokens that make a program -/
inductive TkP : List LT → List LetT → TA → Nat → Prop
  | body (e : LT) (he : e.kind = 0) (ts : List LT) (t : TA) (n d : Nat) (h : Tk 4 ts t n d) (hd : d ≤ 60) : TkP (ts ++ [e]) [] t n
  | lets (a q i : Nat) (x : LT) (hx : NameTk x) (ts rest : List LT) (t b : TA) (n d m : Nat) (ls : List LetT) (h : Tk 4 ts t n d) (hd : d ≤ 60) (hr : TkP rest ls b m) : TkP (⟨1, letW, none, a⟩ :: x :: sgT 61 q :: (ts ++ ⟨1, inW, none, i⟩ :: rest)) (⟨x.text, x.at_, t⟩ :: ls) b (n + m)
theorem TkP.go {ts : List LT} {ls : List LetT} {b : TA} {n : Nat} (h : TkP ts ls b n) : ∀ (f : Nat) (ls0 : List LetT) (c : Nat), ts.length ≤ f → c + n ≤ 1000 → ls0.length + ls.length ≤ 200 → ∃ r, progGo f ls0 ts c = .ok (ls0 ++ ls, b) r (c + n) := by
  induction h with
  | body e he ts t n d h hd =>
    intro f ls0 c hf hc hl
    obtain ⟨f, rfl⟩ : ∃ f', f = f' + 1 := ⟨f - 1, by simp at hf; omega⟩
    refine ⟨[e], ?_⟩
    rw [progGo, h.head, if_neg (by simp), h.chain 60 [e] c hd (stop_kind _ (by rw [he]; decide)) hc, bind_ok, hd_cons, if_pos he]
    simp
  | lets a q i x hx ts rest t b n d m ls h hd hr ih =>
    intro f ls0 c hf hc hl
    obtain ⟨f, rfl⟩ : ∃ f', f = f' + 1 := ⟨f - 1, by simp at hf; omega⟩
    obtain ⟨r, hr⟩ := ih f (ls0 ++ [⟨x.text, x.at_, t⟩]) (c + n) (by simp at hf; omega) (by omega) (by simp at hl ⊢; omega)
    refine ⟨r, ?_⟩
    simp only [List.length_cons] at hl
    rw [progGo, if_pos (by rfl), if_neg (by omega), stp_cons _ _ (by show (1 : Nat) ≠ 0; decide), nm_name hx, bind_ok, want_sg, bind_ok,
      h.chain 60 (⟨1, inW, none, i⟩ :: rest) c hd (stop_kind _ (by show (1 : Nat) ≠ 2; decide)) (by omega), bind_ok, if_pos (by rfl), stp_cons _ _ (by show (1 : Nat) ≠ 0; decide), hr]
    rw [show c + n + m = c + (n + m) by omega]
    simp
theorem TkP.prog {ts : List LT} {ls : List LetT} {b : TA} {n : Nat} (h : TkP ts ls b n) (hn : n ≤ 1000) (hl : ls.length ≤ 200) : ∃ r, PR.prog ts = .ok (ls, b) r n := by
  obtain ⟨r, hr⟩ := h.go ts.length [] 0 (Nat.le_refl _) (by omega) (by simpa using hl)
  exact ⟨r, by simpa [PR.prog] using hr⟩
end PR
/-- a text that is lexed into such tokens is read as that program -/
theorem parseW_of {s : List UInt8} {ts : List LT} {ls : List PR.LetT} {b : TA} {n : Nat} (hl : LX.Lexes 0 s ts) (hs : s.length ≤ 65536) (h : PR.TkP ts ls b n) (hn : n ≤ 1000) (h2 : ls.length ≤ 200) : parseW s = (some (ls, b), 0, 0) := by
  obtain ⟨r, hr⟩ := h.prog hn h2
  unfold parseW
  rw [lexW_of hl hs]
  simp only [ne_eq, not_true_eq_false, if_false]
  rw [hr]
end Go.Proofs.YtgamknphlmcgnaaGreatDoor
end
section
set_option linter.unusedSimpArgs false
set_option linter.unusedVariables false
set_option maxRecDepth 100000
set_option linter.unnecessarySimpa false
namespace Go.Proofs.YtgamknphlmcgnaaGreatDoor
namespace LX
/-- a text from a place on is those tokens, whatever is behind; .. but no letter -/
def SegF (p : Nat) (a : List UInt8) (ts : List LT) : Prop := ∀ r ts', Lexes (p + a.length) r ts' → Lexes p (a ++ r) (ts ++ ts')
def Seg (p : Nat) (a : List UInt8) (ts : List LT) : Prop := ∀ r ts', (∀ c, r.head? = some c → letter c false = false) → Lexes (p + a.length) r ts' → Lexes p (a ++ r) (ts ++ ts')
/-- it begins with no letter -/
def NL (b : List UInt8) : Prop := ∃ c r, b = c :: r ∧ letter c false = false
variable {p : Nat} {a b : List UInt8} {ts ts' : List LT}
theorem NL.head (h : NL b) (r : List UInt8) : ∀ c, (b ++ r).head? = some c → letter c false = false := by
  obtain ⟨c, b', rfl, hc⟩ := h
  intro d hd
  simp at hd; subst hd; exact hc
theorem SegF.seg (h : SegF p a ts) : Seg p a ts := fun r ts' _ hl => h r ts' hl
theorem SegF.app (h : SegF p a ts) (h' : SegF (p + a.length) b ts') : SegF p (a ++ b) (ts ++ ts') := fun r us hl => by
  rw [List.append_assoc, List.append_assoc]
  refine h _ _ (h' r us ?_)
  rw [List.length_append, ← Nat.add_assoc] at hl; exact hl
theorem SegF.app_seg (h : SegF p a ts) (h' : Seg (p + a.length) b ts') : Seg p (a ++ b) (ts ++ ts') := fun r us hc hl => by
  rw [List.append_assoc, List.append_assoc]
  refine h _ _ (h' r us hc ?_)
  rw [List.length_append, ← Nat.add_assoc] at hl; exact hl
theorem Seg.app (h : Seg p a ts) (h' : SegF (p + a.length) b ts') (hb : NL b) : SegF p (a ++ b) (ts ++ ts') := fun r us hl => by
  rw [List.append_assoc, List.append_assoc]
  refine h _ _ (hb.head r) (h' r us ?_)
  rw [List.length_append, ← Nat.add_assoc] at hl; exact hl
theorem seg_gap (p : Nat) (c : UInt8) (hc : c = 32 ∨ c = 9 ∨ c = 10 ∨ c = 13) : SegF p [c] [] := fun r ts h => .gap p c r ts hc h
theorem seg_sign (p : Nat) (c : UInt8) (hc : signs.contains c = true) : SegF p [c] [⟨2, [c], none, p⟩] := fun r ts h => .sign p c r ts hc h
theorem seg_word (p : Nat) (b : UInt8) (n : List UInt8) (h1 : letter b true = true) (h2 : ∀ c ∈ n, letter c false = true) (h3 : n.length < 30) : Seg p (b :: n) [⟨1, b :: n, none, p⟩] := fun r ts h4 h => .name p b n r ts h1 h2 h3 h4 h
theorem nameF_all : ∀ n, nameF false n = true → ∀ c ∈ n, letter c false = true
  | [], _ => by simp
  | c :: n, h => by
    rw [nameF, Bool.and_eq_true] at h
    intro d hd
    rcases List.mem_cons.1 hd with rfl | hd
    · exact h.1
    · exact nameF_all n h.2 d hd
theorem seg_name (p : Nat) {s : List UInt8} (h : nameB s = true) : Seg p s [⟨1, s, none, p⟩] := by
  unfold nameB at h
  simp only [Bool.and_eq_true, Bool.not_eq_true', decide_eq_true_eq] at h
  obtain ⟨⟨⟨h1, h2⟩, _⟩, h3⟩ := h
  cases s with
  | nil => simp at h1
  | cons b n =>
    rw [nameF, Bool.and_eq_true] at h3
    exact seg_word p b n h3.1 (nameF_all n h3.2) (by simp at h2; omega)
theorem Seg.whole (h : Seg 0 a ts) : Lexes 0 a (ts ++ [⟨0, [], none, a.length⟩]) := by
  have := h [] [⟨0, [], none, a.length⟩] (by simp) (by simpa using Lexes.fin a.length)
  rwa [List.append_nil] at this
end LX
end Go.Proofs.YtgamknphlmcgnaaGreatDoor
end
section
set_option linter.unusedSimpArgs false
set_option linter.unusedVariables false
set_option maxRecDepth 100000
set_option linter.unnecessarySimpa false
namespace Go.Proofs.YtgamknphlmcgnaaGreatDoor
namespace TA
/-- does a kid stand in parentheses? -/
def wrapB (o i ko : Nat) : Bool := if o = 7 ∨ o = 8 ∨ o = 11 then decide (lvl ko < lvl o + i) else if o = 9 then decide (lvl ko < lvl o) else decide (o = 10 ∨ o = 12 ∨ o = 13 ∨ o = 14 ∨ o = 15)
mutual
/-- how deep parentheses lie in one another -/
def nest : TA → Nat | node _ o _ _ _ _ _ ks => nestG o 0 ks 0
def nestG (o i : Nat) : List TA → Nat → Nat
  | [], m => m
  | k :: ks, m => nestG o (i + 1) ks (max m (nest k + if wrapB o i k.op then 1 else 0))
end
mutual
/-- a term without its places -/
def bare : TA → TA | node _ o _ n r t k ks => node 0 o 0 n r t k (bares ks)
def bares : List TA → List TA | [] => [] | k :: ks => bare k :: bares ks
end
theorem bares_map (l : List TA) : bares l = l.map bare := by induction l with | nil => rfl | cons a l ih => simp [bares, ih]
mutual
theorem size_bare : (t : TA) → (bare t).size = t.size
  | node _ o _ _ _ _ _ ks => by simp only [bare, size]; rw [sizes_bares ks]
theorem sizes_bares : (l : List TA) → sizes (bares l) = sizes l
  | [] => rfl
  | k :: l => by simp only [bares, sizes]; rw [size_bare k, sizes_bares l]
end
end TA
end Go.Proofs.YtgamknphlmcgnaaGreatDoor
end
section
set_option linter.unusedSimpArgs false
set_option linter.unusedVariables false
set_option maxRecDepth 100000
set_option linter.unnecessarySimpa false
namespace Go.Proofs.YtgamknphlmcgnaaGreatDoor
namespace PR
open LX (Seg SegF NL)
theorem Tk.cast {l l' : Nat} {ts : List LT} {t : TA} {n d n' d' : Nat} (h : Tk l ts t n d) (hl : l = l') (hn : n = n') (hd : d = d') : Tk l' ts t n' d' := by subst hl hn hd; exact h
theorem Tk.cast' {l : Nat} {ts ts' : List LT} {t : TA} {n d n' d' : Nat} (h : Tk l ts t n d) (ht : ts = ts') (hn : n = n') (hd : d = d') : Tk l ts' t n' d' := by subst ht hn hd; exact h
theorem Tk.le {l l' : Nat} {ts : List LT} {t : TA} {n d : Nat} (h : Tk l ts t n d) (hl : l ≤ l') : Tk l' ts t n d := by
  induction l' with
  | zero => exact h.cast (by omega) rfl rfl
  | succ k ih =>
    by_cases e : l = k + 1
    · exact h.cast e rfl rfl
    · have := ih (by omega)
      cases k with
      | zero => exact .at0 _ _ _ _ this
      | succ k => exact .up _ _ _ _ _ this
theorem seg_cast {p : Nat} {a a' : List UInt8} {ts ts' : List LT} (h : Seg p a ts) (ha : a = a') (ht : ts = ts') : Seg p a' ts' := by subst ha ht; exact h
/-- a sign between gaps -/
theorem seg_sg3 (p : Nat) (c : UInt8) (hc : LX.signs.contains c = true) : SegF p [32, c, 32] [sgT c (p + 1)] :=
  ((LX.seg_gap p 32 (.inl rfl)).app (LX.seg_sign (p + 1) c hc)).app (LX.seg_gap (p + 2) 32 (.inl rfl))
theorem nl32 (l : List UInt8) : NL (32 :: l) := ⟨32, l, rfl, by decide⟩
variable {G : RE → Prop} {N : Nat}
end PR
end Go.Proofs.YtgamknphlmcgnaaGreatDoor
end
section
set_option linter.unusedSimpArgs false
set_option linter.unusedVariables false
set_option maxRecDepth 100000
set_option linter.unnecessarySimpa false
namespace Go.Proofs.YtgamknphlmcgnaaGreatDoor
namespace TA
mutual
/-- are two terms the same, wherever they stand? -/
def same : TA → TA → Bool
  | node _ o _ n r t k ks, u => (o == u.op) && (n == u.name) && sameB r u.re && (t == u.text) && (k == u.back) && (ks.length == u.kids.length) && sames ks u.kids
def sames : List TA → List TA → Bool
  | [], _ => true
  | _ :: _, [] => false
  | k :: ks, l :: ls => same k l && sames ks ls
end
theorem same_eq (t u : TA) : same t u = ((t.op == u.op) && (t.name == u.name) && sameB t.re u.re && (t.text == u.text) && (t.back == u.back) && (t.kids.length == u.kids.length) && sames t.kids u.kids) := by cases t; rfl
theorem bares_length (l : List TA) : (bares l).length = l.length := by rw [bares_map, List.length_map]
mutual
theorem same_of_bare : (t u : TA) → bare t = bare u → same t u = true
  | node _ o _ n r t k ks, node _ o' _ n' r' t' k' ks', h => by
    simp only [bare, node.injEq, true_and] at h
    obtain ⟨h1, h2, h3, h4, h5, h6⟩ := h
    subst h1 h2 h3 h4 h5
    have hl : ks.length = ks'.length := by rw [← bares_length ks, h6, bares_length]
    simp only [same, op, name, re, text, back, kids, sameB, beq_self_eq_true, decide_true, Bool.true_and, hl]
    exact sames_of_bares ks ks' h6
theorem sames_of_bares : (l m : List TA) → bares l = bares m → sames l m = true
  | [], _, _ => rfl
  | k :: l, [], h => by simp [bares] at h
  | k :: l, j :: m, h => by
    simp only [bares, List.cons.injEq] at h
    simp only [sames, same_of_bare k j h.1, sames_of_bares l m h.2, Bool.and_true]
end
end TA
namespace PR
open LX (Seg SegF NL)
variable {G : RE → Prop} {N : Nat} {ts : List LT} {c : Nat}
/-- .. and what of them may stand in a program -/
def Gd (G : RE → Prop) (x : RE) : Prop := G x ∧ big (some x) = false
/-- how deep a term is, as a part of a level -/
def D (l : Nat) (t : TA) (g : Nat) : Prop := t.nest + (if TA.lvl t.op + l < 4 then 1 else 0) ≤ g
variable {g : Nat} {rec : List LT → Nat → Res TA}
def szs (ls : List LetT) : Nat := (ls.map fun l => l.term.size).sum
variable {M : Nat}
end PR
namespace LX
end LX
end Go.Proofs.YtgamknphlmcgnaaGreatDoor
end
section
set_option linter.unusedSimpArgs false
set_option linter.unusedVariables false
set_option maxRecDepth 100000
set_option linter.unnecessarySimpa false
namespace Go.Proofs.YtgamknphlmcgnaaGreatDoor
open Go.RowKit
theorem int_beq (a b : Nat) : (((a : Nat) : Int) == ((b : Nat) : Int)) = (a == b) := by
  by_cases h : a = b
  · subst h; simp
  · rw [beq_eq_false_iff_ne.2 h, beq_eq_false_iff_ne.2 (by omega)]
theorem str_beq (l m : List UInt8) : ((⟨l.toArray⟩ : ByteArray).toList == (⟨m.toArray⟩ : ByteArray).toList) = (l == m) := by
  rw [beq_bytes]
  by_cases h : l = m
  · subst h; simp
  · rw [decide_eq_false h, beq_eq_false_iff_ne.2 h]
theorem bne_of {A : Type} [BEq A] {a b : A} {c : Bool} (h : (a == b) = c) : (a != b) = !c := by rw [bne, h]
def SamAt (w : World) (ks ls : List TA) (R : Bool) (i : Value) (wr : World) : Prop := ∃ k : Nat, k ≤ ks.length ∧ i = .int .i64 k ∧ Hid (TA.sames (ks.drop k) (ls.drop k) = R) ∧ ∃ q, wr = w.drewN q
theorem tm_drop (l : List TA) (k : Nat) (h : k < l.length) : l.drop k = l.getD k TA.none :: l.drop (k + 1) := by
  rw [List.drop_eq_getElem_cons h]; simp [List.getD, h]
set_option maxRecDepth 100000 in
set_option maxHeartbeats 8000000 in
theorem tmSame_any : ∀ (n : Nat) (t u : TA), t.size ≤ n → t.size ≤ 1099511627776 → ∀ (w : World), IsTa w t → IsTa w u → Calls Tryz.prog 35 #[ptr t.b, ptr u.b] w fun e w' => e = .returned (.bool (t.same u)) ∧ ∃ q, w' = w.drewN q
  | 0, t, u, hn, _, _, _, _ => by have := t.size_eq; omega
  | n + 1, t, u, hn, hsz, w, ht, hu => by
    obtain ⟨⟨rv, kp, cap, hnode⟩, hkt⟩ := ht.open
    obtain ⟨⟨rv', kp', cap', hnode'⟩, hku⟩ := hu.open
    have HE : Hid (t.same u = ((t.op == u.op) && (t.name == u.name) && sameB t.re u.re && (t.text == u.text) && (t.back == u.back) && (t.kids.length == u.kids.length) && TA.sames t.kids u.kids)) := TA.same_eq t u
    have HIH : Hid (∀ k ∈ t.kids, ∀ j ∈ u.kids, ∀ q, Calls Tryz.prog 35 #[ptr k.b, ptr j.b] (w.drewN q) fun e w' => e = .returned (.bool (k.same j)) ∧ ∃ p, w' = (w.drewN q).drewN p) := fun k hk j hj q => tmSame_any n k j (by have := TA.kid_size hk; omega) (by have := TA.kid_size hk; omega) (w.drewN q) ((hkt k hk).later (ext_drewN (Below.refl _ _) q)) ((hku j hj).later (ext_drewN (Below.refl _ _) q))
    have HR := Lib.hid hnode.2.2
    have HR' := Lib.hid hnode'.2.2
    have HS := Lib.hid (fun q => Same_any rv rv' t.re u.re (w.drewN q) (hnode.2.1.later (ext_drewN (Below.refl _ _) q)) (hnode'.2.1.later (ext_drewN (Below.refl _ _) q)))
    obtain ⟨c0, _, c2, c3, c4, c5, c6⟩ := hnode.cells
    obtain ⟨d0, _, d2, d3, d4, d5, d6⟩ := hnode'.cells
    have e1 := int_beq t.op u.op
    have e2 := str_beq t.name u.name
    have e4 := str_beq t.text u.text
    have e5 := str_beq t.back u.back
    have e6 := int_beq t.kids.length u.kids.length
    have HL : Hid ((t.kids.length == u.kids.length) = true → t.kids.length = u.kids.length) := fun h => by simpa using h
    have hll : t.kids.length ≤ 1099511627776 := by
      have : ∀ l : List TA, l.length ≤ TA.sizes l := by
        intro l
        induction l with
        | nil => simp
        | cons a l ih => have := a.size_eq; simp [TA.sizes]; omega
      have := this t.kids; have := t.size_eq; omega
    clear hnode hnode' hkt hku ht hu hn hsz
    generalize (t.op == u.op) = b1 at *
    generalize (t.name == u.name) = b2 at *
    generalize sameB t.re u.re = b3 at *
    generalize (t.text == u.text) = b4 at *
    generalize (t.back == u.back) = b5 at *
    generalize hb6 : (t.kids.length == u.kids.length) = b6 at *
    clear hb6
    generalize t.same u = out at *
    generalize (t.op : Int) = o1 at *
    generalize (u.op : Int) = o2 at *
    generalize (⟨t.name.toArray⟩ : ByteArray) = n1 at *
    generalize (⟨u.name.toArray⟩ : ByteArray) = n2 at *
    generalize (⟨t.text.toArray⟩ : ByteArray) = x1 at *
    generalize (⟨u.text.toArray⟩ : ByteArray) = x2 at *
    generalize (⟨t.back.toArray⟩ : ByteArray) = k1 at *
    generalize (⟨u.back.toArray⟩ : ByteArray) = k2 at *
    generalize t.kids = ks at *
    generalize u.kids = ls at *
    generalize t.b = b at *
    generalize u.b = bu at *
    have f1 := bne_of e1
    have f2 := bne_of e2
    have f4 := bne_of e4
    have f5 := bne_of e5
    have f6 := bne_of e6
    obtain ⟨S, hSd⟩ : ∃ S : World → Prop, ∀ W', S W' ↔ ∃ q, W' = w.drewN q := ⟨_, fun _ => Iff.rfl⟩
    have HSD := Lib.hid hSd
    have hS0 : S w.drew := (hSd _).2 ⟨1, rfl⟩
    have hne : Nonempty (InC S) := ⟨⟨_, hS0⟩⟩
    have HC0 : Hid (∀ p : InC S, Calls Tryz.prog 26 #[rv, rv'] p.w fun e w' => e = .returned (.bool b3) ∧ ∃ q : InC S, w' = q.w) := fun p => by
      obtain ⟨q, hq⟩ := (hSd p.w).1 p.h
      rw [hq]
      exact (HS.out q).mono fun e w' ⟨he, hw⟩ => ⟨he, ⟨w', (hSd _).2 ⟨q, hw⟩⟩, rfl⟩
    have cs : ∀ p : InC S, (p.w.cell? ⟨b, 0, none⟩ = some (.int .i64 o1) ∧ p.w.cell? ⟨b, 2, none⟩ = some (.string n1) ∧ p.w.cell? ⟨b, 3, none⟩ = some rv ∧ p.w.cell? ⟨b, 4, none⟩ = some (.string x1) ∧ p.w.cell? ⟨b, 5, none⟩ = some (.string k1) ∧ p.w.cell? ⟨b, 6, none⟩ = some (.slice kp ks.length cap)) ∧
        p.w.cell? ⟨bu, 0, none⟩ = some (.int .i64 o2) ∧ p.w.cell? ⟨bu, 2, none⟩ = some (.string n2) ∧ p.w.cell? ⟨bu, 3, none⟩ = some rv' ∧ p.w.cell? ⟨bu, 4, none⟩ = some (.string x2) ∧ p.w.cell? ⟨bu, 5, none⟩ = some (.string k2) ∧ p.w.cell? ⟨bu, 6, none⟩ = some (.slice kp' ls.length cap') := fun p => by
      obtain ⟨q, hq⟩ := (hSd p.w).1 p.h
      rw [hq]
      exact ⟨⟨c0, c2, c3, c4, c5, c6⟩, d0, d2, d3, d4, d5, d6⟩
    have HC6 := Lib.hid c6
    have HD6 := Lib.hid d6
    clear hSd c0 c2 c3 c4 c5 c6 d0 d2 d3 d4 d5 d6
    cases b1 with
    | false =>
      go_enter Tryz.func35, Tryz.ntmps35
      go_wp2_with fail
      (try simp only [List.append, List.cons_append, List.nil_append])
      refine wp_region_class S (by kernel_rfl) (by kernel_rfl) hS0 ?_
      repeat (go_big_quiet_step (with_reducible exact HC0.out _))
      refine wpQuiet_nil ?_
      intro p
      obtain ⟨q9, hq9⟩ := (HSD.out p.w).1 p.h
      rw [hq9]
      clear cs hne hS0 hq9 p
      have c6 := HC6.out
      have d6 := HD6.out
      go_wp2_with fail
      go_ret
      exact ⟨by rw [HE.out]; rfl, _, rfl⟩
    | true =>
      cases b2 with
      | false =>
        go_enter Tryz.func35, Tryz.ntmps35
        go_wp2_with fail
        (try simp only [List.append, List.cons_append, List.nil_append])
        refine wp_region_class S (by kernel_rfl) (by kernel_rfl) hS0 ?_
        repeat (go_big_quiet_step (with_reducible exact HC0.out _))
        refine wpQuiet_nil ?_
        intro p
        obtain ⟨q9, hq9⟩ := (HSD.out p.w).1 p.h
        rw [hq9]
        clear cs hne hS0 hq9 p
        have c6 := HC6.out
        have d6 := HD6.out
        go_wp2_with fail
        go_ret
        exact ⟨by rw [HE.out]; rfl, _, rfl⟩
      | true =>
        cases b3 with
        | false =>
          go_enter Tryz.func35, Tryz.ntmps35
          go_wp2_with fail
          (try simp only [List.append, List.cons_append, List.nil_append])
          refine wp_region_class S (by kernel_rfl) (by kernel_rfl) hS0 ?_
          repeat (go_big_quiet_step (with_reducible exact HC0.out _))
          refine wpQuiet_nil ?_
          intro p
          obtain ⟨q9, hq9⟩ := (HSD.out p.w).1 p.h
          rw [hq9]
          clear cs hne hS0 hq9 p
          have c6 := HC6.out
          have d6 := HD6.out
          go_wp2_with fail
          go_ret
          exact ⟨by rw [HE.out]; rfl, _, rfl⟩
        | true =>
          cases b4 with
          | false =>
            go_enter Tryz.func35, Tryz.ntmps35
            go_wp2_with fail
            (try simp only [List.append, List.cons_append, List.nil_append])
            refine wp_region_class S (by kernel_rfl) (by kernel_rfl) hS0 ?_
            repeat (go_big_quiet_step (with_reducible exact HC0.out _))
            refine wpQuiet_nil ?_
            intro p
            obtain ⟨q9, hq9⟩ := (HSD.out p.w).1 p.h
            rw [hq9]
            clear cs hne hS0 hq9 p
            have c6 := HC6.out
            have d6 := HD6.out
            go_wp2_with fail
            go_ret
            exact ⟨by rw [HE.out]; rfl, _, rfl⟩
          | true =>
            cases b5 with
            | false =>
              go_enter Tryz.func35, Tryz.ntmps35
              go_wp2_with fail
              (try simp only [List.append, List.cons_append, List.nil_append])
              refine wp_region_class S (by kernel_rfl) (by kernel_rfl) hS0 ?_
              repeat (go_big_quiet_step (with_reducible exact HC0.out _))
              refine wpQuiet_nil ?_
              intro p
              obtain ⟨q9, hq9⟩ := (HSD.out p.w).1 p.h
              rw [hq9]
              clear cs hne hS0 hq9 p
              have c6 := HC6.out
              have d6 := HD6.out
              go_wp2_with fail
              go_ret
              exact ⟨by rw [HE.out]; rfl, _, rfl⟩
            | true =>
              cases b6 with
              | false =>
                go_enter Tryz.func35, Tryz.ntmps35
                go_wp2_with fail
                (try simp only [List.append, List.cons_append, List.nil_append])
                refine wp_region_class S (by kernel_rfl) (by kernel_rfl) hS0 ?_
                repeat (go_big_quiet_step (with_reducible exact HC0.out _))
                refine wpQuiet_nil ?_
                intro p
                obtain ⟨q9, hq9⟩ := (HSD.out p.w).1 p.h
                rw [hq9]
                clear cs hne hS0 hq9 p
                have c6 := HC6.out
                have d6 := HD6.out
                go_wp2_with fail
                go_ret
                exact ⟨by rw [HE.out]; rfl, _, rfl⟩
              | true =>
                have hlen := HL.out rfl
                go_enter Tryz.func35, Tryz.ntmps35
                go_wp2_with fail
                (try simp only [List.append, List.cons_append, List.nil_append])
                refine wp_region_class S (by kernel_rfl) (by kernel_rfl) hS0 ?_
                repeat (go_big_quiet_step (with_reducible exact HC0.out _))
                refine wpQuiet_nil ?_
                intro p
                obtain ⟨q9, hq9⟩ := (HSD.out p.w).1 p.h
                rw [hq9]
                clear cs hne hS0 hq9 p
                have c6 := HC6.out
                have d6 := HD6.out
                go_wp2_with fail
                clear e1 e2 e4 e5 e6 f1 f2 f4 f5 f6
                go_loopw [88] (fun i wr => SamAt w ks ls out i wr) (fun i _ => ks.length - (intOf i).toNat)
                case atStart => exact ⟨0, by omega, rfl, by show _ = _; rw [HE.out]; rfl, _, rfl⟩
                case round =>
                  obtain ⟨k, hk, rfl, hgo, q0, rfl⟩ := hrel
                  by_cases hlt : k < ks.length
                  · obtain ⟨kb, ko, rfl, hc⟩ := HR.out.at (fun e => by rw [e] at hlt; simp at hlt)
                    obtain ⟨kb', ko', rfl, hc'⟩ := HR'.out.at (fun e => by have h9 : ls.length = 0 := (congrArg List.length e).trans rfl; omega)
                    have hp := hc k hlt
                    have hp' := hc' k (by omega)
                    have hmem : ks.getD k TA.none ∈ ks := by simp [List.getD, hlt]
                    have hlt' : k < ls.length := by omega
                    have hmem' : ls.getD k TA.none ∈ ls := by simp [List.getD, hlt']
                    have HC := Lib.hid (HIH.out _ hmem _ hmem' q0)
                    have HNX : Hid (((ks.getD k TA.none).same (ls.getD k TA.none) && TA.sames (ks.drop (k + 1)) (ls.drop (k + 1))) = out) := by
                      show _ = _
                      have := hgo.out
                      rw [tm_drop ks k hlt, tm_drop ls k (by omega)] at this
                      exact this
                    clear hc hc' hmem hmem' hgo
                    generalize (ks.getD k TA.none).same (ls.getD k TA.none) = q at *
                    generalize (ks.getD k TA.none).b = b1 at *
                    generalize (ls.getD k TA.none).b = b2 at *
                    cases q with
                    | true =>
                      have HN2 : Hid (TA.sames (ks.drop (k + 1)) (ls.drop (k + 1)) = out) := Lib.hid (by have := HNX.out; simpa using this)
                      clear HNX
                      go_wp2_with fail
                      refine HC.out.mono ?_
                      rintro e w2 ⟨rfl, q1, rfl⟩
                      go_wp2_with fail
                      go_roundw
                      case rel => exact ⟨k + 1, by omega, by go_num, HN2, q0 + q1, by first | rfl | rw [World.drewN_drewN]⟩
                      case measure => simp [intOf]; omega
                    | false =>
                      have HN2 : Hid (out = false) := Lib.hid (by have := HNX.out; simpa using this.symm)
                      clear HNX
                      go_wp2_with fail
                      refine HC.out.mono ?_
                      rintro e w2 ⟨rfl, q1, rfl⟩
                      go_wp2_with fail
                      go_ret
                      exact ⟨by rw [HN2.out]; rfl, _, by first | rfl | rw [World.drewN_drewN]⟩
                  · obtain rfl : k = ks.length := by omega
                    have HN2 : Hid (out = true) := Lib.hid (by
                      have := hgo.out
                      rw [List.drop_length] at this
                      exact this.symm)
                    clear hgo
                    go_wp2_with fail
                    go_ret
                    exact ⟨by rw [HN2.out]; rfl, _, by first | rfl | rw [World.drewN_drewN]⟩
end Go.Proofs.YtgamknphlmcgnaaGreatDoor
end
section
set_option linter.unusedSimpArgs false
set_option linter.unusedVariables false
set_option maxRecDepth 100000
set_option linter.unnecessarySimpa false
namespace Go.Proofs.YtgamknphlmcgnaaGreatDoor
namespace PR
open LX (Seg SegF NL)
/-- the names that pieces have -/
def nmL : List (List UInt8) := [[120], [121, 49], [108, 105, 110, 101, 95], [95]]
def nmN (n : Int) : List UInt8 := nmL.getD (lowN n 3) []
theorem nmL_name : ∀ i, i ≤ 3 → LX.nameB (nmL.getD i []) = true ∧ (nmL.getD i []).length ≤ 5 := by decide
theorem nmN_name (n : Int) : LX.nameB (nmN n) = true ∧ (nmN n).length ≤ 5 := nmL_name _ (lowN_eq n 3 (by decide)).2
/-- put together: the last sign that holds least parts them -/
inductive FoldR (ops : List Nat) : Nat → Nat → TA → Prop
  | leaf (a : Nat) (m : TA) (hm : m.bare = TA.node 0 0 0 (nmN (a : Int)) none [] [] []) : FoldR ops a a m
  | node (a e i l : Nat) (x y m : TA) (hl : l ≤ 2) (h1 : a ≤ i) (h2 : i < e) (hi : ops.getD i 0 = l) (hall : ∀ j, a ≤ j → j < e → l ≤ ops.getD j 0) (hlast : ∀ j, i < j → j < e → l < ops.getD j 0)
      (hx : FoldR ops a i x) (hy : FoldR ops (i + 1) e y) (hm : m.bare = TA.node 0 (opc l) 0 [] none [] [] [x.bare, y.bare]) : FoldR ops a e m
/-- so many of them as a text -/
def sx (ops : List Nat) : Nat → Nat → List UInt8
  | a, 0 => nmN (a : Int)
  | a, n + 1 => nmN (a : Int) ++ ([32, sgn (ops.getD a 0), 32] ++ sx ops (a + 1) n)
theorem sx_split (ops : List Nat) : ∀ (n a b : Nat), sx ops a (n + 1 + b) = sx ops a n ++ [32, sgn (ops.getD (a + n) 0), 32] ++ sx ops (a + n + 1) b
  | 0, a, b => by
    rw [show 0 + 1 + b = b + 1 by omega, sx, sx, List.append_assoc]; rfl
  | n + 1, a, b => by
    rw [show n + 1 + 1 + b = (n + 1 + b) + 1 by omega, sx, sx_split ops n (a + 1) b, sx, show a + 1 + n = a + (n + 1) by omega]
    simp
theorem sx_len (ops : List Nat) : ∀ n a, (sx ops a n).length ≤ 8 * n + 5
  | 0, a => by have := (nmN_name (a : Int)).2; rw [sx]; omega
  | n + 1, a => by
    have h1 := (nmN_name (a : Int)).2
    have h2 := sx_len ops n (a + 1)
    rw [sx, List.length_append, List.length_append]
    simp only [List.length_cons, List.length_nil]; omega
theorem sg_sign (l : Nat) : LX.signs.contains (sgn l) = true := by
  unfold sgn; split
  · decide
  · split <;> decide
theorem fold_tk {ops : List Nat} {a e : Nat} {m : TA} (h : FoldR ops a e m) : ∀ L, L ≤ 3 → (∀ j, a ≤ j → j < e → L ≤ ops.getD j 0) → ∀ p, ∃ ts t', Seg p (sx ops a (e - a)) ts ∧ Tk (4 - L) ts t' (2 * (e - a) + 1) 0 ∧ t'.bare = m.bare := by
  induction h with
  | leaf a m hm =>
    intro L hL _ p
    rw [Nat.sub_self]
    refine ⟨_, _, LX.seg_name p (nmN_name (a : Int)).1, (Tk.name ⟨1, nmN (a : Int), none, p⟩ ⟨rfl, (nmN_name (a : Int)).1⟩).le (by omega), ?_⟩
    rw [hm]; rfl
  | node a e i l x y m hl h1 h2 hi hall hlast hx hy hm ihx ihy =>
    intro L hL hall' p
    have hLl : L ≤ l := by have := hall' i h1 h2; omega
    obtain ⟨ts, x', s1, k1, b1⟩ := ihx l (by omega) (fun j h3 h4 => hall j h3 (by omega)) p
    have g1 := s1.app (seg_sg3 _ (sgn l) (sg_sign l)) (nl32 _)
    obtain ⟨ts', y', s2, k2, b2⟩ := ihy (l + 1) (by omega) (fun j h3 h4 => hlast j (by omega) h4) (p + (sx ops a (i - a) ++ [32, sgn l, 32]).length)
    have e1 : sx ops a (e - a) = sx ops a (i - a) ++ [32, sgn l, 32] ++ sx ops (i + 1) (e - (i + 1)) := by
      have := sx_split ops (i - a) a (e - (i + 1))
      rw [show i - a + 1 + (e - (i + 1)) = e - a by omega, show a + (i - a) = i by omega, hi] at this
      exact this
    rw [e1]
    have k1 : Tk ((2 - l) + 2) ts x' _ 0 := k1.cast (by omega) rfl rfl
    have k2 : Tk ((2 - l) + 1) ts' y' _ 0 := k2.cast (by omega) rfl rfl
    have k3 := Tk.bin (2 - l) (p + (sx ops a (i - a)).length + 1) (by omega) _ _ _ _ _ _ _ _ k1 k2
    rw [show 2 - (2 - l) = l by omega] at k3
    refine ⟨_, _, g1.app_seg s2, (k3.le (l' := 4 - L) (by omega)).cast' ?_ (by omega) (by simp), ?_⟩
    · simp [sgT]
    · rw [hm]; simp only [TA.bare, TA.bares, b1, b2]
theorem last_of (P : Nat → Prop) (a : Nat) : ∀ e, (∃ j, a ≤ j ∧ j < e ∧ P j) → ∃ i, a ≤ i ∧ i < e ∧ P i ∧ ∀ j, i < j → j < e → ¬ P j
  | 0, ⟨j, _, h, _⟩ => by omega
  | e + 1, ⟨j, h1, h2, h3⟩ => by
    by_cases h : P e
    · by_cases hae : a ≤ e
      · exact ⟨e, hae, by omega, h, fun k h4 h5 => by omega⟩
      · omega
    · have hje : j ≠ e := fun x => h (x ▸ h3)
      obtain ⟨i, g1, g2, g3, g4⟩ := last_of P a e ⟨j, h1, by omega, h3⟩
      exact ⟨i, g1, by omega, g3, fun k h5 h6 hk => by
        by_cases hke : k = e
        · exact h (hke ▸ hk)
        · exact g4 k h5 (by omega) hk⟩
theorem fold_ex {ops : List Nat} (hops : ∀ j, ops.getD j 0 ≤ 2) : ∀ (n a e : Nat), e - a < n → a ≤ e → ∃ m, FoldR ops a e m
  | 0, a, e, hn, _ => by omega
  | n + 1, a, e, hn, hae => by
    have go : ∀ l i, l ≤ 2 → a ≤ i → i < e → ops.getD i 0 = l → (∀ j, a ≤ j → j < e → l ≤ ops.getD j 0) → (∀ j, i < j → j < e → ¬ ops.getD j 0 = l) → ∃ m, FoldR ops a e m := fun l i hl h1 h2 h3 h4 h5 => by
      obtain ⟨x, hx⟩ := fold_ex hops n a i (by omega) (by omega)
      obtain ⟨y, hy⟩ := fold_ex hops n (i + 1) e (by omega) (by omega)
      exact ⟨_, .node a e i l x y _ hl h1 h2 h3 h4 (fun j g1 g2 => by have := h4 j (by omega) g2; have := h5 j g1 g2; omega) hx hy (show (TA.node 0 (opc l) 0 [] none [] [] [x, y]).bare = _ from rfl)⟩
    by_cases h0 : ∃ j, a ≤ j ∧ j < e ∧ ops.getD j 0 = 0
    · obtain ⟨i, g1, g2, g3, g4⟩ := last_of (fun j => ops.getD j 0 = 0) a e h0
      exact go 0 i (by omega) g1 g2 g3 (fun j _ _ => Nat.zero_le _) g4
    by_cases h1 : ∃ j, a ≤ j ∧ j < e ∧ ops.getD j 0 = 1
    · obtain ⟨i, g1, g2, g3, g4⟩ := last_of (fun j => ops.getD j 0 = 1) a e h1
      refine go 1 i (by omega) g1 g2 g3 (fun j k1 k2 => ?_) g4
      have : ops.getD j 0 ≠ 0 := fun h => h0 ⟨j, k1, k2, h⟩
      omega
    have h2 : ∀ j, a ≤ j → j < e → ops.getD j 0 = 2 := fun j k1 k2 => by
      have g1 : ops.getD j 0 ≠ 0 := fun h => h0 ⟨j, k1, k2, h⟩
      have g2 : ops.getD j 0 ≠ 1 := fun h => h1 ⟨j, k1, k2, h⟩
      have := hops j; omega
    by_cases hlt : a < e
    · refine go 2 (e - 1) (by omega) (by omega) (by omega) (h2 _ (by omega) (by omega)) (fun j k1 k2 => by rw [h2 j k1 k2]; omega) (fun j k1 k2 => by omega)
    · obtain rfl : a = e := by omega
      exact ⟨_, .leaf a (TA.node 0 0 0 (nmN (a : Int)) none [] [] []) rfl⟩
/-- stars behind a name -/
def stT : Nat → TA
  | 0 => TA.node 0 0 0 [122] none [] [] []
  | n + 1 => TA.node 0 9 0 [] none [] [] [stT n]
theorem st_tk (p : Nat) : ∀ n, ∃ ts t', Seg p ([122] ++ List.replicate n 42) ts ∧ Tk 1 ts t' (n + 1) 0 ∧ t'.bare = stT n
  | 0 => ⟨_, _, LX.seg_name p (show LX.nameB [122] = true by decide), (Tk.name ⟨1, [122], none, p⟩ ⟨rfl, by show LX.nameB [122] = true; decide⟩).le (by omega), rfl⟩
  | n + 1 => by
    obtain ⟨ts, t', h1, h2, h3⟩ := st_tk p n
    have g := h1.app (LX.seg_sign _ 42 (by decide)) ⟨42, [], rfl, by decide⟩
    refine ⟨_, _, seg_cast g.seg ?_ rfl, Tk.sta _ _ _ _ _ h2, ?_⟩
    · rw [List.replicate_succ', List.append_assoc]
    · simp only [TA.bare, TA.bares, h3, stT]
theorem lev_parse {ops : List Nat} (hl : ops.length ≤ 30) {m : TA} (h : FoldR ops 0 ops.length m) : ∃ b, parseW (sx ops 0 ops.length) = (some ([], b), 0, 0) ∧ b.bare = m.bare := by
  obtain ⟨ts, t', h1, h2, h3⟩ := fold_tk h 0 (by omega) (fun _ _ _ => Nat.zero_le _) 0
  rw [Nat.sub_zero] at h1 h2
  have := sx_len ops ops.length 0
  exact ⟨t', parseW_of h1.whole (by omega) (TkP.body _ rfl _ _ _ _ h2 (by omega)) (by omega) (by simp), h3⟩
theorem star_parse {ops : List Nat} (hl : ops.length ≤ 30) {m : TA} (h : FoldR ops 0 ops.length m) (n : Nat) (hn : n ≤ 3) : ∃ b, parseW (sx ops 0 ops.length ++ [32, 124, 32, 122] ++ List.replicate n 42) = (some ([], b), 0, 0) ∧ b.bare = TA.node 0 7 0 [] none [] [] [m.bare, stT n] := by
  obtain ⟨ts, t', h1, h2, h3⟩ := fold_tk h 0 (by omega) (fun _ _ _ => Nat.zero_le _) 0
  rw [Nat.sub_zero] at h1 h2
  have := sx_len ops ops.length 0
  have g1 := h1.app (seg_sg3 _ 124 (by decide)) (nl32 _)
  obtain ⟨ts', u, s1, s2, s3⟩ := st_tk (0 + (sx ops 0 ops.length ++ [32, 124, 32]).length) n
  have g2 := g1.app_seg s1
  have k3 := Tk.bin 2 (0 + (sx ops 0 ops.length).length + 1) (by omega) _ _ _ _ _ _ _ _ h2 (s2.le (show 1 ≤ 3 by omega))
  refine ⟨_, parseW_of (seg_cast g2 ?_ ?_).whole ?_ (TkP.body _ rfl _ _ _ _ k3 (by omega)) (by omega) (by simp), ?_⟩
  · simp
  · simp [sgT, sgn]
  · simp; omega
  · simp only [TA.bare, TA.bares, h3, s3]; rfl
end PR
end Go.Proofs.YtgamknphlmcgnaaGreatDoor
end
section
set_option linter.unusedSimpArgs false
set_option linter.unusedVariables false
set_option maxRecDepth 100000
set_option linter.unnecessarySimpa false
namespace Go.Proofs.YtgamknphlmcgnaaGreatDoor
open Go.RowKit
theorem nm15_any (n : Int) (w : World) : Calls Tryz.prog 39 #[.int .i64 n] w (StrPost (PR.nmN n) w) := by
  obtain ⟨hu, hl⟩ := lowN_eq n 3 (by omega)
  have hu : bits .and .i64 n 3 = (lowN n 3 : Nat) := hu
  have HO : Hid (PR.nmN n = PR.nmL.getD (lowN n 3) []) := rfl
  generalize lowN n 3 = m at *
  have hB := ext_alloc (Below.refl w.heap.size w) (.cells #[.string ⟨#[120]⟩, .string ⟨#[121, 49]⟩, .string ⟨#[108, 105, 110, 101, 95]⟩, .string ⟨#[95]⟩] 9)
  have hm : m = 0 ∨ m = 1 ∨ m = 2 ∨ m = 3 := by omega
  generalize PR.nmN n = t at *
  clear hl
  rcases hm with rfl | rfl | rfl | rfl
  all_goals
    go_enter Tryz.func39, Tryz.ntmps39
    go_wp2_with fail
    go_ret
    exact ⟨by rw [HO.out]; rfl, hB⟩
/-- whole numbers in a row -/
def IntsN (w : World) (v : Value) (xs : List Nat) : Prop := ∃ kp cap, v = .slice kp xs.length cap ∧ (xs = [] ∨ ∃ b off, kp = some ⟨b, off, none⟩ ∧ ∀ i, i < xs.length → w.cell? ⟨b, off + i, none⟩ = some (.int .i64 (xs.getD i 0 : Nat)))
theorem IntsN.later {w w1 : World} {v : Value} {xs : List Nat} (h : IntsN w v xs) (hb : Below w.heap.size w w1) : IntsN w1 v xs := by
  obtain ⟨kp, cap, hv, h⟩ := h
  refine ⟨kp, cap, hv, ?_⟩
  rcases h with h | ⟨b, off, ha, hc⟩
  · exact .inl h
  · refine .inr ⟨b, off, ha, fun i hi => ?_⟩
    have := World.block_lt_of_cell? w _ (hc i hi)
    rw [hb.cell (p := ⟨b, off + i, none⟩) this]; exact hc i hi
theorem RowT.later {w w' : World} {kp : Option Addr} {bs : List Nat} (h : RowT w kp bs) (hb : Below w.heap.size w w') : RowT w' kp bs := h.keep fun kb _ _ _ _ hc => hb.block kb (Array.getElem?_eq_some_iff.1 hc).1
theorem RowT.two (W : World) (b c : Nat) : RowT (W.alloc (.cells #[ptr b, ptr c] 62)) (some ⟨W.heap.size, 0, none⟩) [b, c] := .inr ⟨W.heap.size, 0, _, _, rfl, heap_alloc_last _ _, fun i hi => by
  rw [cell_of_row _ _ _ _ _ _ (heap_alloc_last _ _)]
  match i, hi with
  | 0, _ => rfl
  | 1, _ => rfl⟩
theorem RowT.twoN (W : World) (b c n : Nat) (hn : n = W.heap.size) : RowT (W.alloc (.cells #[ptr b, ptr c] 62)) (some ⟨n, 0, none⟩) [b, c] := by rw [hn]; exact RowT.two W b c
theorem RowT.one (W : World) (b : Nat) : RowT (W.alloc (.cells #[ptr b] 62)) (some ⟨W.heap.size, 0, none⟩) [b] := .inr ⟨W.heap.size, 0, _, _, rfl, heap_alloc_last _ _, fun i hi => by
  rw [cell_of_row _ _ _ _ _ _ (heap_alloc_last _ _)]
  match i, hi with
  | 0, _ => rfl⟩
/-- a term that is laid new -/
theorem IsTa.new {W : World} (o : Nat) (nm : List UInt8) (kp : Option Addr) (cap : Nat) (ks : List TA) (hr : RowT W kp (ks.map TA.b)) (hk : ∀ k ∈ ks, IsTa W k) :
    IsTa (W.alloc (.cells (tmCells o 0 nm (.pointer none) [] [] (.slice kp ks.length cap)) 68)) (.node W.heap.size o 0 nm none [] [] ks) :=
  IsTa.mk (rv := .pointer none) (kp := kp) (cap := cap) ⟨heap_alloc_last _ _, rfl, hr.later (re_alloc _ _)⟩ fun k hk' => (hk k hk').later (re_alloc _ _)
theorem lt_alloc (w : World) (o : Obj) {n : Nat} (h : (w.alloc o).heap.size ≤ n) : w.heap.size < n := by
  rw [World.size_alloc] at h; omega
theorem cell_alloc (w : World) (cs : Array Value) (T : TypeId) (j : Nat) {v : Value} {w' : World} (hc : cs[j]? = some v) (hb : Below (w.alloc (.cells cs T)).heap.size (w.alloc (.cells cs T)).drew w') : w'.cell? ⟨w.heap.size, j, none⟩ = some v := by
  rw [hb.cell (p := ⟨w.heap.size, j, none⟩) (by rw [World.size_alloc]; show w.heap.size < _; omega)]
  show (w.alloc (.cells cs T)).cell? _ = _
  rw [cell_of_row _ _ _ _ _ _ (heap_alloc_last _ _)]; exact hc
theorem cell_alloc2 (w : World) (cs : Array Value) (T : TypeId) (j : Nat) {v : Value} {w' : World} (hc : cs[j]? = some v) (hb : Below (w.alloc (.cells cs T)).heap.size (w.alloc (.cells cs T)) w') : w'.cell? ⟨w.heap.size, j, none⟩ = some v := cell_alloc w cs T j hc ⟨hb.os, hb.tape, hb.output, hb.size, hb.block⟩
def FoldPost (ops : List Nat) (a e : Nat) (w : World) (en : Ending) (w' : World) : Prop := ∃ t : TA, en = .returned (ptr t.b) ∧ IsTa w' t ∧ PR.FoldR ops a e t ∧ Below w.heap.size w w' ∧ t.size = 2 * (e - a) + 1
def FoL (ops : List Nat) (a e : Nat) (w : World) (lv : Value) (wr : World) : Prop := ∃ l : Nat, l ≤ 3 ∧ lv = .int .i64 l ∧ Hid (∀ j, a ≤ j → j < e → l ≤ ops.getD j 0) ∧ wr = w
def FoI (ops : List Nat) (a e l : Nat) (w : World) (iv : Value) (wr : World) : Prop := ∃ i : Nat, a ≤ i ∧ i ≤ e ∧ iv = .int .i64 ((i : Int) - 1) ∧ Hid (∀ j, i ≤ j → j < e → l < ops.getD j 0) ∧ wr = w
set_option maxRecDepth 100000 in
set_option maxHeartbeats 4000000 in
theorem fold_any (ops : List Nat) (hops : ∀ j, ops.getD j 0 ≤ 2) (hlen : ops.length ≤ 1000) : ∀ (n a e : Nat), e - a < n → a ≤ e → e ≤ ops.length → ∀ (v : Value) (w : World), IntsN w v ops → Calls Tryz.prog 40 #[v, .int .i64 a, .int .i64 e] w (FoldPost ops a e w)
  | 0, a, e, hn, _, _, _, _, _ => by omega
  | n + 1, a, e, hn, hae, hel, v, w, hv => by
    have HIH : Hid (∀ (x y : Int), 0 ≤ x → x ≤ y → y ≤ ops.length → y - x < n → ∀ W, IntsN W v ops → Calls Tryz.prog 40 #[v, .int .i64 x, .int .i64 y] W (FoldPost ops x.toNat y.toNat W)) := fun x y h1 h2 h3 h4 W hW => by
      have := fold_any ops hops hlen n x.toNat y.toNat (by omega) (by omega) (by omega) v W hW
      rw [show ((x.toNat : Nat) : Int) = x by omega, show ((y.toNat : Nat) : Int) = y by omega] at this
      exact this
    have HV : Hid (∀ W, Below w.heap.size w W → IntsN W v ops) := fun W hW => hv.later hW
    obtain ⟨kp, cap, rfl, hrow⟩ := hv
    have HR := Lib.hid hrow
    have HO := Lib.hid hops
    clear hrow hops
    go_enter Tryz.func40, Tryz.ntmps40
    go_wp2_with fail
    go_loopw [7] (fun lv wr => FoL ops a e w lv wr) (fun lv _ => 3 - (intOf lv).toNat)
    case atStart => exact ⟨0, by omega, rfl, fun j _ _ => Nat.zero_le _, rfl⟩
    case round =>
      obtain ⟨l, hl, rfl, hall, rfl⟩ := hrel
      have HALL := hall
      have hall2 := hall
      by_cases hl3 : l < 3
      · go_wp2_with fail
        go_loopw [8] (fun iv W => FoI ops a e l wr iv W) (fun iv _ => (intOf iv + 1).toNat - a)
        case atStart => exact ⟨e, hae, by omega, by go_num, fun j h1 h2 => by omega, rfl⟩
        case round =>
          clear hall
          obtain ⟨i, hai, hie, rfl, hlast, rfl⟩ := hrel
          by_cases hlt : a < i
          · obtain ⟨j, rfl⟩ : ∃ j, i = j + 1 := ⟨i - 1, by omega⟩
            have ej : (((j + 1 : Nat) : Int) - 1) = (j : Int) := by omega
            rw [ej]
            rcases HR.out with hnil | ⟨B, off, rfl, hcell⟩
            · rw [hnil] at hel; simp at hel; omega
            have hc := hcell j (by omega)
            have h2 := HO.out j
            obtain ⟨x, hx⟩ : ∃ x, ops.getD j 0 = x := ⟨_, rfl⟩
            have HX := Lib.hid hx
            rw [hx] at hc h2
            clear hcell hx
            by_cases hxl : x = l
            · subst hxl
              have hbl := World.block_lt_of_cell? wr _ hc
              have hx3 : x = 0 ∨ x = 1 ∨ x = 2 := by omega
              have HN : Hid (∀ (X Y : TA) (W : World) (kp : Option Addr) (cap nb : Nat), nb = W.heap.size → IsTa W X → IsTa W Y → RowT W kp [X.b, Y.b] → PR.FoldR ops a j X → PR.FoldR ops (j + 1) e Y → X.size = 2 * (j - a) + 1 → Y.size = 2 * (e - (j + 1)) + 1 → Below wr.heap.size wr W → FoldPost ops a e wr (.returned (ptr nb)) (W.alloc (.cells (tmCells (PR.opc x) 0 [] (.pointer none) [] [] (.slice kp 2 cap)) 68)))   := fun X Y W kp cap nb hnb hX hY hr hfX hfY hsX hsY hb => by
                subst hnb
                refine ⟨.node W.heap.size (PR.opc x) 0 [] none [] [] [X, Y], rfl, IsTa.new (PR.opc x) [] kp cap [X, Y] hr (fun k hk => ?_), ?_, ext_alloc hb _, ?_⟩
                · simp only [List.mem_cons, List.not_mem_nil, or_false] at hk
                  rcases hk with rfl | rfl
                  · exact hX
                  · exact hY
                · exact .node a e j x X Y _ (by omega) (by omega) (by omega) HX.out HALL.out (fun k h1 h2 => hlast.out k (by omega) h2) hfX hfY rfl
                · simp only [TA.size, TA.sizes, hsX, hsY]; omega
              have HA : Hid (∀ W, Below wr.heap.size wr W → Calls Tryz.prog 40 #[.slice (some ⟨B, off, none⟩) ops.length cap, .int .i64 (a : Int), .int .i64 (j : Int)] W (FoldPost ops a j W)) := fun W hW => by
                have := HIH.out (a : Int) (j : Int) (by omega) (by omega) (by omega) (by omega) W (HV.out W hW)
                rw [Int.toNat_natCast, Int.toNat_natCast] at this
                exact this
              have HBc : Hid (∀ W, Below wr.heap.size wr W → Calls Tryz.prog 40 #[.slice (some ⟨B, off, none⟩) ops.length cap, .int .i64 ((j : Int) + 1), .int .i64 (e : Int)] W (FoldPost ops (j + 1) e W)) := fun W hW => by
                have := HIH.out ((j : Int) + 1) (e : Int) (by omega) (by omega) (by omega) (by omega) W (HV.out W hW)
                rw [Int.toNat_natCast, show ((j : Int) + 1).toNat = j + 1 by omega] at this
                exact this
              have hw1 : IntKind.i64.wrap ((j : Int) + 1) = (j : Int) + 1 := IntWalk.i64_in _ (by omega)
              clear hlast HX HALL HIH HO HR
              rcases hx3 with rfl | rfl | rfl
              · go_upto_region 8 with fail
                go_region_with (first
                  | (go_at_call_of 40 (Value.int IntKind.i64 ((a : Nat) : Int)); refine (HA.out _ ?_).mono ?_; (· repeat (first | exact Below.refl _ _ | assumption | refine Below.drew ?_ | refine ext_drewN ?_ _ | refine ext_alloc ?_ _ | refine Below.setCell ?_ (by (try simp only [World.size_alloc, World.size_setCell, World.size_drew]); omega) _ | refine ext_step ?_ (by assumption))); rintro en wA ⟨tA, rfl, htA, hfA, hbA, hsA⟩; (try have hzA : wr.heap.size < wA.heap.size := lt_alloc wr _ hbA.size); (try have hcA : wA.cell? ⟨wr.heap.size, 0, none⟩ = some (.int .i64 7) := cell_alloc wr #[.int .i64 7, .int .i64 8, .int .i64 11] 65 0 rfl hbA))
                  | (go_at_call_of 40 (Value.int IntKind.i64 ((e : Nat) : Int)); refine (HBc.out _ ?_).mono ?_; (· repeat (first | exact Below.refl _ _ | assumption | refine Below.drew ?_ | refine ext_drewN ?_ _ | refine ext_alloc ?_ _ | refine Below.setCell ?_ (by (try simp only [World.size_alloc, World.size_setCell, World.size_drew]); omega) _ | refine ext_step ?_ (by assumption))); rintro en wB ⟨tB, rfl, htB, hfB, hbB, hsB⟩; (try have hzB : wr.heap.size < wB.heap.size := Nat.lt_of_lt_of_le hzA hbB.size); (try have hnB : wr.heap.size ≠ wB.heap.size := Nat.ne_of_lt hzB); (try have hcB : wB.cell? ⟨wr.heap.size, 0, none⟩ = some (.int .i64 7) := (hbB.cell (p := ⟨wr.heap.size, 0, none⟩) hzA).trans hcA); (try have hzB2 : wA.heap.size < wB.heap.size := lt_alloc wA _ hbB.size); (try have hnB2 : wA.heap.size ≠ wB.heap.size := Nat.ne_of_lt hzB2); (try have hcB2 : wB.cell? ⟨wA.heap.size, 0, none⟩ = some (.int .i64 7) := cell_alloc2 wA #[.int .i64 7, .int .i64 8, .int .i64 11] 65 0 rfl hbB)))
                all_goals
                  go_wp2_with fail
                  go_ret
                  refine HN.out tA tB _ _ _ _ ?_ ?_ ?_ ?_ hfA hfB hsA hsB ?_
                  · simp only [World.size_alloc]
                  · refine htA.later ?_
                    repeat (first | exact Below.refl _ _ | assumption | refine Below.drew ?_ | refine ext_drewN ?_ _ | refine ext_alloc ?_ _ | refine Below.setCell ?_ (by (try simp only [World.size_alloc, World.size_setCell, World.size_drew]); omega) _ | refine ext_step ?_ (by assumption))
                  · refine htB.later ?_
                    repeat (first | exact Below.refl _ _ | assumption | refine Below.drew ?_ | refine ext_drewN ?_ _ | refine ext_alloc ?_ _ | refine Below.setCell ?_ (by (try simp only [World.size_alloc, World.size_setCell, World.size_drew]); omega) _ | refine ext_step ?_ (by assumption))
                  · first
                      | exact RowT.two _ _ _
                      | (refine RowT.twoN _ _ _ _ ?_; simp only [World.size_alloc])
                      | exact (RowT.two _ _ _).later (re_alloc _ _)
                  · repeat (first | exact Below.refl _ _ | assumption | refine Below.drew ?_ | refine ext_drewN ?_ _ | refine ext_alloc ?_ _ | refine Below.setCell ?_ (by (try simp only [World.size_alloc, World.size_setCell, World.size_drew]); omega) _ | refine ext_step ?_ (by assumption))
              · go_upto_region 8 with fail
                go_region_with (first
                  | (go_at_call_of 40 (Value.int IntKind.i64 ((a : Nat) : Int)); refine (HA.out _ ?_).mono ?_; (· repeat (first | exact Below.refl _ _ | assumption | refine Below.drew ?_ | refine ext_drewN ?_ _ | refine ext_alloc ?_ _ | refine Below.setCell ?_ (by (try simp only [World.size_alloc, World.size_setCell, World.size_drew]); omega) _ | refine ext_step ?_ (by assumption))); rintro en wA ⟨tA, rfl, htA, hfA, hbA, hsA⟩; (try have hzA : wr.heap.size < wA.heap.size := lt_alloc wr _ hbA.size); (try have hcA : wA.cell? ⟨wr.heap.size, 1, none⟩ = some (.int .i64 8) := cell_alloc wr #[.int .i64 7, .int .i64 8, .int .i64 11] 65 1 rfl hbA))
                  | (go_at_call_of 40 (Value.int IntKind.i64 ((e : Nat) : Int)); refine (HBc.out _ ?_).mono ?_; (· repeat (first | exact Below.refl _ _ | assumption | refine Below.drew ?_ | refine ext_drewN ?_ _ | refine ext_alloc ?_ _ | refine Below.setCell ?_ (by (try simp only [World.size_alloc, World.size_setCell, World.size_drew]); omega) _ | refine ext_step ?_ (by assumption))); rintro en wB ⟨tB, rfl, htB, hfB, hbB, hsB⟩; (try have hzB : wr.heap.size < wB.heap.size := Nat.lt_of_lt_of_le hzA hbB.size); (try have hnB : wr.heap.size ≠ wB.heap.size := Nat.ne_of_lt hzB); (try have hcB : wB.cell? ⟨wr.heap.size, 1, none⟩ = some (.int .i64 8) := (hbB.cell (p := ⟨wr.heap.size, 1, none⟩) hzA).trans hcA); (try have hzB2 : wA.heap.size < wB.heap.size := lt_alloc wA _ hbB.size); (try have hnB2 : wA.heap.size ≠ wB.heap.size := Nat.ne_of_lt hzB2); (try have hcB2 : wB.cell? ⟨wA.heap.size, 1, none⟩ = some (.int .i64 8) := cell_alloc2 wA #[.int .i64 7, .int .i64 8, .int .i64 11] 65 1 rfl hbB)))
                all_goals
                  go_wp2_with fail
                  go_ret
                  refine HN.out tA tB _ _ _ _ ?_ ?_ ?_ ?_ hfA hfB hsA hsB ?_
                  · simp only [World.size_alloc]
                  · refine htA.later ?_
                    repeat (first | exact Below.refl _ _ | assumption | refine Below.drew ?_ | refine ext_drewN ?_ _ | refine ext_alloc ?_ _ | refine Below.setCell ?_ (by (try simp only [World.size_alloc, World.size_setCell, World.size_drew]); omega) _ | refine ext_step ?_ (by assumption))
                  · refine htB.later ?_
                    repeat (first | exact Below.refl _ _ | assumption | refine Below.drew ?_ | refine ext_drewN ?_ _ | refine ext_alloc ?_ _ | refine Below.setCell ?_ (by (try simp only [World.size_alloc, World.size_setCell, World.size_drew]); omega) _ | refine ext_step ?_ (by assumption))
                  · first
                      | exact RowT.two _ _ _
                      | (refine RowT.twoN _ _ _ _ ?_; simp only [World.size_alloc])
                      | exact (RowT.two _ _ _).later (re_alloc _ _)
                  · repeat (first | exact Below.refl _ _ | assumption | refine Below.drew ?_ | refine ext_drewN ?_ _ | refine ext_alloc ?_ _ | refine Below.setCell ?_ (by (try simp only [World.size_alloc, World.size_setCell, World.size_drew]); omega) _ | refine ext_step ?_ (by assumption))
              · go_upto_region 8 with fail
                go_region_with (first
                  | (go_at_call_of 40 (Value.int IntKind.i64 ((a : Nat) : Int)); refine (HA.out _ ?_).mono ?_; (· repeat (first | exact Below.refl _ _ | assumption | refine Below.drew ?_ | refine ext_drewN ?_ _ | refine ext_alloc ?_ _ | refine Below.setCell ?_ (by (try simp only [World.size_alloc, World.size_setCell, World.size_drew]); omega) _ | refine ext_step ?_ (by assumption))); rintro en wA ⟨tA, rfl, htA, hfA, hbA, hsA⟩; (try have hzA : wr.heap.size < wA.heap.size := lt_alloc wr _ hbA.size); (try have hcA : wA.cell? ⟨wr.heap.size, 2, none⟩ = some (.int .i64 11) := cell_alloc wr #[.int .i64 7, .int .i64 8, .int .i64 11] 65 2 rfl hbA))
                  | (go_at_call_of 40 (Value.int IntKind.i64 ((e : Nat) : Int)); refine (HBc.out _ ?_).mono ?_; (· repeat (first | exact Below.refl _ _ | assumption | refine Below.drew ?_ | refine ext_drewN ?_ _ | refine ext_alloc ?_ _ | refine Below.setCell ?_ (by (try simp only [World.size_alloc, World.size_setCell, World.size_drew]); omega) _ | refine ext_step ?_ (by assumption))); rintro en wB ⟨tB, rfl, htB, hfB, hbB, hsB⟩; (try have hzB : wr.heap.size < wB.heap.size := Nat.lt_of_lt_of_le hzA hbB.size); (try have hnB : wr.heap.size ≠ wB.heap.size := Nat.ne_of_lt hzB); (try have hcB : wB.cell? ⟨wr.heap.size, 2, none⟩ = some (.int .i64 11) := (hbB.cell (p := ⟨wr.heap.size, 2, none⟩) hzA).trans hcA); (try have hzB2 : wA.heap.size < wB.heap.size := lt_alloc wA _ hbB.size); (try have hnB2 : wA.heap.size ≠ wB.heap.size := Nat.ne_of_lt hzB2); (try have hcB2 : wB.cell? ⟨wA.heap.size, 2, none⟩ = some (.int .i64 11) := cell_alloc2 wA #[.int .i64 7, .int .i64 8, .int .i64 11] 65 2 rfl hbB)))
                all_goals
                  go_wp2_with fail
                  go_ret
                  refine HN.out tA tB _ _ _ _ ?_ ?_ ?_ ?_ hfA hfB hsA hsB ?_
                  · simp only [World.size_alloc]
                  · refine htA.later ?_
                    repeat (first | exact Below.refl _ _ | assumption | refine Below.drew ?_ | refine ext_drewN ?_ _ | refine ext_alloc ?_ _ | refine Below.setCell ?_ (by (try simp only [World.size_alloc, World.size_setCell, World.size_drew]); omega) _ | refine ext_step ?_ (by assumption))
                  · refine htB.later ?_
                    repeat (first | exact Below.refl _ _ | assumption | refine Below.drew ?_ | refine ext_drewN ?_ _ | refine ext_alloc ?_ _ | refine Below.setCell ?_ (by (try simp only [World.size_alloc, World.size_setCell, World.size_drew]); omega) _ | refine ext_step ?_ (by assumption))
                  · first
                      | exact RowT.two _ _ _
                      | (refine RowT.twoN _ _ _ _ ?_; simp only [World.size_alloc])
                      | exact (RowT.two _ _ _).later (re_alloc _ _)
                  · repeat (first | exact Below.refl _ _ | assumption | refine Below.drew ?_ | refine ext_drewN ?_ _ | refine ext_alloc ?_ _ | refine Below.setCell ?_ (by (try simp only [World.size_alloc, World.size_setCell, World.size_drew]); omega) _ | refine ext_step ?_ (by assumption))
            · have hne : ((x : Int) == (l : Int)) = false := by rw [beq_eq_false_iff_ne]; omega
              have hgt : l < x := by have h9 := hall2.out j (by omega) (by omega); rw [HX.out] at h9; omega
              go_wp2_with fail
              go_roundw
              case rel => exact ⟨j, by omega, by omega, by go_num, fun k h1 h2 => by
                by_cases hk : k = j
                · subst hk; rw [HX.out]; exact hgt
                · exact hlast.out k (by omega) h2, rfl⟩
              case measure => simp [intOf]; omega
          · obtain rfl : i = a := by omega
            go_wp2_with fail
            go_roundw
            case rel => exact ⟨l + 1, by omega, by go_num, fun k h1 h2 => hlast.out k h1 h2, rfl⟩
            case measure => simp [intOf]; omega
      · obtain rfl : a = e := by
          by_cases h : a < e
          · have h1 := hall2.out a (Nat.le_refl _) h
            have h2 := HO.out a
            omega
          · omega
        have HNM := Lib.hid (nm15_any (a : Int))
        go_wp2_with fail
        refine (HNM.out _).mono ?_
        rintro en w1 ⟨rfl, hb1⟩
        have HB1 := Lib.hid hb1
        clear hb1
        go_wp2_with fail
        go_ret
        refine ⟨.node w1.heap.size 0 0 (PR.nmN (a : Int)) none [] [] [], rfl, IsTa.new 0 (PR.nmN (a : Int)) none 0 [] (.inl rfl) (fun k hk => by simp at hk), .leaf a _ rfl, ext_alloc HB1.out _, ?_⟩
        simp [TA.size, TA.sizes]
end Go.Proofs.YtgamknphlmcgnaaGreatDoor
end
section
set_option linter.unusedSimpArgs false
set_option linter.unusedVariables false
set_option maxRecDepth 100000
set_option linter.unnecessarySimpa false
namespace Go.Proofs.YtgamknphlmcgnaaGreatDoor
open Go.RowKit
/-- whole numbers in a row -/
def IntsAt (w : World) (a : Option Addr) (xs : List Int) : Prop := xs = [] ∨ ∃ b off, a = some ⟨b, off, none⟩ ∧ ∀ i, i < xs.length → w.cell? ⟨b, off + i, none⟩ = some (.int .i64 (xs.getD i 0))
theorem addr_plus (b off i : Nat) : (⟨b, off, none⟩ : Addr).add i = ⟨b, off + i, none⟩ := by unfold Addr.add; split <;> simp_all
theorem IntsAt.of {w : World} {x : Addr} {l c : Nat} {zs : List Int} (hl : l ≤ c) (hz : zs.length = c) (hcell : ∀ i, i < zs.length → w.cell? (x.add i) = some (.int .i64 (zs.getD i 0))) : IntsAt w (some x) (zs.take l) ∧ (zs.take l).length = l := by
  have hlen : (zs.take l).length = l := by rw [List.length_take]; omega
  refine ⟨?_, hlen⟩
  by_cases h0 : l = 0
  · left; rw [h0]; rfl
  · obtain ⟨b, off, spot⟩ := x
    have hspot : spot = none := by simpa [Addr.add] using World.cell?_spot (hcell 0 (by omega))
    subst hspot
    refine .inr ⟨b, off, rfl, fun i hi => ?_⟩
    rw [hlen] at hi
    have hc := hcell i (by omega)
    rw [addr_plus] at hc
    rw [hc, List.getD_eq_getElem?_getD, List.getD_eq_getElem?_getD, List.getElem?_take_of_lt (by omega)]
end Go.Proofs.YtgamknphlmcgnaaGreatDoor
end
section
set_option linter.unusedSimpArgs false
set_option linter.unusedVariables false
set_option maxRecDepth 100000
set_option linter.unnecessarySimpa false
namespace Go.Proofs.YtgamknphlmcgnaaGreatDoor
namespace TA
mutual
theorem bare_zero : (t : TA) → bare (zero t) = bare t
  | node _ o a n r t k ks => by simp only [zero, bare]; rw [bares_zeros ks]
theorem bares_zeros : (l : List TA) → bares (zeros l) = bares l
  | [] => rfl
  | k :: l => by simp only [zeros, bares]; rw [bare_zero k, bares_zeros l]
end
end TA
end Go.Proofs.YtgamknphlmcgnaaGreatDoor
end
section
set_option linter.unusedSimpArgs false
set_option linter.unusedVariables false
set_option maxRecDepth 100000
set_option linter.unnecessarySimpa false
namespace Go.Proofs.YtgamknphlmcgnaaGreatDoor
open Go.RowKit
abbrev letT0 : PR.LetT := ⟨[], 0, TA.none⟩
/-- a program in block B -/
structure PgM (W : World) (B : Nat) (ls : List PR.LetT) (kv : Value) (b : TA) (ts : List TA) : Prop where
  c0 : W.cell? ⟨B, 0, none⟩ = some kv
  c1 : W.cell? ⟨B, 1, none⟩ = some (ptr b.b)
  len : ts.length = ls.length
  row : (ls = [] ∧ ∃ kp cap, kv = .slice kp 0 cap) ∨ ∃ g cap, kv = .slice (some ⟨g, 0, none⟩) ls.length cap ∧ ∀ i, i < ls.length → W.cell? ⟨g, i * 3, none⟩ = some (.string ⟨(ls.getD i letT0).name.toArray⟩) ∧ W.cell? ⟨g, i * 3 + 1, none⟩ = some (.int .i64 ((ls.getD i letT0).at_ : Nat)) ∧ W.cell? ⟨g, i * 3 + 2, none⟩ = some (ptr (ts.getD i TA.none).b)
  body : IsTa W b
  tms : ∀ i, i < ls.length → IsTa W (ts.getD i TA.none) ∧ (ts.getD i TA.none).zero = (ls.getD i letT0).term
theorem PgM.later {W W' : World} {B : Nat} {ls : List PR.LetT} {kv : Value} {b : TA} {ts : List TA} (h : PgM W B ls kv b ts) (hb : Below W.heap.size W W') : PgM W' B ls kv b ts := by
  have key : ∀ a v, W.cell? a = some v → W'.cell? a = some v := fun a v hv => (hb.cell (p := a) (World.block_lt_of_cell? W _ hv)).trans hv
  refine ⟨key _ _ h.c0, key _ _ h.c1, h.len, ?_, h.body.later hb, fun i hi => ⟨(h.tms i hi).1.later hb, (h.tms i hi).2⟩⟩
  rcases h.row with h | ⟨g, cap, h1, h2⟩
  · exact .inl h
  · exact .inr ⟨g, cap, h1, fun i hi => ⟨key _ _ (h2 i hi).1, key _ _ (h2 i hi).2.1, key _ _ (h2 i hi).2.2⟩⟩
theorem flat_let : ∀ (lts : List (PR.LetT × TA)) (i k : Nat), i < lts.length → k < 3 → (lts.flatMap cellsLet)[i * 3 + k]? = (cellsLet (lts.getD i (letT0, TA.none)))[k]?
  | [], i, k, h, _ => by simp at h
  | x :: lts, 0, k, _, hk => by
    rw [List.flatMap_cons, List.getElem?_append_left (by show 0 * 3 + k < 3; omega)]; simp
  | x :: lts, i + 1, k, h, hk => by
    rw [List.flatMap_cons, List.getElem?_append_right (by show 3 ≤ (i + 1) * 3 + k; omega)]
    have e : (i + 1) * 3 + k - (cellsLet x).length = i * 3 + k := by show (i + 1) * 3 + k - 3 = _; omega
    rw [e, flat_let lts i k (by simpa using h) hk]
    simp [List.getD]
theorem PgV.m {w0 W : World} {v : Value} {r : List PR.LetT × TA} (h : PgV w0 W v r) : ∃ B kv b ts, v = ptr B ∧ PgM W B r.1 kv b ts ∧ b.zero = r.2 := by
  obtain ⟨B, kv, lts, t, rfl, hp, ht, hz⟩ := h
  obtain ⟨c0, c1⟩ := hp.cells
  obtain ⟨h1, h2, h3⟩ := hp.lets
  have hll : lts.length = r.1.length := by rw [← h1, List.length_map]
  have hg : ∀ i, i < r.1.length → r.1.getD i letT0 = (lts.getD i (letT0, TA.none)).1 ∧ (lts.map Prod.snd).getD i TA.none = (lts.getD i (letT0, TA.none)).2 := fun i hi => by
    have hi' : i < lts.length := by omega
    rw [← h1]
    simp [List.getD, List.getElem?_map, hi']
  refine ⟨B, kv, t, lts.map Prod.snd, rfl, ⟨c0, c1, by rw [List.length_map, hll], ?_, ht.is, fun i hi => ?_⟩, hz⟩
  · rcases Nat.eq_zero_or_pos r.1.length with h0 | hpos
    · left
      refine ⟨List.length_eq_zero_iff.1 h0, ?_⟩
      obtain ⟨kp, cp, hk⟩ := hp.form
      exact ⟨kp, cp, by rw [hk, h0]⟩
    · right
      obtain ⟨gl, cp, rfl, _, _⟩ := h2.form hpos
      refine ⟨gl, cp, rfl, fun i hi => ?_⟩
      have hi' : i < lts.length := by omega
      have hc : ∀ k, k < 3 → W.cell? ⟨gl, i * 3 + k, none⟩ = (cellsLet (lts.getD i (letT0, TA.none)))[k]? := fun k hk => by
        rw [h2.cellAt (i * 3 + k) (by omega), flat_let lts i k hi' hk]
      rw [(hg i hi).1, (hg i hi).2]
      exact ⟨hc 0 (by omega), hc 1 (by omega), hc 2 (by omega)⟩
  · have hi' : i < lts.length := by omega
    rw [(hg i hi).1, (hg i hi).2]
    have := h3 (lts.getD i (letT0, TA.none)) (by simp only [List.getD, List.getElem?_eq_getElem hi', Option.getD_some]; exact List.getElem_mem hi')
    exact ⟨this.1.is, this.2⟩
namespace PR
end PR
end Go.Proofs.YtgamknphlmcgnaaGreatDoor
end
section
set_option linter.unusedSimpArgs false
set_option linter.unusedVariables false
set_option maxRecDepth 100000
set_option linter.unnecessarySimpa false
namespace Go.Proofs.YtgamknphlmcgnaaGreatDoor
open Go.RowKit
theorem infoInt' : (Tryz.prog.info? 3).map (fun i => (i.zero, i.size, i.bytes)) = some (some (.int .i64 0), 1, 8) := by kernel_rfl
abbrev natV (n : Nat) : Value := .int .i64 (n : Nat)
theorem natV_one (l : List Nat) : ∀ u ∈ l.map natV, u.oneCell' = true := fun u hu => by
  obtain ⟨n, _, rfl⟩ := List.mem_map.1 hu; rfl
/-- whole numbers in a row of one's own -/
structure OwnI (w : World) (ps : List Nat) (v : Value) (wr : World) : Prop where
  own : wr.ownsRow w.heap.size 3 1 v ps.length (ps.map natV)
  bel : Below w.heap.size w wr
theorem OwnI.later {w wr wr' : World} {ps : List Nat} {v : Value} (h : OwnI w ps v wr) (hb : Below wr.heap.size wr wr') : OwnI w ps v wr' :=
  ⟨h.own.kept (re_grownBy hb) (by cases v.ownBlock <;> simp), ext_step h.bel hb⟩
theorem OwnI.appended {w Wa W' : World} {ps : List Nat} {v : Value} {k : Nat} {g cp : Nat} (h : OwnI w ps v Wa)
   (hown : W'.ownsRow w.heap.size 3 1 (.slice (some ⟨g, 0, none⟩) (ps.length + 1) cp) (ps.length + 1) (ps.map natV ++ [natV k])) (hg : Wa.grownBy W' v.ownBlock) :
    OwnI w (ps ++ [k]) (.slice (some ⟨g, 0, none⟩) (ps.length + 1) cp) W' :=
  ⟨by simpa using hown, h.bel.grown hg h.bel.size (fun k e => (h.own.lt k e).1)⟩
theorem OwnI.ints {w wr : World} {ps : List Nat} {v : Value} (h : OwnI w ps v wr) : IntsN wr v ps := by
  rcases h.own.2 with ⟨rfl, h0⟩ | ⟨g, cp, cur, rfl, _⟩
  · exact ⟨none, 0, by rw [h0], .inl (List.length_eq_zero_iff.1 h0)⟩
  · refine ⟨_, cp, rfl, .inr ⟨g, 0, rfl, fun i hi => ?_⟩⟩
    have := h.own.cellAt i (by omega)
    rw [Nat.zero_add, this]
    simp [natV, List.getD, hi]
def OpL (xs : List Int) (w : World) (v i : Value) (wr : World) : Prop := ∃ k : Nat, k ≤ xs.length ∧ i = .int .i64 k ∧ OwnI w ((xs.map fun x => uRem x 3).take k) v wr
def SxL (ops : List Nat) (n : Nat) (w : World) (s i : Value) (wr : World) : Prop := ∃ k : Nat, k ≤ n ∧ i = .int .i64 k ∧ s = .string ⟨(PR.sx ops 0 k).toArray⟩ ∧ Below w.heap.size w wr
def StL (base : List UInt8) (n : Nat) (w : World) (tv s i : Value) (wr : World) : Prop := ∃ (k : Nat) (t : TA), k ≤ n ∧ i = .int .i64 k ∧ s = .string ⟨(base ++ List.replicate k 42).toArray⟩ ∧ tv = ptr t.b ∧ IsTa wr t ∧ t.bare = PR.stT k ∧ t.size = k + 1 ∧ Below w.heap.size w wr
theorem take_snocN (l : List Nat) (k : Nat) (h : k < l.length) : l.take (k + 1) = l.take k ++ [l.getD k 0] := by
  rw [List.take_add_one]; simp [List.getD, h]
set_option maxRecDepth 100000 in
set_option maxHeartbeats 30000000 in
theorem ParseLevels_any (a : Option Addr) (cap : Nat) (xs : List Int) (star : Int) (w : World) (hT : Tab w) (hWo : WordsAt w) (hx : IntsAt w a xs) (hm : xs.length ≤ maxLen) : Calls Tryz.prog 7 #[.slice a xs.length cap, .int .i64 star] w fun e w' => e = .returned (.bool true) ∧ Below w.heap.size w w' := by
  have HE := Lib.hid (EnvP.mk hT hWo)
  have HH := Lib.hid (prHead_any w HE.out)
  have HX := Lib.hid hx
  unfold maxLen at hm
  clear hT hWo hx
  by_cases h30 : 30 < xs.length
  · have h30' : (30 : Int) < (xs.length : Nat) := by omega
    go_enter Tryz.func7, Tryz.ntmps7
    go_wp2_with fail
    refine HH.out.mono ?_
    rintro e w1 ⟨rfl, hb⟩
    go_wp2_with fail
    go_ret
    exact ⟨rfl, hb⟩
  have h30' : ¬ (30 : Int) < (xs.length : Nat) := by omega
  obtain ⟨ops, hops⟩ : ∃ ops : List Nat, xs.map (fun x => uRem x 3) = ops := ⟨_, rfl⟩
  have hol : ops.length = xs.length := by rw [← hops, List.length_map]
  have HOP : Hid (∀ j, j < xs.length → ops.getD j 0 = uRem (xs.getD j 0) 3) := fun j hj => by
    rw [← hops]; simp [List.getD, hj]
  have hle : ∀ j, ops.getD j 0 ≤ 2 := fun j => by
    by_cases hj : j < xs.length
    · rw [HOP.out j hj]; have := uRem_lt (xs.getD j 0) 3 (by omega); omega
    · have : ops.getD j 0 = 0 := by simp [List.getD, List.getElem?_eq_none (show ops.length ≤ j by omega)]
      omega
  have HLE := Lib.hid hle
  obtain ⟨m0, hm0⟩ := PR.fold_ex hle (ops.length + 1) 0 ops.length (by omega) (Nat.zero_le _)
  obtain ⟨b0, hp0, hb0⟩ := PR.lev_parse (by omega) hm0
  obtain ⟨ns, hns, hns3⟩ : ∃ ns, lowN star 3 = ns ∧ ns ≤ 3 := ⟨_, rfl, (lowN_eq star 3 (by decide)).2⟩
  have hst : bits .and .i64 star 3 = (ns : Nat) := by rw [← hns]; exact (lowN_eq star 3 (by decide)).1
  obtain ⟨b1, hp1, hb1⟩ := PR.star_parse (by omega) hm0 ns hns3
  have hxl := PR.sx_len ops ops.length 0
  have HR0 : Hid (∀ W, EnvP W → Calls Tryz.prog 16 #[.string ⟨(PR.sx ops 0 ops.length).toArray⟩] W (PReadPost W (some ([], b0), 0, 0))) := fun W hW => by
    rw [← hp0]; exact prRead_any _ W hW (by omega)
  have HR1 : Hid (∀ W, EnvP W → Calls Tryz.prog 16 #[.string ⟨(PR.sx ops 0 ops.length ++ [32, 124, 32, 122] ++ List.replicate ns 42).toArray⟩] W (PReadPost W (some ([], b1), 0, 0))) := fun W hW => by
    rw [← hp1]; exact prRead_any _ W hW (by simp; omega)
  have HB0 : Hid (∀ t, PR.FoldR ops 0 ops.length t → b0.bare = t.bare) := fun t ht => by
    obtain ⟨b', g1, g2⟩ := PR.lev_parse (by omega) ht
    rw [hp0] at g1
    injection g1 with g1 _
    injection g1 with g1
    injection g1 with _ g1
    rw [g1]; exact g2
  have HB1 : Hid (∀ t, PR.FoldR ops 0 ops.length t → b1.bare = TA.node 0 7 0 [] none [] [] [t.bare, PR.stT ns]) := fun t ht => by
    obtain ⟨b', g1, g2⟩ := PR.star_parse (by omega) ht ns hns3
    rw [hp1] at g1
    injection g1 with g1 _
    injection g1 with g1
    injection g1 with _ g1
    rw [g1]; exact g2
  have HFO : Hid (∀ v W, IntsN W v ops → Calls Tryz.prog 40 #[v, .int .i64 0, .int .i64 (ops.length : Nat)] W (FoldPost ops 0 ops.length W)) := fun v W hW => fold_any ops hle (by omega) (ops.length + 1) 0 ops.length (by omega) (Nat.zero_le _) (Nat.le_refl _) v W hW
  clear hle hm0 hp0 hb0 hp1 hb1 hns
  have HOL := Lib.hid hol
  have hol2 : ops.length ≤ 30 := by omega
  clear hol
  obtain ⟨i0, hi, hz0, hz1, hz2⟩ := info_parts infoInt'
  have HI := Lib.hid hi; have HZ0 := Lib.hid hz0; have HZ1 := Lib.hid hz1; have HZ2 := Lib.hid hz2
  clear hi hz0 hz1 hz2
  have HOPS := Lib.hid hops
  clear hops
  go_enter Tryz.func7, Tryz.ntmps7
  go_wp2_with fail
  refine HH.out.mono ?_
  rintro e w1 ⟨rfl, hb⟩
  have HB := Lib.hid hb
  have HEM : Hid (OwnI w1 [] (.slice (some ⟨w1.heap.size, 0, none⟩) 0 0) (w1.alloc (.cells #[] 3))) := ⟨World.ownsRow_lit w1 #[] 0 (Nat.le_refl _) (by unfold maxLen; omega) rfl, re_alloc _ _⟩
  clear hb HH
  go_wp2_with fail
  go_loopw [5, 30] (fun v i wr => OpL xs w1 v i wr) (fun _ i _ => xs.length - (intOf i).toNat)
  case atStart => exact ⟨0, by omega, rfl, HEM.out⟩
  case round =>
    obtain ⟨k, hk, rfl, hW⟩ := hrel
    by_cases hlt : k < xs.length
    · rcases HX.out with h0 | ⟨kb, ko, rfl, hrow⟩
      · rw [h0] at hlt; simp at hlt
      have hc := hrow k hlt
      have hkbl := World.block_lt_of_cell? w _ hc
      rw [← (ext_step HB.out hW.bel).cell (p := ⟨kb, ko + k, none⟩) hkbl] at hc
      have HNX : Hid ((xs.map fun x => uRem x 3).take (k + 1) = (xs.map fun x => uRem x 3).take k ++ [uRem (xs.getD k 0) 3]) := by
        show _ = _
        rw [take_snocN _ k (by simpa using hlt)]; simp [List.getD, hlt]
      have hpl : ((xs.map fun x => uRem x 3).take k).length ≤ 30 := by simp; omega
      have hu : (IntKind.u64.wrap (xs.getD k 0)).tmod 3 = (uRem (xs.getD k 0) 3 : Nat) := uRem_eq _ 3
      have hul := uRem_lt (xs.getD k 0) 3 (by omega)
      generalize uRem (xs.getD k 0) 3 = o at *
      generalize xs.getD k 0 = x at *
      generalize (xs.map fun x => uRem x 3).take k = ps at *
      have hW1 := hW
      clear hrow hkbl
      go_wp2_with (at_builtin; refine wpList_append_lies _ rfl _ _ _ rfl w1.heap.size 3 i0 _ 1 8 Tryz.underlying72 HI.out HZ0.out HZ1.out HZ2.out rfl (by omega) u5 ps.length (ps.map natV) rfl (hW1.own.alloc _) ⟨wr.heap.size, 0, none⟩ 1 1 [natV o] rfl rfl (World.news_of_block (cs := #[natV o]) (t := 3) (fr := (0, 0)) (heap_alloc_last wr _)) (natV_one [o]) (by omega) (by unfold maxLen; omega) (by omega) (by have := hW1.bel.size; simp; omega) (wr.heap.size + 1) (by simp) ?_; intro g5 cp5 W9 hown9 hg9 hat9 hlt9)
      have hW9 := (hW1.later (re_alloc wr _)).appended hown9 hg9
      rw [← HNX.out] at hW9
      have HW9 := Lib.hid hW9
      clear hW9 hown9 hg9 hat9 hW1 hW
      go_wp2
      go_roundw
      case rel => exact ⟨k + 1, by omega, by go_num, HW9.out⟩
      case measure => simp [intOf]; omega
    · obtain rfl : k = xs.length := by omega
      have hW' : OwnI w1 ops u5 wr := by
        have := hW
        rw [HOPS.out, ← HOL.out, List.take_length] at this
        exact this
      obtain ⟨kp2, cap2, rfl, hrow2⟩ := hW'.ints
      have HIN : Hid (∀ W, Below wr.heap.size wr W → IntsN W (.slice kp2 ops.length cap2) ops) := fun W hW => hW'.ints.later hW
      have HBr := Lib.hid (ext_step HB.out hW.bel)
      obtain ⟨w9, hw9⟩ : ∃ W, W = wr := ⟨_, rfl⟩
      rw [← hw9] at HIN HBr hW hW' hrow2 ⊢
      clear hw9
      have HNM0 := Lib.hid (nm15_any 0 w9)
      have HROW := Lib.hid hrow2
      clear hW hW' hrow2
      go_wp2_with fail
      refine HNM0.out.mono ?_
      rintro e w2 ⟨rfl, hb2⟩
      have HB2 := Lib.hid hb2
      clear hb2 HNM0
      go_wp2_with fail
      go_loopw [8, 45] (fun s i W => SxL ops ops.length w9 s i W) (fun _ i _ => ops.length - (intOf i).toNat)
      case atStart => exact ⟨0, by omega, rfl, rfl, HB2.out⟩
      case round =>
        obtain ⟨k, hk, rfl, rfl, hbel⟩ := hrel
        have HBE := Lib.hid hbel
        clear hbel HB2
        by_cases hlt : k < ops.length
        · rcases HROW.out with h0 | ⟨kb, ko, rfl, hrow⟩
          · rw [h0] at hlt; simp at hlt
          have hc := hrow k hlt
          have hkbl := World.block_lt_of_cell? w9 _ hc
          rw [← HBE.out.cell (p := ⟨kb, ko + k, none⟩) hkbl] at hc
          have HNX : Hid (PR.sx ops 0 (k + 1) = PR.sx ops 0 k ++ [32, PR.sgn (ops.getD k 0), 32] ++ PR.nmN ((k : Int) + 1)) := by
            show _ = _
            have := PR.sx_split ops k 0 0
            rw [Nat.add_zero, Nat.zero_add] at this
            rw [this]; rfl
          have hsl := PR.sx_len ops k 0
          have hts := str_size (PR.sx ops 0 k)
          have HNM := Lib.hid (fun W => nm15_any ((k : Int) + 1) W)
          have hnl := (PR.nmN_name ((k : Int) + 1)).2
          have hns := str_size (PR.nmN ((k : Int) + 1))
          have ho := HLE.out k
          generalize PR.nmN ((k : Int) + 1) = nm at *
          generalize PR.sx ops 0 k = pre at *
          have h3 : ops.getD k 0 = 0 ∨ ops.getD k 0 = 1 ∨ ops.getD k 0 = 2 := by omega
          have hko : (k : Int) < (ops.length : Nat) := by omega
          have hw1 : IntKind.i64.wrap ((k : Int) + 1) = (k : Int) + 1 := IntWalk.i64_in _ (by omega)
          have y1 : (⟨pre.toArray⟩ ++ ⟨#[32]⟩ : ByteArray).size = pre.length + 1 := by rw [ByteArray.size_append, hts]; rfl
          clear hrow ho hkbl
          generalize ops.getD k 0 = o at *
          rcases h3 with rfl | rfl | rfl
          · have y2 : (⟨pre.toArray⟩ ++ ⟨#[32]⟩ ++ ⟨#[124]⟩ : ByteArray).size = pre.length + 2 := by rw [ByteArray.size_append, y1]; rfl
            have y3 : (⟨pre.toArray⟩ ++ ⟨#[32]⟩ ++ ⟨#[124]⟩ ++ ⟨#[32]⟩ : ByteArray).size = pre.length + 3 := by rw [ByteArray.size_append, y2]; rfl
            go_upto_region 15 with fail
            go_region_with (go_at_call 39; refine (HNM.out _).mono ?_; rintro en wA ⟨rfl, hbA⟩; (try have hcA : wA.cell? ⟨wr.heap.size, 0, none⟩ = some (.string ⟨#[124]⟩) := cell_alloc wr #[.string ⟨#[124]⟩, .string ⟨#[46]⟩, .string ⟨#[59]⟩] 9 0 rfl hbA))
            all_goals
              go_wp2_with fail
              go_roundw
              case rel =>
                refine ⟨k + 1, by omega, by go_num, ?_, ?_⟩
                · rw [HNX.out]; exact congrArg Value.string (ByteArray.ext (by simp [PR.sgn]))
                · refine Below.trans HBE.out (Below.mono (B := wr.heap.size) ?_ HBE.out.size)
                  repeat (first | exact Below.refl _ _ | assumption | refine Below.drew ?_ | refine ext_drewN ?_ _ | refine ext_alloc ?_ _ | refine Below.setCell ?_ (by (try simp only [World.size_alloc, World.size_setCell, World.size_drew]); omega) _ | refine ext_step ?_ (by assumption))
              case measure => simp [intOf]; omega
          · have y2 : (⟨pre.toArray⟩ ++ ⟨#[32]⟩ ++ ⟨#[46]⟩ : ByteArray).size = pre.length + 2 := by rw [ByteArray.size_append, y1]; rfl
            have y3 : (⟨pre.toArray⟩ ++ ⟨#[32]⟩ ++ ⟨#[46]⟩ ++ ⟨#[32]⟩ : ByteArray).size = pre.length + 3 := by rw [ByteArray.size_append, y2]; rfl
            go_upto_region 15 with fail
            go_region_with (go_at_call 39; refine (HNM.out _).mono ?_; rintro en wA ⟨rfl, hbA⟩; (try have hcA : wA.cell? ⟨wr.heap.size, 1, none⟩ = some (.string ⟨#[46]⟩) := cell_alloc wr #[.string ⟨#[124]⟩, .string ⟨#[46]⟩, .string ⟨#[59]⟩] 9 1 rfl hbA))
            all_goals
              go_wp2_with fail
              go_roundw
              case rel =>
                refine ⟨k + 1, by omega, by go_num, ?_, ?_⟩
                · rw [HNX.out]; exact congrArg Value.string (ByteArray.ext (by simp [PR.sgn]))
                · refine Below.trans HBE.out (Below.mono (B := wr.heap.size) ?_ HBE.out.size)
                  repeat (first | exact Below.refl _ _ | assumption | refine Below.drew ?_ | refine ext_drewN ?_ _ | refine ext_alloc ?_ _ | refine Below.setCell ?_ (by (try simp only [World.size_alloc, World.size_setCell, World.size_drew]); omega) _ | refine ext_step ?_ (by assumption))
              case measure => simp [intOf]; omega
          · have y2 : (⟨pre.toArray⟩ ++ ⟨#[32]⟩ ++ ⟨#[59]⟩ : ByteArray).size = pre.length + 2 := by rw [ByteArray.size_append, y1]; rfl
            have y3 : (⟨pre.toArray⟩ ++ ⟨#[32]⟩ ++ ⟨#[59]⟩ ++ ⟨#[32]⟩ : ByteArray).size = pre.length + 3 := by rw [ByteArray.size_append, y2]; rfl
            go_upto_region 15 with fail
            go_region_with (go_at_call 39; refine (HNM.out _).mono ?_; rintro en wA ⟨rfl, hbA⟩; (try have hcA : wA.cell? ⟨wr.heap.size, 2, none⟩ = some (.string ⟨#[59]⟩) := cell_alloc wr #[.string ⟨#[124]⟩, .string ⟨#[46]⟩, .string ⟨#[59]⟩] 9 2 rfl hbA))
            all_goals
              go_wp2_with fail
              go_roundw
              case rel =>
                refine ⟨k + 1, by omega, by go_num, ?_, ?_⟩
                · rw [HNX.out]; exact congrArg Value.string (ByteArray.ext (by simp [PR.sgn]))
                · refine Below.trans HBE.out (Below.mono (B := wr.heap.size) ?_ HBE.out.size)
                  repeat (first | exact Below.refl _ _ | assumption | refine Below.drew ?_ | refine ext_drewN ?_ _ | refine ext_alloc ?_ _ | refine Below.setCell ?_ (by (try simp only [World.size_alloc, World.size_setCell, World.size_drew]); omega) _ | refine ext_step ?_ (by assumption))
              case measure => simp [intOf]; omega
        · obtain rfl : k = ops.length := by omega
          have hk' : ops.length = ops.length := rfl
          have HRD := Lib.hid (HR0.out wr (HE.out.later (ext_step HBr.out HBE.out)))
          have hsl := PR.sx_len ops ops.length 0
          have hts := str_size (PR.sx ops 0 ops.length)
          obtain ⟨pre, hpre⟩ : ∃ pre, PR.sx ops 0 ops.length = pre := ⟨_, rfl⟩
          rw [hpre] at HRD HR1 hsl hts ⊢
          clear hpre HR0 hk'
          go_wp2_with fail
          refine HRD.out.mono ?_
          rintro e w4 ⟨v, rfl, hb4, hv⟩
          have hv : PgV wr w4 v ([], b0) := hv
          obtain ⟨B, kv, b4, ts, rfl, hpm, hbz⟩ := hv.m
          have hpm : PgM w4 B [] kv b4 ts := hpm
          have hbz : b4.zero = b0 := hbz
          have p1 := hpm.c1
          have HBB := Lib.hid (hpm.body)
          have HB4 := Lib.hid (ext_step HBE.out hb4)
          have HZ4 : Hid (∀ t, PR.FoldR ops 0 ops.length t → b4.bare = t.bare) := fun t ht => by
            rw [← TA.bare_zero, hbz]; exact HB0.out t ht
          clear hv hpm hbz hb4 HRD
          obtain ⟨S, hSd⟩ : ∃ S : World → Prop, ∀ W', S W' ↔ Below w4.heap.size w4 W' := ⟨_, fun _ => Iff.rfl⟩
          have HSD := Lib.hid hSd
          have hS0 : S w4.drew := (hSd _).2 (Below.refl _ _).drew
          have cs : ∀ q : InC S, q.w.cell? ⟨B, 1, none⟩ = some (ptr b4.b) := fun q => (((hSd q.w).1 q.h).cell (p := ⟨B, 1, none⟩) (World.block_lt_of_cell? w4 _ p1)).trans p1
          clear hSd p1
          have hne : Nonempty (InC S) := ⟨⟨_, hS0⟩⟩
          go_wp2_with fail
          refine wp_region_mix S [0, 1, 2, 3, 4, 5, 6, 7, 8, 9, 12, 13] [0, 1, 2, 3, 4, 5, 6, 7, 8, 9, 10, 11, 12, 13] (by kernel_rfl) (by kernel_rfl) hS0 ?_
          (repeat ((with_reducible refine wpMix_read (o := ?_) ?_ ?_ ?_); rotate_left; (· rfl); (· rfl); go_big_quiet_step (fail); (with_reducible refine wpQuiet_nil ?_)))
          refine wpMix_eff (k := true) rfl rfl (by kernel_rfl) ?_
          have hD := (Below.refl w4.heap.size w4).drew
          go_wp2_with (go_at_call 40; refine (HFO.out _ _ (HIN.out _ (ext_step HB4.out hD))).mono ?_; rintro e wA ⟨tA, rfl, htA, hfA, hbA, hsA⟩)
          have hD2 := ext_step hD hbA
          have HSA := Lib.hid (tmSame_any b4.size b4 tA (Nat.le_refl _) (by rw [← TA.size_bare, HZ4.out tA hfA, TA.size_bare, hsA]; omega) wA (HBB.out.later hD2) htA)
          have HSE : Hid (b4.same tA = true) := Lib.hid (TA.same_of_bare _ _ (HZ4.out tA hfA))
          refine mixPost_keep ((HSD.out _).2 hD2) ?_
          (repeat ((with_reducible refine wpMix_read (o := ?_) ?_ ?_ ?_); rotate_left; (· rfl); (· rfl); go_big_quiet_step (fail); (with_reducible refine wpQuiet_nil ?_)))
          refine wpMix_eff (k := true) rfl rfl (by kernel_rfl) ?_
          rw [HSE.out] at HSA
          go_wp2_with (go_at_call 35; refine HSA.out.mono ?_; rintro e wB ⟨rfl, q, rfl⟩)
          refine mixPost_keep ((HSD.out _).2 (ext_drewN hD2 q)) ?_
          (repeat ((with_reducible refine wpMix_read (o := ?_) ?_ ?_ ?_); rotate_left; (· rfl); (· rfl); go_big_quiet_step (fail); (with_reducible refine wpQuiet_nil ?_)))
          refine wpMix_nil ?_
          have HB5 := Lib.hid (ext_step HB4.out (ext_drewN hD2 q))
          clear cs hS0 hne hD hD2 hbA htA hfA hsA HSA HSE HSD HBB HZ4
          generalize World.drewN wA q = w5 at *
          have HZT : Hid (IsTa (w5.alloc (.cells (tmCells 0 0 [122] (.pointer none) [] [] (.slice none 0 0)) 68)) (.node w5.heap.size 0 0 [122] none [] [] [])) := IsTa.new 0 [122] none 0 [] (.inl rfl) (fun k hk => by simp at hk)
          have y1 : (⟨pre.toArray⟩ ++ ⟨#[32, 124, 32, 122]⟩ : ByteArray).size = pre.length + 4 := by rw [ByteArray.size_append, hts]; rfl
          go_wp2_with fail
          go_loopw [15, 16, 17] (fun tv s i W => StL (pre ++ [32, 124, 32, 122]) ns w5 tv s i W) (fun _ _ i _ => ns - (intOf i).toNat)
          case atStart => exact ⟨0, .node w5.heap.size 0 0 [122] none [] [] [], by omega, rfl, congrArg Value.string (ByteArray.ext (by simp)), rfl, HZT.out, rfl, rfl, re_alloc _ _⟩
          case round =>
            obtain ⟨k, t, hk, rfl, rfl, rfl, htk, htb, hts2, hbel2⟩ := hrel
            have HTK := Lib.hid htk
            have HTB := Lib.hid htb
            have HTS := Lib.hid hts2
            have HB6 := Lib.hid hbel2
            have hbs := str_size (pre ++ [32, 124, 32, 122] ++ List.replicate k 42)
            have hbl : (pre ++ [32, 124, 32, 122] ++ List.replicate k 42).length = pre.length + 4 + k := by simp; omega
            rw [hbl] at hbs
            clear htk htb hts2 hbel2 hbl
            by_cases hlt : k < ns
            · have HTN : Hid (IsTa ((wr.alloc (.cells #[ptr t.b] 62)).alloc (.cells (tmCells 9 0 [] (.pointer none) [] [] (.slice (some ⟨wr.heap.size, 0, none⟩) 1 1)) 68)) (.node (wr.alloc (.cells #[ptr t.b] 62)).heap.size 9 0 [] none [] [] [t])) :=
                IsTa.new 9 [] _ 1 [t] (RowT.one wr t.b) (fun k hk => by rw [List.mem_singleton.1 hk]; exact HTK.out.later (re_alloc _ _))
              have HNX : Hid (pre ++ [32, 124, 32, 122] ++ List.replicate (k + 1) 42 = pre ++ [32, 124, 32, 122] ++ List.replicate k 42 ++ [42]) := by
                show _ = _
                rw [List.replicate_succ', ← List.append_assoc]
              have hbe : Below wr.heap.size wr ((wr.alloc (.cells #[ptr t.b] 62)).alloc (.cells (tmCells 9 0 [] (.pointer none) [] [] (.slice (some ⟨wr.heap.size, 0, none⟩) 1 1)) 68)) := ext_alloc (re_alloc _ _) _
              have HBN := Lib.hid (ext_step HB6.out hbe)
              have HSG : Hid (wr.heap.size + 1 = (wr.alloc (.cells #[ptr t.b] 62)).heap.size) := (World.size_alloc _ _).symm
              have HBX : Hid ((TA.node (wr.alloc (.cells #[ptr t.b] 62)).heap.size 9 0 [] none [] [] [t]).bare = PR.stT (k + 1)) := by
                show _ = _
                simp only [TA.bare, TA.bares, HTB.out, PR.stT]
              have HSX : Hid ((TA.node (wr.alloc (.cells #[ptr t.b] 62)).heap.size 9 0 [] none [] [] [t]).size = k + 1 + 1) := by
                show _ = _
                simp only [TA.size, TA.sizes, HTS.out]; omega
              clear hbe
              go_wp2_with fail
              go_roundw
              case rel =>
                refine ⟨k + 1, _, by omega, by go_num, ?_, ?_, HTN.out, HBX.out, HSX.out, HBN.out⟩
                · rw [HNX.out]; exact congrArg Value.string (ByteArray.ext (by simp))
                · show _ = ptr (wr.alloc _).heap.size
                  rw [← HSG.out]
              case measure => simp [intOf]; omega
            · obtain rfl : k = ns := by omega
              have HRD1 := Lib.hid (HR1.out wr (HE.out.later (ext_step HBr.out (ext_step HB5.out HB6.out))))
              clear HR1 hbs
              obtain ⟨TX, hTX⟩ : ∃ TX : ByteArray, (⟨(pre ++ [32, 124, 32, 122] ++ List.replicate k 42).toArray⟩ : ByteArray) = TX := ⟨_, rfl⟩
              rw [hTX] at HRD1 ⊢
              clear hTX
              go_wp2_with fail
              refine HRD1.out.mono ?_
              rintro e w7 ⟨v, rfl, hb7, hv⟩
              have hv : PgV wr w7 v ([], b1) := hv
              obtain ⟨B7, kv7, b7, ts7, rfl, hpm, hbz⟩ := hv.m
              have hpm : PgM w7 B7 [] kv7 b7 ts7 := hpm
              have hbz : b7.zero = b1 := hbz
              have HPM := Lib.hid hpm
              have HB7 := Lib.hid (ext_step (ext_step HB5.out HB6.out) hb7)
              have HT7 := Lib.hid (HTK.out.later hb7)
              have HZ7 : Hid (∀ t, PR.FoldR ops 0 ops.length t → b7.bare = TA.node 0 7 0 [] none [] [] [t.bare, PR.stT k]) := fun t ht => by
                rw [← TA.bare_zero, hbz]; exact HB1.out t ht
              have HFO7 := Lib.hid (HFO.out _ w7 (HIN.out _ HB7.out))
              clear hv hpm hbz hb7 HRD1
              go_wp2_with fail
              refine HFO7.out.mono ?_
              rintro e w8 ⟨t8, rfl, ht8, hf8, hb8, hs8⟩
              have HN8 : Hid (IsTa ((w8.alloc (.cells #[ptr t8.b, ptr t.b] 62)).alloc (.cells (tmCells 7 0 [] (.pointer none) [] [] (.slice (some ⟨w8.heap.size, 0, none⟩) 2 2)) 68)) (.node (w8.alloc (.cells #[ptr t8.b, ptr t.b] 62)).heap.size 7 0 [] none [] [] [t8, t])) :=
                IsTa.new 7 [] _ 2 [t8, t] (RowT.two w8 t8.b t.b) (fun k hk => by
                  simp only [List.mem_cons, List.not_mem_nil, or_false] at hk
                  rcases hk with rfl | rfl
                  · exact ht8.later (re_alloc _ _)
                  · exact HT7.out.later (ext_alloc hb8 _))
              have hbe : Below w7.heap.size w7 ((w8.alloc (.cells #[ptr t8.b, ptr t.b] 62)).alloc (.cells (tmCells 7 0 [] (.pointer none) [] [] (.slice (some ⟨w8.heap.size, 0, none⟩) 2 2)) 68)) := ext_alloc (ext_alloc hb8 _) _
              have p1 := (HPM.out.later hbe).c1
              have HBY := Lib.hid ((HPM.out.later hbe).body)
              have HBN := Lib.hid (ext_step HB7.out hbe)
              have HBE2 : Hid (b7.bare = (TA.node (w8.alloc (.cells #[ptr t8.b, ptr t.b] 62)).heap.size 7 0 [] none [] [] [t8, t]).bare) := by
                show _ = _
                rw [HZ7.out t8 hf8]
                simp only [TA.bare, TA.bares, HTB.out]
              have HSA := Lib.hid (tmSame_any b7.size b7 _ (Nat.le_refl _) (by
                rw [← TA.size_bare, HBE2.out, TA.size_bare]
                simp only [TA.size, TA.sizes, hs8, HTS.out]; omega) _ HBY.out HN8.out)
              rw [TA.same_of_bare _ _ HBE2.out] at HSA
              have HSA2 : Hid (Calls Tryz.prog 35 #[ptr b7.b, ptr (w8.heap.size + 1)] ((w8.alloc (.cells #[ptr t8.b, ptr t.b] 62)).alloc (.cells (tmCells 7 0 [] (.pointer none) [] [] (.slice (some ⟨w8.heap.size, 0, none⟩) 2 2)) 68)) fun e w' => e = .returned (.bool true) ∧ Below w9.heap.size w9 w') := by
                show Calls _ _ _ _ _
                have e1 : w8.heap.size + 1 = (w8.alloc (.cells #[ptr t8.b, ptr t.b] 62)).heap.size := (World.size_alloc _ _).symm
                rw [e1]
                refine HSA.out.mono ?_
                rintro e w' ⟨rfl, q, rfl⟩
                exact ⟨rfl, ext_drewN HBN.out q⟩
              have hB7l : B7 < w8.heap.size := Nat.lt_of_lt_of_le (World.block_lt_of_cell? w7 _ HPM.out.c1) hb8.size
              have hB7n : B7 ≠ w8.heap.size := by omega
              have hB7m : B7 ≠ w8.heap.size + 1 := by omega
              have p1' := ((HPM.out.later hb8)).c1
              clear HSA HN8 hbe ht8 hf8 hs8 HBE2 p1
              go_wp2_with fail
              refine HSA2.out.mono ?_
              rintro e wz ⟨rfl, hbz⟩
              go_wp2_with fail
              go_ret
              exact ⟨rfl, ext_step HBr.out hbz⟩
end Go.Proofs.YtgamknphlmcgnaaGreatDoor
end
section
set_option linter.unusedSimpArgs false
set_option linter.unusedVariables false
set_option maxRecDepth 100000
set_option linter.unnecessarySimpa false
namespace Go.Proofs.YtgamknphlmcgnaaGreatDoor
open Go.ChangeShapes Go.WideShapes Go.ChangeAt Go.WideMaps Go.WideElems Go.RowKit
abbrev allLaid : List (String × DataW Unit) := [("math/bits.deBruijn32tab", Rows.laid_math_bits_deBruijn32tab), ("math/bits.deBruijn64tab", Rows.laid_math_bits_deBruijn64tab), ("internal/strconv.uint64pow10", Rows.laid_internal_strconv_uint64pow10), ("periscope/lens.words", Rows.laid_periscope_lens_words)]
theorem gTab : Tryz.prog.globalNamed "math/bits.deBruijn64tab" = some (Tryz.lays29_ren.g 1) := by kernel_rfl
theorem door_met (os : Os) (args : Array Value) : laidMetH Tryz.prog allLaid ((World.doorLaid Tryz.prog 400 os).forCall (fun _ _ => 0) ⟨#[], args, []⟩).memory :=
  laidMetH_of_parts3 (fuel := 8) (laidMet_of_run' 8 (by kernel_rfl) (by kernel_rfl)) (by kernel_rfl) (by kernel_rfl)
theorem tTab : (Tryz.prog.globals[Tryz.lays29_ren.g 1]?).map (·.type) = some 216 := by kernel_rfl
theorem cTab : Tryz.prog.cellsOf 5 = 1 := by kernel_rfl
theorem lTab : (Rows.laid_math_bits_deBruijn64tab : DataW Unit) = .agg (Lib.deBruijn64tab.map fun (n : Nat) => .lit (.int .u8 (n : Int))) := by kernel_rfl
theorem gWo : Tryz.prog.globalNamed "periscope/lens.words" = some 0 := by kernel_rfl
theorem tWo : (Tryz.prog.globals[0]?).map (·.type) = some 182 := by kernel_rfl
theorem cWo : Tryz.prog.cellsOf 9 = 1 := by kernel_rfl
theorem lWo : (Rows.laid_periscope_lens_words : DataW Unit) = .agg (opWords.map fun l => .lit (.string l)) := by kernel_rfl
theorem of_laid {W : World} (h : laidMetH Tryz.prog allLaid W) : Tab W ∧ WordsAt W := by
  rw [MakeChecks.laidMetH_plain _ _ _ (by kernel_rfl)] at h
  obtain ⟨ps, ⟨g0, t0, cs0, f0, p0, q0, hg0, ht0, hv0, hd0, ⟨g1, t1, cs1, f1, p1, q1, hg1, ht1, hv1, hd1, ⟨g2, t2, cs2, f2, p2, q2, hg2, ht2, hv2, hd2, ⟨g3, t3, cs3, f3, p3, q3, hg3, ht3, hv3, hd3, _⟩, _⟩, _⟩, _⟩, h2, h3⟩ := h
  clear h2 h3 hg0 ht0 hv0 hd0 hg2 ht2 hv2 hd2
  constructor
  · obtain rfl := Option.some.inj (gTab.symm.trans hg1)
    obtain rfl := Option.some.inj (tTab.symm.trans ht1)
    rw [lTab] at hd1
    obtain ⟨xs, m, rfl, hx, hlen, hn, hel⟩ := DataW.trod_array Tryz.underlying216 hd1
    simp only [Prod.mk.injEq, DataW.agg.injEq] at hx
    intro j hj
    have hj64 : j < 64 := hj
    have h0 := hel j hj64
    rw [cTab, Nat.mul_one, List.getElem?_eq_getElem (by omega)] at h0
    obtain ⟨n, e1, e2, _⟩ := DataW.trod_int Tryz.underlying5 h0
    have hm := congrArg (fun l => l[j]?) hx.1
    simp only [List.getElem?_map] at hm
    rw [List.getElem?_eq_getElem (show j < xs.length by omega), List.getElem?_eq_getElem hj] at hm
    simp only [Option.map_some, Option.some.injEq] at hm
    rw [e2] at hm
    simp only [DataW.lit.injEq, Lit.int.injEq, true_and] at hm
    rw [World.var?_cell hg1 hv1 j]
    have e3 := congrArg (fun l => l[0]?) e1
    simp only [List.getElem?_take, List.getElem?_drop] at e3
    simp at e3
    rw [e3, ← hm, List.getD_eq_getElem?_getD, List.getElem?_eq_getElem hj]
    rfl
  · obtain rfl := Option.some.inj (gWo.symm.trans hg3)
    obtain rfl := Option.some.inj (tWo.symm.trans ht3)
    rw [lWo] at hd3
    obtain ⟨xs, m, rfl, hx, hlen, hn, hel⟩ := DataW.trod_array Tryz.underlying182 hd3
    simp only [Prod.mk.injEq, DataW.agg.injEq] at hx
    intro j hj
    have h0 := hel j hj
    rw [cWo, Nat.mul_one, List.getElem?_eq_getElem (by omega)] at h0
    obtain ⟨n, e1, e2, _⟩ := DataW.trod_string Tryz.underlying9 h0
    have hjo : j < opWords.length := hj
    have hm := congrArg (fun l => l[j]?) hx.1
    simp only [List.getElem?_map] at hm
    rw [List.getElem?_eq_getElem (show j < xs.length by omega), List.getElem?_eq_getElem hjo] at hm
    simp only [Option.map_some, Option.some.injEq] at hm
    rw [e2] at hm
    simp only [DataW.lit.injEq, Lit.string.injEq] at hm
    rw [World.var?_cell hg3 hv3 j]
    have e3 := congrArg (fun l => l[0]?) e1
    simp only [List.getElem?_take, List.getElem?_drop] at e3
    simp at e3
    rw [e3, List.getD_eq_getElem?_getD, List.getElem?_eq_getElem hjo, Option.getD_some, hm]
end Go.Proofs.YtgamknphlmcgnaaGreatDoor
end
