/-
  Terms as they are written: what the parser makes of their texts; plain. What the parser makes, whatever tokens: the terms' shape, their number, how deep they are; programs as they are written are read as they are; plain. Are two terms the same? Walked through the program. Programs in memory: as they are written, and whether two are the same: walked through the program. Are two programs the same? Walked through the program. Terms as the parser makes them: what they weigh; plain.
-/

import Derived.Test.YtgamknphlmcgnaaGreatDoorZrA
import Derived.Test.YtgamknphlmcgnaaGreatDoorZrB
import Derived.Test.YtgamknphlmcgnaaGreatDoorZrC
import Derived.Test.YtgamknphlmcgnaaGreatDoorZrD
import Derived.Test.YtgamknphlmcgnaaGreatDoorZrE
import Derived.Test.YtgamknphlmcgnaaGreatDoorZrF
import Derived.Test.YtgamknphlmcgnaaGreatDoorZrG
import Derived.Test.YtgamknphlmcgnaaGreatDoorZrH
import Derived.Test.YtgamknphlmcgnaaGreatDoorZrI
import Derived.Test.YtgamknphlmcgnaaGreatDoorZrJ
import Derived.Test.YtgamknphlmcgnaaGreatDoorZrK
import Derived.Test.YtgamknphlmcgnaaGreatDoorZrL
import Derived.Test.YtgamknphlmcgnaaGreatDoorZrM
import Derived.Test.YtgamknphlmcgnaaGreatDoorZrN
import Derived.Test.YtgamknphlmcgnaaGreatDoorZrO
section
set_option linter.unusedSimpArgs false
set_option linter.unusedVariables false
set_option maxRecDepth 100000
set_option linter.unnecessarySimpa false
namespace Go.Proofs.YtgamknphlmcgnaaGreatDoor
namespace PR
open LX (Seg SegF NL)
/-- an expression, or a name that stands for one -/
def ArgOk (G : RE → Prop) (r : Option RE) (ks : List TA) : Prop := (∃ x, r = some x ∧ G x ∧ ks = []) ∨ (r = none ∧ ∃ b a n, ks = [TA.node b 0 a n none [] [] []] ∧ LX.nameB n = true)
/-- terms as the parser makes them -/
inductive Sh (G : RE → Prop) (M : Nat) : TA → Prop
  | name (b : Nat) (a : Int) (n : List UInt8) (h : LX.nameB n = true) : Sh G M (.node b 0 a n none [] [] [])
  | re (b : Nat) (a : Int) (x : RE) (h : G x) : Sh G M (.node b 1 a [] (some x) [] [] [])
  | copy (b : Nat) (a : Int) (o : Nat) (r : Option RE) (ks : List TA) (ho : o = 2 ∨ o = 16) (h : ArgOk G r ks) : Sh G M (.node b o a [] r [] [] ks)
  | key (b : Nat) (a : Int) (n : List UInt8) (r : Option RE) (ks : List TA) (hn : LX.nameB n = true) (h : ArgOk G r ks) : Sh G M (.node b 3 a n r [] [] ks)
  | const (b : Nat) (a : Int) (r : Option RE) (t k : List UInt8) (ks : List TA) (ht : t.length ≤ M) (hk : k.length ≤ M) (h : ArgOk G r ks) : Sh G M (.node b 4 a [] r t k ks)
  | del (b : Nat) (a : Int) (r : Option RE) (k : List UInt8) (ks : List TA) (hk : k.length ≤ M) (h : ArgOk G r ks) : Sh G M (.node b 5 a [] r [] k ks)
  | norm (b : Nat) (a : Int) (r : Option RE) (t : List UInt8) (ks : List TA) (ht : t.length ≤ M) (h : ArgOk G r ks) : Sh G M (.node b 17 a [] r t [] ks)
  | ins (b : Nat) (a : Int) (t : List UInt8) (ht : t.length ≤ M) : Sh G M (.node b 6 a [] none t [] [])
  | two (b : Nat) (a : Int) (o : Nat) (x y : TA) (ho : o = 7 ∨ o = 8 ∨ o = 11) (hx : Sh G M x) (hy : Sh G M y) : Sh G M (.node b o a [] none [] [] [x, y])
  | star (b : Nat) (a : Int) (x : TA) (hx : Sh G M x) : Sh G M (.node b 9 a [] none [] [] [x])
  | call1 (b : Nat) (a : Int) (o : Nat) (x : TA) (ho : o = 12 ∨ o = 13) (hx : Sh G M x) : Sh G M (.node b o a [] none [] [] [x])
  | call2 (b : Nat) (a : Int) (o : Nat) (x y : TA) (ho : o = 10 ∨ o = 14 ∨ o = 15) (hx : Sh G M x) (hy : Sh G M y) : Sh G M (.node b o a [] none [] [] [x, y])
theorem Tk.cast {l l' : Nat} {ts : List LT} {t : TA} {n d n' d' : Nat} (h : Tk l ts t n d) (hl : l = l') (hn : n = n') (hd : d = d') : Tk l' ts t n' d' := by subst hl hn hd; exact h
theorem Tk.le {l l' : Nat} {ts : List LT} {t : TA} {n d : Nat} (h : Tk l ts t n d) (hl : l ≤ l') : Tk l' ts t n d := by
  induction l' with
  | zero => exact h.cast (by omega) rfl rfl
  | succ k ih =>
    by_cases e : l = k + 1
    · exact h.cast e rfl rfl
    · have := ih (by omega)
      cases k with
      | zero => exact .at0 _ _ _ _ this
      | succ k => exact .up _ _ _ _ _ this
theorem seg_cast {p : Nat} {a a' : List UInt8} {ts ts' : List LT} (h : Seg p a ts) (ha : a = a') (ht : ts = ts') : Seg p a' ts' := by subst ha ht; exact h
/-- a sign between gaps -/
theorem seg_sg3 (p : Nat) (c : UInt8) (hc : LX.signs.contains c = true) : SegF p [32, c, 32] [sgT c (p + 1)] :=
  ((LX.seg_gap p 32 (.inl rfl)).app (LX.seg_sign (p + 1) c hc)).app (LX.seg_gap (p + 2) 32 (.inl rfl))
theorem nl32 (l : List UInt8) : NL (32 :: l) := ⟨32, l, rfl, by decide⟩
def kwB (l : List UInt8) : Bool := match l with | [] => false | b :: n => LX.letter b true && n.all (fun c => LX.letter c false) && decide (n.length < 30)
theorem kw_all : ∀ o, o < 18 → TA.word o = [] ∨ (kwB (TA.word o) = true ∧ opOf (TA.word o) = some o) := by decide
theorem seg_kw' (p : Nat) (l : List UInt8) (h : kwB l = true) : Seg p l [⟨1, l, none, p⟩] := by
  match l, h with
  | b :: n, h =>
    simp only [kwB, Bool.and_eq_true, List.all_eq_true, decide_eq_true_eq] at h
    exact LX.seg_word p b n h.1.1 h.1.2 h.2
theorem seg_kw (p o : Nat) (ho : o < 18) (hw : TA.word o ≠ []) : Seg p (TA.word o) [⟨1, TA.word o, none, p⟩] ∧ opOf (TA.word o) = some o := by
  rcases kw_all o ho with h | h
  · exact absurd h hw
  · exact ⟨seg_kw' p _ h.1, h.2⟩
theorem plain_copy (o : Nat) (ho : o = 2 ∨ o = 16) (a : Nat) (ts : List LT) (c : Nat) : plain o a ts c = (cnt a ts c).bind fun _ ts c => (arg ts c).bind fun ra ts c => .ok (TA.node 0 o (a : Nat) [] ra.1 [] [] ra.2) ts c := by
  rcases ho with rfl | rfl <;> rfl
theorem plain_key (a : Nat) (ts : List LT) (c : Nat) : plain 3 a ts c = (cnt a ts c).bind fun _ ts c => ((nm ts c).bind fun n ts c => .ok n.text ts c).bind fun n ts c => (arg ts c).bind fun ra ts c => .ok (TA.node 0 3 (a : Nat) n ra.1 [] [] ra.2) ts c := rfl
theorem plain_const (a : Nat) (ts : List LT) (c : Nat) : plain 4 a ts c = (cnt a ts c).bind fun _ ts c => (arg ts c).bind fun ra ts c => (quo ts c).bind fun t ts c => (quo ts c).bind fun k ts c => .ok (TA.node 0 4 (a : Nat) [] ra.1 t k ra.2) ts c := rfl
theorem plain_del (a : Nat) (ts : List LT) (c : Nat) : plain 5 a ts c = (cnt a ts c).bind fun _ ts c => (arg ts c).bind fun ra ts c => (quo ts c).bind fun k ts c => .ok (TA.node 0 5 (a : Nat) [] ra.1 [] k ra.2) ts c := rfl
theorem plain_norm (a : Nat) (ts : List LT) (c : Nat) : plain 17 a ts c = (cnt a ts c).bind fun _ ts c => (arg ts c).bind fun ra ts c => (quo ts c).bind fun t ts c => .ok (TA.node 0 17 (a : Nat) [] ra.1 t [] ra.2) ts c := rfl
theorem plain_ins (a : Nat) (ts : List LT) (c : Nat) : plain 6 a ts c = (cnt a ts c).bind fun _ ts c => (quo ts c).bind fun t ts c => .ok (TA.node 0 6 (a : Nat) [] none t [] []) ts c := rfl
theorem quo_t (l : List UInt8) (a : Nat) (ts : List LT) (c : Nat) : quo (⟨3, l, none, a⟩ :: ts) c = .ok l ts c := by
  unfold quo
  rw [hd_cons, if_pos rfl, stp_cons _ _ (by show (3 : Nat) ≠ 0; decide)]
/-- tokens that make an argument -/
def ArgTk (ts : List LT) (ra : Option RE × List TA) (m : Nat) : Prop := ∀ rest c, c + m ≤ 1000 → arg (ts ++ rest) c = .ok ra rest (c + m)
theorem argTk_re (x : RE) (a : Nat) (h : big (some x) = false) : ArgTk [⟨4, [], some x, a⟩] (some x, []) 0 := fun rest c hc => by
  show arg (⟨4, [], some x, a⟩ :: rest) c = _
  unfold arg expr
  rw [hd_cons, if_pos rfl, if_pos rfl, if_neg (by rw [h]; simp), stp_cons _ _ (by show (4 : Nat) ≠ 0; decide)]
  rfl
theorem argTk_name (t : LT) (h : NameTk t) : ArgTk [t] (none, [nameT t]) 1 := fun rest c hc => by
  show arg (t :: rest) c = _
  unfold arg
  rw [hd_cons, if_neg (by rw [h.kind]; decide), nmT_name h, if_neg (by omega)]
  rfl
variable {G : RE → Prop} {N : Nat}
/-- expressions that are read again from their texts -/
def Again (G : RE → Prop) (N : Nat) : Prop := ∀ x, G x → big (some x) = false ∧ ((RE.ofW x).length ≤ N → readW (RE.ofW x) = (some x, 0, 0))
theorem arg_tk (hG : Again G N) {r : Option RE} {ks : List TA} (h : ArgOk G r ks) (hl : (TA.arg r ks).length ≤ N) (p : Nat) :
    ∃ ts r' ks' m, Seg p (TA.arg r ks) ts ∧ ArgTk ts (r', ks') m ∧ r' = r ∧ TA.bares ks' = TA.bares ks ∧ m = TA.sizes ks ∧ ∀ o, o = 2 ∨ o = 16 ∨ o = 3 ∨ o = 4 ∨ o = 5 ∨ o = 17 → TA.nestG o 0 ks 0 = 0 := by
  rcases h with ⟨x, rfl, hx, rfl⟩ | ⟨rfl, b, a, n, rfl, hn⟩
  · have e : TA.arg (some x) [] = [47] ++ RE.ofW x ++ [47] := rfl
    rw [e] at hl ⊢
    exact ⟨_, _, _, 0, (LX.seg_expr p x ((hG x hx).2 (by simp at hl; omega))).seg, argTk_re x p (hG x hx).1, rfl, rfl, rfl, fun o ho => rfl⟩
  · have e : TA.arg none [TA.node b 0 a n none [] [] []] = n := by rw [TA.arg, TA.str, if_pos rfl]
    rw [e]
    refine ⟨_, _, _, 1, LX.seg_name p hn, argTk_name _ ⟨rfl, hn⟩, rfl, rfl, rfl, ?_⟩
    rintro o (rfl | rfl | rfl | rfl | rfl | rfl) <;> rfl
theorem qu_seg (p : Nat) (l : List UInt8) : SegF p ([32] ++ quoteW l) [⟨3, l, none, p + 1⟩] := (LX.seg_gap p 32 (.inl rfl)).app (LX.seg_text (p + 1) l)
def Wr (t : TA) (p : Nat) : Prop := ∃ ts t', Seg p t.str ts ∧ Tk (4 - TA.lvl t.op) ts t' t.size t.nest ∧ t'.bare = t.bare
theorem wr_mk {t t' : TA} {p l n d : Nat} {a : List UInt8} {ts : List LT} (h : Seg p a ts) (hk : Tk l ts t' n d) (ha : a = t.str) (hl : l = 4 - TA.lvl t.op) (hn : n = t.size) (hd : d = t.nest) (hb : t'.bare = t.bare) : Wr t p :=
  ⟨ts, t', seg_cast h ha rfl, hk.cast hl hn hd, hb⟩
/-- .. within one of a level -/
theorem wr_in {t : TA} {p : Nat} (l : Nat) (h : ∀ p, Wr t p) (hl : l ≤ 4) : ∃ ts t', Seg p (if TA.lvl t.op < l then [40] ++ t.str ++ [41] else t.str) ts ∧ Tk (4 - l) ts t' t.size (t.nest + if TA.lvl t.op < l then 1 else 0) ∧ t'.bare = t.bare := by
  by_cases hlt : TA.lvl t.op < l
  · obtain ⟨ts, t', h1, h2, h3⟩ := h (p + 1)
    simp only [if_pos hlt]
    have g1 := (LX.seg_sign p 40 (by decide)).app_seg h1
    have g2 := (g1.app (LX.seg_sign _ 41 (by decide)) ⟨41, [], rfl, by decide⟩).seg
    refine ⟨_, t', g2, ?_, h3⟩
    exact (Tk.par _ _ _ _ _ _ (h2.le (by omega))).le (by omega)
  · obtain ⟨ts, t', h1, h2, h3⟩ := h p
    simp only [if_neg hlt]
    exact ⟨ts, t', h1, h2.le (by omega), h3⟩
theorem wr_two {x y : TA} {p : Nat} (b : Nat) (a : Int) (k : Nat) (hk : k ≤ 2) (hx : ∀ p, Wr x p) (hy : ∀ p, Wr y p) : Wr (.node b (opc (2 - k)) a [] none [] [] [x, y]) p := by
  have hlv : TA.lvl (opc (2 - k)) = 2 - k := by
    have h : k = 0 ∨ k = 1 ∨ k = 2 := by omega
    rcases h with rfl | rfl | rfl <;> rfl
  have hsg : LX.signs.contains (sgn (2 - k)) = true := by
    have h : k = 0 ∨ k = 1 ∨ k = 2 := by omega
    rcases h with rfl | rfl | rfl <;> rfl
  obtain ⟨ts, x', h1, h2, h3⟩ := wr_in (p := p) (2 - k) hx (by omega)
  have g1 := h1.app (seg_sg3 _ (sgn (2 - k)) hsg) (nl32 _)
  obtain ⟨ts', y', h4, h5, h6⟩ := wr_in (p := p + ((if TA.lvl x.op < 2 - k then [40] ++ x.str ++ [41] else x.str) ++ [32, sgn (2 - k), 32]).length) (2 - k + 1) hy (by omega)
  have g2 := g1.app_seg h4
  have e : 4 - (2 - k) = k + 2 := by omega
  have e' : 4 - (2 - k + 1) = k + 1 := by omega
  rw [e] at h2
  rw [e'] at h5
  refine wr_mk (seg_cast g2 rfl (by simp)) (Tk.bin k (p + (if TA.lvl x.op < 2 - k then [40] ++ x.str ++ [41] else x.str).length + 1) hk ts ts' x' y' _ _ _ _ h2 h5) ?_ ?_ ?_ ?_ ?_
  · have h : k = 0 ∨ k = 1 ∨ k = 2 := by omega
    rcases h with rfl | rfl | rfl <;> rfl
  · show k + 2 = 4 - TA.lvl (opc (2 - k)); omega
  · simp only [TA.size, TA.sizes]; omega
  · have hw : ∀ i ko, TA.wrapB (opc (2 - k)) i ko = decide (TA.lvl ko < 2 - k + i) := fun i ko => by
      unfold TA.wrapB
      rw [hlv, if_pos]
      have h : k = 0 ∨ k = 1 ∨ k = 2 := by omega
      rcases h with rfl | rfl | rfl <;> decide
    simp only [TA.nest, TA.nestG, hw, decide_eq_true_eq, Nat.add_zero, Nat.zero_add, Nat.zero_max]
  · simp only [TA.bare, TA.bares, h3, h6]
theorem str_tk {M : Nat} (hG : Again G N) {t : TA} (h : Sh G M t) : t.str.length ≤ N → ∀ p, Wr t p := by
  induction h with
  | name b a n h =>
    intro hl p
    exact wr_mk (LX.seg_name p h) (Tk.name _ ⟨rfl, h⟩) (by rw [TA.str, if_pos rfl]) rfl rfl rfl rfl
  | re b a x h =>
    intro hl p
    have e : TA.str (.node b 1 a [] (some x) [] [] []) = [47] ++ RE.ofW x ++ [47] := rfl
    rw [e] at hl
    exact wr_mk (LX.seg_expr p x ((hG x h).2 (by simp at hl; omega))).seg (Tk.re p _ (hG x h).1) e.symm rfl rfl rfl rfl
  | copy b a o r ks ho h =>
    intro hl p
    have ho18 : o < 18 := by omega
    have hw : TA.word o ≠ [] := by rcases ho with rfl | rfl <;> decide
    have e : TA.str (.node b o a [] r [] [] ks) = TA.word o ++ [32] ++ TA.arg r ks := by rcases ho with rfl | rfl <;> rfl
    rw [e] at hl
    obtain ⟨k1, k2⟩ := seg_kw p o ho18 hw
    have g1 := k1.app (LX.seg_gap _ 32 (.inl rfl)) (nl32 [])
    obtain ⟨ts, r', ks', m, a1, a2, rfl, a4, rfl, a6⟩ := arg_tk hG h (by simp at hl; omega) (p + (TA.word o ++ [32]).length)
    refine wr_mk (seg_cast (g1.app_seg a1) rfl rfl) (Tk.leaf ⟨1, TA.word o, none, p⟩ o ts (TA.node 0 o (p : Nat) [] r' [] [] ks') (TA.sizes ks + 1) rfl k2 (by omega) fun rest c hc => ?_) e.symm (by rcases ho with rfl | rfl <;> rfl) (by simp only [TA.size]; omega) (by show 0 = TA.nestG o 0 ks 0; exact (a6 o (by omega)).symm) (by simp only [TA.bare, a4])
    rw [plain_copy o ho, cnt_ok _ _ _ (by omega), bind_ok, a2 rest (c + 1) (by omega), bind_ok, show c + 1 + TA.sizes ks = c + (TA.sizes ks + 1) by omega]
  | key b a n r ks hn h =>
    intro hl p
    have e : TA.str (.node b 3 a n r [] [] ks) = TA.word 3 ++ [32] ++ n ++ [32] ++ TA.arg r ks := rfl
    rw [e] at hl
    obtain ⟨k1, k2⟩ := seg_kw p 3 (by decide) (by decide)
    have g1 := k1.app (LX.seg_gap _ 32 (.inl rfl)) (nl32 [])
    have g2 := (g1.app_seg (LX.seg_name _ hn)).app (LX.seg_gap _ 32 (.inl rfl)) (nl32 [])
    obtain ⟨ts, r', ks', m, a1, a2, rfl, a4, rfl, a6⟩ := arg_tk hG h (by simp at hl; omega) (p + (TA.word 3 ++ [32] ++ n ++ [32]).length)
    refine wr_mk (seg_cast (g2.app_seg a1) rfl rfl) (Tk.leaf ⟨1, TA.word 3, none, p⟩ 3 (⟨1, n, none, p + (TA.word 3 ++ [32]).length⟩ :: ts) (TA.node 0 3 (p : Nat) n r' [] [] ks') (TA.sizes ks + 1) rfl k2 (by omega) fun rest c hc => ?_) e.symm rfl (by simp only [TA.size]; omega) (by show 0 = TA.nestG 3 0 ks 0; exact (a6 3 (by omega)).symm) (by simp only [TA.bare, a4])
    rw [plain_key, cnt_ok _ _ _ (by omega), bind_ok, List.cons_append, nm_name ⟨rfl, hn⟩, bind_ok, bind_ok, a2 rest (c + 1) (by omega), bind_ok, show c + 1 + TA.sizes ks = c + (TA.sizes ks + 1) by omega]
  | const b a r t k ks _ _ h =>
    intro hl p
    have e : TA.str (.node b 4 a [] r t k ks) = TA.word 4 ++ [32] ++ TA.arg r ks ++ [32] ++ quoteW t ++ [32] ++ quoteW k := rfl
    rw [e] at hl
    obtain ⟨k1, k2⟩ := seg_kw p 4 (by decide) (by decide)
    have g1 := k1.app (LX.seg_gap _ 32 (.inl rfl)) (nl32 [])
    obtain ⟨ts, r', ks', m, a1, a2, rfl, a4, rfl, a6⟩ := arg_tk hG h (by simp at hl; omega) (p + (TA.word 4 ++ [32]).length)
    have g2 := ((g1.app_seg a1).app (qu_seg _ t) (nl32 _)).app (qu_seg _ k)
    refine wr_mk (seg_cast g2.seg (by simp) (by simp)) (Tk.leaf ⟨1, TA.word 4, none, p⟩ 4 (ts ++ [⟨3, t, none, p + (TA.word 4 ++ [32] ++ TA.arg r' ks).length + 1⟩, ⟨3, k, none, p + (TA.word 4 ++ [32] ++ TA.arg r' ks ++ ([32] ++ quoteW t)).length + 1⟩]) (TA.node 0 4 (p : Nat) [] r' t k ks') (TA.sizes ks + 1) rfl k2 (by omega) fun rest c hc => ?_) e.symm rfl (by simp only [TA.size]; omega) (by show 0 = TA.nestG 4 0 ks 0; exact (a6 4 (by omega)).symm) (by simp only [TA.bare, a4])
    rw [plain_const, cnt_ok _ _ _ (by omega), bind_ok, List.append_assoc, a2 _ (c + 1) (by omega), bind_ok, List.cons_append, quo_t, bind_ok, List.cons_append, quo_t, bind_ok, show c + 1 + TA.sizes ks = c + (TA.sizes ks + 1) by omega]
    rfl
  | del b a r k ks _ h =>
    intro hl p
    have e : TA.str (.node b 5 a [] r [] k ks) = TA.word 5 ++ [32] ++ TA.arg r ks ++ [32] ++ quoteW k := rfl
    rw [e] at hl
    obtain ⟨k1, k2⟩ := seg_kw p 5 (by decide) (by decide)
    have g1 := k1.app (LX.seg_gap _ 32 (.inl rfl)) (nl32 [])
    obtain ⟨ts, r', ks', m, a1, a2, rfl, a4, rfl, a6⟩ := arg_tk hG h (by simp at hl; omega) (p + (TA.word 5 ++ [32]).length)
    have g2 := (g1.app_seg a1).app (qu_seg _ k) (nl32 _)
    refine wr_mk (seg_cast g2.seg (by simp) (by simp)) (Tk.leaf ⟨1, TA.word 5, none, p⟩ 5 (ts ++ [⟨3, k, none, p + (TA.word 5 ++ [32] ++ TA.arg r' ks).length + 1⟩]) (TA.node 0 5 (p : Nat) [] r' [] k ks') (TA.sizes ks + 1) rfl k2 (by omega) fun rest c hc => ?_) e.symm rfl (by simp only [TA.size]; omega) (by show 0 = TA.nestG 5 0 ks 0; exact (a6 5 (by omega)).symm) (by simp only [TA.bare, a4])
    rw [plain_del, cnt_ok _ _ _ (by omega), bind_ok, List.append_assoc, a2 _ (c + 1) (by omega), bind_ok, List.cons_append, quo_t, bind_ok, show c + 1 + TA.sizes ks = c + (TA.sizes ks + 1) by omega]
    rfl
  | norm b a r t ks _ h =>
    intro hl p
    have e : TA.str (.node b 17 a [] r t [] ks) = TA.word 17 ++ [32] ++ TA.arg r ks ++ [32] ++ quoteW t := rfl
    rw [e] at hl
    obtain ⟨k1, k2⟩ := seg_kw p 17 (by decide) (by decide)
    have g1 := k1.app (LX.seg_gap _ 32 (.inl rfl)) (nl32 [])
    obtain ⟨ts, r', ks', m, a1, a2, rfl, a4, rfl, a6⟩ := arg_tk hG h (by simp at hl; omega) (p + (TA.word 17 ++ [32]).length)
    have g2 := (g1.app_seg a1).app (qu_seg _ t) (nl32 _)
    refine wr_mk (seg_cast g2.seg (by simp) (by simp)) (Tk.leaf ⟨1, TA.word 17, none, p⟩ 17 (ts ++ [⟨3, t, none, p + (TA.word 17 ++ [32] ++ TA.arg r' ks).length + 1⟩]) (TA.node 0 17 (p : Nat) [] r' t [] ks') (TA.sizes ks + 1) rfl k2 (by omega) fun rest c hc => ?_) e.symm rfl (by simp only [TA.size]; omega) (by show 0 = TA.nestG 17 0 ks 0; exact (a6 17 (by omega)).symm) (by simp only [TA.bare, a4])
    rw [plain_norm, cnt_ok _ _ _ (by omega), bind_ok, List.append_assoc, a2 _ (c + 1) (by omega), bind_ok, List.cons_append, quo_t, bind_ok, show c + 1 + TA.sizes ks = c + (TA.sizes ks + 1) by omega]
    rfl
  | ins b a t _ =>
    intro hl p
    have e : TA.str (.node b 6 a [] none t [] []) = TA.word 6 ++ [32] ++ quoteW t := rfl
    obtain ⟨k1, k2⟩ := seg_kw p 6 (by decide) (by decide)
    have g2 := k1.app (qu_seg _ t) (nl32 _)
    refine wr_mk (seg_cast g2.seg (by simp) (by simp)) (Tk.leaf ⟨1, TA.word 6, none, p⟩ 6 [⟨3, t, none, p + (TA.word 6).length + 1⟩] (TA.node 0 6 (p : Nat) [] none t [] []) 1 rfl k2 (by omega) fun rest c hc => ?_) e.symm rfl rfl rfl rfl
    rw [plain_ins, cnt_ok _ _ _ (by omega), bind_ok, List.cons_append, quo_t, bind_ok]
    rfl
  | two b a o x y ho hx hy ihx ihy =>
    intro hl p
    have hk : ∃ k, k ≤ 2 ∧ o = opc (2 - k) := by
      rcases ho with rfl | rfl | rfl
      · exact ⟨2, by omega, rfl⟩
      · exact ⟨1, by omega, rfl⟩
      · exact ⟨0, by omega, rfl⟩
    obtain ⟨k, hk, rfl⟩ := hk
    have hlen : x.str.length ≤ N ∧ y.str.length ≤ N := by
      have e : TA.str (.node b (opc (2 - k)) a [] none [] [] [x, y]) = (if TA.lvl x.op < 2 - k then [40] ++ x.str ++ [41] else x.str) ++ [32, sgn (2 - k), 32] ++ (if TA.lvl y.op < 2 - k + 1 then [40] ++ y.str ++ [41] else y.str) := by
        have h : k = 0 ∨ k = 1 ∨ k = 2 := by omega
        rcases h with rfl | rfl | rfl <;> rfl
      rw [e] at hl
      simp only [List.length_append] at hl
      have h1 : x.str.length ≤ (if TA.lvl x.op < 2 - k then [40] ++ x.str ++ [41] else x.str).length := by split <;> simp <;> omega
      have h2 : y.str.length ≤ (if TA.lvl y.op < 2 - k + 1 then [40] ++ y.str ++ [41] else y.str).length := by split <;> simp <;> omega
      omega
    exact wr_two b a k hk (ihx hlen.1) (ihy hlen.2)
  | star b a x hx ih =>
    intro hl p
    have e : TA.str (.node b 9 a [] none [] [] [x]) = (if TA.lvl x.op < 3 then [40] ++ x.str ++ [41] else x.str) ++ [42] := rfl
    have hlen : x.str.length ≤ N := by
      rw [e] at hl
      simp only [List.length_append] at hl
      have h1 : x.str.length ≤ (if TA.lvl x.op < 3 then [40] ++ x.str ++ [41] else x.str).length := by split <;> simp <;> omega
      omega
    obtain ⟨ts, x', h1, h2, h3⟩ := wr_in (p := p) 3 (ih hlen) (by omega)
    have g1 := h1.app (LX.seg_sign _ 42 (by decide)) ⟨42, [], rfl, by decide⟩
    refine wr_mk g1.seg (Tk.sta _ ts x' _ _ h2) e.symm rfl (by simp only [TA.size, TA.sizes]; omega) ?_ (by simp only [TA.bare, TA.bares, h3])
    have hw : ∀ i ko, TA.wrapB 9 i ko = decide (TA.lvl ko < 3) := fun i ko => rfl
    simp only [TA.nest, TA.nestG, hw, decide_eq_true_eq, Nat.zero_max]
  | call1 b a o x ho hx ih =>
    intro hl p
    have ho18 : o < 18 := by omega
    have hw : TA.word o ≠ [] := by rcases ho with rfl | rfl <;> decide
    have e : TA.str (.node b o a [] none [] [] [x]) = TA.word o ++ [40] ++ x.str ++ [41] := by
      rcases ho with rfl | rfl <;> simp [TA.str, TA.strs, Lib.join]
    have hlen : x.str.length ≤ N := by rw [e] at hl; simp at hl; omega
    obtain ⟨k1, k2⟩ := seg_kw p o ho18 hw
    have g1 := k1.app (LX.seg_sign _ 40 (by decide)) ⟨40, [], rfl, by decide⟩
    obtain ⟨ts, x', h1, h2, h3⟩ := ih hlen (p + (TA.word o ++ [40]).length)
    have g2 := (g1.app_seg h1).app (LX.seg_sign _ 41 (by decide)) ⟨41, [], rfl, by decide⟩
    refine wr_mk (seg_cast g2.seg rfl (by simp [sgT])) (Tk.one ⟨1, TA.word o, none, p⟩ o (p + (TA.word o).length) (p + (TA.word o ++ [40] ++ x.str).length) ts x' _ _ rfl k2 ho (h2.le (by omega))) e.symm (by rcases ho with rfl | rfl <;> rfl) (by simp only [TA.size, TA.sizes]; omega) ?_ (by simp only [TA.bare, TA.bares, h3])
    have hw : ∀ i ko, TA.wrapB o i ko = true := fun i ko => by rcases ho with rfl | rfl <;> rfl
    simp only [TA.nest, TA.nestG, hw, if_true, Nat.zero_max]
  | call2 b a o x y ho hx hy ihx ihy =>
    intro hl p
    have ho18 : o < 18 := by omega
    have hw : TA.word o ≠ [] := by rcases ho with rfl | rfl | rfl <;> decide
    have e : TA.str (.node b o a [] none [] [] [x, y]) = TA.word o ++ [40] ++ x.str ++ [44, 32] ++ y.str ++ [41] := by
      rcases ho with rfl | rfl | rfl <;> simp [TA.str, TA.strs, Lib.join]
    have hlen : x.str.length ≤ N ∧ y.str.length ≤ N := by rw [e] at hl; simp at hl; omega
    obtain ⟨k1, k2⟩ := seg_kw p o ho18 hw
    have g1 := k1.app (LX.seg_sign _ 40 (by decide)) ⟨40, [], rfl, by decide⟩
    obtain ⟨ts, x', h1, h2, h3⟩ := ihx hlen.1 (p + (TA.word o ++ [40]).length)
    have gc : ∀ q, SegF q [44, 32] [sgT 44 q] := fun q => (LX.seg_sign q 44 (by decide)).app (LX.seg_gap (q + 1) 32 (.inl rfl))
    have g2 := (g1.app_seg h1).app (gc _) ⟨44, [32], rfl, by decide⟩
    obtain ⟨ts', y', h4, h5, h6⟩ := ihy hlen.2 (p + (TA.word o ++ [40] ++ x.str ++ [44, 32]).length)
    have g3 := (g2.app_seg h4).app (LX.seg_sign _ 41 (by decide)) ⟨41, [], rfl, by decide⟩
    refine wr_mk (seg_cast g3.seg rfl (by simp [sgT])) (Tk.two ⟨1, TA.word o, none, p⟩ o (p + (TA.word o).length) (p + (TA.word o ++ [40] ++ x.str).length) (p + (TA.word o ++ [40] ++ x.str ++ [44, 32] ++ y.str).length) ts ts' x' y' _ _ _ _ rfl k2 ho (h2.le (by omega)) (h5.le (by omega))) e.symm (by rcases ho with rfl | rfl | rfl <;> rfl) (by simp only [TA.size, TA.sizes]; omega) ?_ (by simp only [TA.bare, TA.bares, h3, h6])
    have hw : ∀ i ko, TA.wrapB o i ko = true := fun i ko => by rcases ho with rfl | rfl | rfl <;> rfl
    simp only [TA.nest, TA.nestG, hw, if_true, Nat.zero_max]
    omega
end PR
end Go.Proofs.YtgamknphlmcgnaaGreatDoor
end
section
set_option linter.unusedSimpArgs false
set_option linter.unusedVariables false
set_option maxRecDepth 100000
set_option linter.unnecessarySimpa false
namespace Go.Proofs.YtgamknphlmcgnaaGreatDoor
namespace TA
mutual
theorem str_bare : (t : TA) → str (bare t) = str t
  | node _ o _ n r t k ks => by simp only [bare, str]; rw [arg_bares r ks, pair_bares [32, 124, 32] 0 ks, pair_bares [32, 46, 32] 1 ks, pair_bares [32, 59, 32] 2 ks, star_bares ks, strs_bares ks]
theorem arg_bares (r : Option RE) : (l : List TA) → arg r (bares l) = arg r l
  | [] => rfl
  | [k] => by simp only [bares, arg]; exact str_bare k
  | _ :: _ :: _ => by simp only [bares, arg]
theorem pair_bares (s : List UInt8) (n : Nat) : (l : List TA) → pair s n (bares l) = pair s n l
  | [] => rfl
  | [k] => by simp only [bares, pair]
  | [x, y] => by simp only [bares, pair, op_bare]; rw [str_bare x, str_bare y]
  | _ :: _ :: _ :: _ => by simp only [bares, pair]
theorem star_bares : (l : List TA) → star (bares l) = star l
  | [] => rfl
  | [k] => by simp only [bares, star, op_bare]; rw [str_bare k]
  | _ :: _ :: _ => by simp only [bares, star]
theorem strs_bares : (l : List TA) → strs (bares l) = strs l
  | [] => rfl
  | k :: l => by simp only [bares, strs]; rw [str_bare k, strs_bares l]
end
theorem str_of_bare {t u : TA} (h : bare t = bare u) : t.str = u.str := by rw [← str_bare t, h, str_bare]
mutual
/-- are two terms the same, wherever they stand? -/
def same : TA → TA → Bool
  | node _ o _ n r t k ks, u => (o == u.op) && (n == u.name) && sameB r u.re && (t == u.text) && (k == u.back) && (ks.length == u.kids.length) && sames ks u.kids
def sames : List TA → List TA → Bool
  | [], _ => true
  | _ :: _, [] => false
  | k :: ks, l :: ls => same k l && sames ks ls
end
theorem same_eq (t u : TA) : same t u = ((t.op == u.op) && (t.name == u.name) && sameB t.re u.re && (t.text == u.text) && (t.back == u.back) && (t.kids.length == u.kids.length) && sames t.kids u.kids) := by cases t; rfl
theorem bares_length (l : List TA) : (bares l).length = l.length := by rw [bares_map, List.length_map]
mutual
theorem same_of_bare : (t u : TA) → bare t = bare u → same t u = true
  | node _ o _ n r t k ks, node _ o' _ n' r' t' k' ks', h => by
    simp only [bare, node.injEq, true_and] at h
    obtain ⟨h1, h2, h3, h4, h5, h6⟩ := h
    subst h1 h2 h3 h4 h5
    have hl : ks.length = ks'.length := by rw [← bares_length ks, h6, bares_length]
    simp only [same, op, name, re, text, back, kids, sameB, beq_self_eq_true, decide_true, Bool.true_and, hl]
    exact sames_of_bares ks ks' h6
theorem sames_of_bares : (l m : List TA) → bares l = bares m → sames l m = true
  | [], _, _ => rfl
  | k :: l, [], h => by simp [bares] at h
  | k :: l, j :: m, h => by
    simp only [bares, List.cons.injEq] at h
    simp only [sames, same_of_bare k j h.1, sames_of_bares l m h.2, Bool.and_true]
end
end TA
namespace PR
open LX (Seg SegF NL)
/-- a part's outcome: what it makes is so; an error is one of three, within the text -/
def Res.All {A : Type} (N : Nat) (P : A → List LT → Nat → Prop) (r : Res A) : Prop := match r with | .ok a ts c => P a ts c | .bad e p => (e = 2 ∨ e = 3 ∨ e = 4) ∧ p ≤ N
theorem Res.All.bind {A B : Type} {Q : A → List LT → Nat → Prop} {P : B → List LT → Nat → Prop} {r : Res A} {f : A → List LT → Nat → Res B} {N : Nat} (h : r.All N Q) (hf : ∀ a ts c, Q a ts c → (f a ts c).All N P) : (r.bind f).All N P := by
  cases r with
  | ok a ts c => exact hf a ts c h
  | bad e p => exact h
theorem Res.All.mono {A : Type} {P Q : A → List LT → Nat → Prop} {r : Res A} {N : Nat} (h : r.All N P) (hf : ∀ a ts c, P a ts c → Q a ts c) : r.All N Q := by
  cases r with
  | ok a ts c => exact hf a ts c h
  | bad e p => exact h
/-- tokens as the lexer makes them -/
def Good (G : RE → Prop) (N : Nat) (ts : List LT) : Prop := ∀ x ∈ ts, (x.kind = 4 → ∃ y, x.re = some y ∧ G y) ∧ (x.kind = 1 → x.text ≠ []) ∧ x.at_ ≤ N ∧ x.text.length ≤ N
variable {G : RE → Prop} {N : Nat} {ts : List LT} {c : Nat}
theorem Good.tail (h : Good G N ts) : Good G N ts.tail := fun x hx => h x (List.mem_of_mem_tail hx)
theorem Good.stp (h : Good G N ts) : Good G N (PR.stp ts) := by
  unfold PR.stp; split
  · exact h
  · exact h.tail
theorem Good.hd (h : Good G N ts) : ((hd ts).kind = 4 → ∃ y, (hd ts).re = some y ∧ G y) ∧ ((hd ts).kind = 1 → (hd ts).text ≠ []) ∧ (hd ts).at_ ≤ N ∧ (hd ts).text.length ≤ N := by
  cases ts with
  | nil => exact ⟨fun e => absurd e (by decide), fun e => absurd e (by decide), Nat.zero_le _, Nat.zero_le _⟩
  | cons x ts => exact h x (by simp)
/-- .. and what of them may stand in a program -/
def Gd (G : RE → Prop) (x : RE) : Prop := G x ∧ big (some x) = false
theorem Good.form {A : Type} {P : A → List LT → Nat → Prop} (hg : Good G N ts) : (form ts : Res A).All N P := ⟨.inl rfl, hg.hd.2.2.1⟩
theorem all_cnt (p : Nat) (hp : p ≤ N) (hg : Good G N ts) : (cnt p ts c).All N fun _ ts' c' => Good G N ts' ∧ c' = c + 1 ∧ c' ≤ 1000 := by
  unfold cnt; split
  · exact ⟨.inr (.inl rfl), hp⟩
  · exact ⟨hg, rfl, by omega⟩
theorem all_want (s : List UInt8) (hg : Good G N ts) : (want s ts c).All N fun _ ts' c' => Good G N ts' ∧ c' = c := by
  unfold want; split
  · exact ⟨hg.stp, rfl⟩
  · exact hg.form
theorem all_opn (g : Nat) (hg : Good G N ts) : (opn g ts c).All N fun _ ts' c' => Good G N ts' ∧ c' = c ∧ g ≠ 0 := by
  unfold opn; split
  · split
    · exact ⟨.inr (.inr rfl), hg.hd.2.2.1⟩
    · exact ⟨hg.stp, rfl, by assumption⟩
  · exact hg.form
theorem all_nm (hg : Good G N ts) : (nm ts c).All N fun n ts' c' => Good G N ts' ∧ c' = c ∧ LX.nameB n.text = true ∧ n.at_ ≤ N := by
  unfold nm; split
  · rename_i h; exact ⟨hg.stp, rfl, h.2, hg.hd.2.2.1⟩
  · exact hg.form
theorem all_nmx (hg : Good G N ts) : ((nm ts c).bind fun n ts c => (.ok n.text ts c : Res (List UInt8))).All N fun n ts' c' => Good G N ts' ∧ c' = c ∧ LX.nameB n = true :=
  (all_nm hg).bind fun n ts c2 h => ⟨h.1, h.2.1, h.2.2.1⟩
theorem all_quo (hg : Good G N ts) : (quo ts c).All N fun t ts' c' => Good G N ts' ∧ c' = c ∧ t.length ≤ N := by
  unfold quo; split
  · exact ⟨hg.stp, rfl, hg.hd.2.2.2⟩
  · exact hg.form
theorem all_expr (hg : Good G N ts) : (expr ts c).All N fun r ts' c' => Good G N ts' ∧ c' = c ∧ ∃ x, r = some x ∧ Gd G x := by
  unfold expr; split
  · rename_i h
    split
    · exact ⟨.inr (.inl rfl), hg.hd.2.2.1⟩
    · rename_i hb
      obtain ⟨y, hy, hgy⟩ := hg.hd.1 h
      refine ⟨hg.stp, rfl, y, hy, hgy, ?_⟩
      rw [← hy]; simpa using hb
  · exact hg.form
theorem all_nmT (hg : Good G N ts) : (nmT ts c).All N fun t ts' c' => Good G N ts' ∧ c' = c + 1 ∧ c' ≤ 1000 ∧ ∃ n : LT, t = nameT n ∧ LX.nameB n.text = true :=
  (all_nm hg).bind fun n ts' c' ⟨h1, h2, h3, h4⟩ => (all_cnt n.at_ h4 h1).bind fun _ ts'' c'' ⟨k1, k2, k3⟩ => ⟨k1, by omega, k3, n, rfl, h3⟩
theorem all_arg (hg : Good G N ts) (hc : c ≤ 1000) : (PR.arg ts c).All N fun ra ts' c' => Good G N ts' ∧ c' = c + TA.sizes ra.2 ∧ c' ≤ 1000 ∧ ArgOk (Gd G) ra.1 ra.2 := by
  unfold PR.arg; split
  · exact (all_expr hg).bind fun r ts' c' ⟨h1, h2, x, hx, hgx⟩ => ⟨h1, by simp [TA.sizes]; omega, by omega, .inl ⟨x, hx, hgx, rfl⟩⟩
  · exact (all_nmT hg).bind fun t ts' c' ⟨h1, h2, h3, n, hn, hb⟩ => by
      subst hn
      exact ⟨h1, by simp [TA.sizes, TA.size, nameT]; omega, h3, .inr ⟨rfl, 0, _, n.text, rfl, hb⟩⟩
/-- how deep a term is, as a part of a level -/
def D (l : Nat) (t : TA) (g : Nat) : Prop := t.nest + (if TA.lvl t.op + l < 4 then 1 else 0) ≤ g
theorem D.mono {l l' g : Nat} {t : TA} (h : D l t g) (hl : l ≤ l') : D l' t g := by
  unfold D at *
  split <;> split at h <;> omega
theorem D.nest {l g : Nat} {t : TA} (h : D l t g) : t.nest ≤ g := by unfold D at h; omega
/-- what a part of the parser makes -/
def Out (G : RE → Prop) (N : Nat) (l g c : Nat) (t : TA) (ts' : List LT) (c' : Nat) : Prop := Good G N ts' ∧ c' = c + t.size ∧ c' ≤ 1000 ∧ Sh (Gd G) N t ∧ D l t g
theorem nest_arg {o : Nat} (ho : o = 2 ∨ o = 16 ∨ o = 3 ∨ o = 4 ∨ o = 5 ∨ o = 17 ∨ o = 6) {r : Option RE} {ks : List TA} (h : ArgOk G r ks) : TA.nestG o 0 ks 0 = 0 := by
  rcases h with ⟨x, rfl, hx, rfl⟩ | ⟨rfl, b, a, n, rfl, hn⟩
  · rfl
  · rcases ho with rfl | rfl | rfl | rfl | rfl | rfl | rfl <;> rfl
theorem opGo_some {s : List UInt8} {o : Nat} : ∀ {f i : Nat}, opGo s f i = some o → TA.word o = s ∧ i ≤ o ∧ o < i + f
  | 0, i, h => by simp [opGo] at h
  | f + 1, i, h => by
    rw [opGo] at h
    split at h
    · cases h; exact ⟨by assumption, by omega, by omega⟩
    · have := opGo_some h; exact ⟨this.1, by omega, by omega⟩
theorem opOf_some {s : List UInt8} {o : Nat} (h : opOf s = some o) (hs : s ≠ []) : o = 2 ∨ o = 3 ∨ o = 4 ∨ o = 5 ∨ o = 6 ∨ o = 10 ∨ o = 12 ∨ o = 13 ∨ o = 14 ∨ o = 15 ∨ o = 16 ∨ o = 17 := by
  obtain ⟨h1, h2, h3⟩ := opGo_some h
  have key : ∀ o, o < 18 → 2 ≤ o → TA.word o = [] ∨ ([2, 3, 4, 5, 6, 10, 12, 13, 14, 15, 16, 17] : List Nat).contains o = true := by decide
  rcases key o (by omega) h2 with h4 | h4
  · exact absurd (h1.symm.trans h4) hs
  · simpa using h4
theorem all_plain (g o a : Nat) (ha : a ≤ N) (ho : o = 2 ∨ o = 3 ∨ o = 4 ∨ o = 5 ∨ o = 6 ∨ o = 16 ∨ o = 17) (hg : Good G N ts) : (plain o a ts c).All N (Out G N 0 g c) := by
  have hD : ∀ (b : Nat) (q : Int) (n : List UInt8) (r : Option RE) (t k : List UInt8) (ks : List TA), ArgOk (Gd G) r ks → D 0 (.node b o q n r t k ks) g := fun b q n r t k ks h => by
    unfold D
    have h1 : TA.nest (.node b o q n r t k ks) = 0 := nest_arg (by omega) h
    have h2 : TA.lvl o = 4 := by rcases ho with rfl | rfl | rfl | rfl | rfl | rfl | rfl <;> rfl
    rw [h1, if_neg (by show ¬ (TA.lvl o + 0 < 4); omega)]; omega
  have hsz : ∀ (b : Nat) (q : Int) (n : List UInt8) (r : Option RE) (t k : List UInt8) (ks : List TA), TA.size (.node b o q n r t k ks) = 1 + TA.sizes ks := fun _ _ _ _ _ _ _ => rfl
  rcases ho with rfl | rfl | rfl | rfl | rfl | rfl | rfl
  · rw [plain_copy 2 (.inl rfl)]
    exact (all_cnt a ha hg).bind fun _ ts c1 ⟨h1, h2, h3⟩ => (all_arg h1 h3).bind fun ra ts c2 ⟨k1, k2, k3, k4⟩ => ⟨k1, by rw [hsz]; omega, k3, .copy _ _ _ _ _ (.inl rfl) k4, hD _ _ _ _ _ _ _ k4⟩
  · rw [plain_key]
    exact (all_cnt a ha hg).bind fun _ ts c1 ⟨h1, h2, h3⟩ => (all_nmx h1).bind fun n ts c2 ⟨m1, m2, m3⟩ => (all_arg m1 (by omega)).bind fun ra ts c3 ⟨k1, k2, k3, k4⟩ => ⟨k1, by rw [hsz]; omega, k3, .key _ _ _ _ _ m3 k4, hD _ _ _ _ _ _ _ k4⟩
  · rw [plain_const]
    exact (all_cnt a ha hg).bind fun _ ts c1 ⟨h1, h2, h3⟩ => (all_arg h1 h3).bind fun ra ts c2 ⟨k1, k2, k3, k4⟩ => (all_quo k1).bind fun t ts c3 ⟨q1, q2, q3⟩ => (all_quo q1).bind fun k ts c4 ⟨r1, r2, r3⟩ => ⟨r1, by rw [hsz]; omega, by omega, .const _ _ _ _ _ _ q3 r3 k4, hD _ _ _ _ _ _ _ k4⟩
  · rw [plain_del]
    exact (all_cnt a ha hg).bind fun _ ts c1 ⟨h1, h2, h3⟩ => (all_arg h1 h3).bind fun ra ts c2 ⟨k1, k2, k3, k4⟩ => (all_quo k1).bind fun t ts c3 ⟨q1, q2, q3⟩ => ⟨q1, by rw [hsz]; omega, by omega, .del _ _ _ _ _ q3 k4, hD _ _ _ _ _ _ _ k4⟩
  · rw [plain_ins]
    exact (all_cnt a ha hg).bind fun _ ts c1 ⟨h1, h2, h3⟩ => (all_quo h1).bind fun t ts c3 ⟨q1, q2, q3⟩ => ⟨q1, by simp only [TA.size, TA.sizes]; omega, by omega, .ins _ _ _ q3, by unfold D; rw [if_neg (by show ¬ (TA.lvl 6 + 0 < 4); decide)]; show 0 + 0 ≤ g; omega⟩
  · rw [plain_copy 16 (.inr rfl)]
    exact (all_cnt a ha hg).bind fun _ ts c1 ⟨h1, h2, h3⟩ => (all_arg h1 h3).bind fun ra ts c2 ⟨k1, k2, k3, k4⟩ => ⟨k1, by rw [hsz]; omega, k3, .copy _ _ _ _ _ (.inr rfl) k4, hD _ _ _ _ _ _ _ k4⟩
  · rw [plain_norm]
    exact (all_cnt a ha hg).bind fun _ ts c1 ⟨h1, h2, h3⟩ => (all_arg h1 h3).bind fun ra ts c2 ⟨k1, k2, k3, k4⟩ => (all_quo k1).bind fun t ts c3 ⟨q1, q2, q3⟩ => ⟨q1, by rw [hsz]; omega, by omega, .norm _ _ _ _ _ q3 k4, hD _ _ _ _ _ _ _ k4⟩
/-- what the parser makes of the parts within parentheses -/
def RecOk (G : RE → Prop) (N : Nat) (g : Nat) (rec : List LT → Nat → Res TA) : Prop := g ≠ 0 → ∀ ts c, Good G N ts → (rec ts c).All N (Out G N 4 (g - 1) c)
variable {g : Nat} {rec : List LT → Nat → Res TA}
theorem all_call1 (o a : Nat) (ha : a ≤ N) (ho : o = 12 ∨ o = 13) (hr : RecOk G N g rec) (hg : Good G N ts) : (call o a 1 g rec ts c).All N (Out G N 0 g c) := by
  unfold call
  refine (all_cnt a ha hg).bind fun _ ts c1 ⟨h1, h2, h3⟩ => (all_opn g h1).bind fun _ ts c2 ⟨k1, k2, k3⟩ => ?_
  have hc : (callGo rec 1 [] ts c2).All N fun ks ts' c' => ∃ x, ks = [x] ∧ Out G N 4 (g - 1) c2 x ts' c' := by
    rw [callGo, if_pos (show ([] : List TA).isEmpty = true from rfl), bind_ok]
    exact (hr k3 ts c2 k1).bind fun x ts c3 hx => ⟨x, rfl, hx⟩
  refine hc.bind fun ks ts c3 ⟨x, hks, x1, x2, x3, x4, x5⟩ => (all_want _ x1).bind fun _ ts c4 ⟨w1, w2⟩ => ?_
  subst hks
  refine ⟨w1, by simp only [TA.size, TA.sizes]; omega, by omega, .call1 _ _ _ _ ho x4, ?_⟩
  have := x5.nest
  have hw : ∀ i ko, TA.wrapB o i ko = true := fun i ko => by rcases ho with rfl | rfl <;> rfl
  have hl : TA.lvl o = 4 := by rcases ho with rfl | rfl <;> rfl
  unfold D
  rw [if_neg (by show ¬ (TA.lvl o + 0 < 4); omega)]
  simp only [TA.nest, TA.nestG, hw, if_true]
  omega
theorem all_call2 (o a : Nat) (ha : a ≤ N) (ho : o = 10 ∨ o = 14 ∨ o = 15) (hr : RecOk G N g rec) (hg : Good G N ts) : (call o a 2 g rec ts c).All N (Out G N 0 g c) := by
  unfold call
  refine (all_cnt a ha hg).bind fun _ ts c1 ⟨h1, h2, h3⟩ => (all_opn g h1).bind fun _ ts c2 ⟨k1, k2, k3⟩ => ?_
  have hc : (callGo rec 2 [] ts c2).All N fun ks ts' c' => ∃ x y, ks = [x, y] ∧ (Good G N ts' ∧ c' = c2 + x.size + y.size ∧ c' ≤ 1000) ∧ (Sh (Gd G) N x ∧ x.nest ≤ g - 1) ∧ (Sh (Gd G) N y ∧ y.nest ≤ g - 1) := by
    rw [callGo, if_pos (show ([] : List TA).isEmpty = true from rfl), bind_ok]
    refine (hr k3 ts c2 k1).bind fun x ts c3 ⟨x1, x2, x3, x4, x5⟩ => ?_
    rw [callGo, if_neg (by simp)]
    refine (all_want _ x1).bind fun _ ts c4 ⟨w1, w2⟩ => (hr k3 ts c4 w1).bind fun y ts c5 ⟨y1, y2, y3, y4, y5⟩ => ?_
    exact ⟨x, y, rfl, ⟨y1, by omega, y3⟩, ⟨x4, x5.nest⟩, ⟨y4, y5.nest⟩⟩
  refine hc.bind fun ks ts c3 ⟨x, y, hks, ⟨z1, z2, z3⟩, ⟨x4, x5⟩, ⟨y4, y5⟩⟩ => (all_want _ z1).bind fun _ ts c4 ⟨w1, w2⟩ => ?_
  subst hks
  refine ⟨w1, by simp only [TA.size, TA.sizes]; omega, by omega, .call2 _ _ _ _ _ ho x4 y4, ?_⟩
  have hw : ∀ i ko, TA.wrapB o i ko = true := fun i ko => by rcases ho with rfl | rfl | rfl <;> rfl
  have hl : TA.lvl o = 4 := by rcases ho with rfl | rfl | rfl <;> rfl
  unfold D
  rw [if_neg (by show ¬ (TA.lvl o + 0 < 4); omega)]
  simp only [TA.nest, TA.nestG, hw, if_true]
  omega
theorem out_name (l : Nat) {t : TA} {ts' : List LT} {c' : Nat} (h : Good G N ts' ∧ c' = c + 1 ∧ c' ≤ 1000 ∧ ∃ n : LT, t = nameT n ∧ LX.nameB n.text = true) : Out G N l g c t ts' c' := by
  obtain ⟨h1, h2, h3, n, rfl, hn⟩ := h
  refine ⟨h1, h2, h3, .name _ _ _ hn, ?_⟩
  unfold D
  rw [if_neg (by show ¬ (4 + l < 4); omega)]
  show 0 + 0 ≤ g; omega
theorem all_word (hr : RecOk G N g rec) (hg : Good G N ts) (hk : (hd ts).kind = 1) : (word g rec ts c).All N (Out G N 0 g c) := by
  unfold word
  split
  · rename_i o ho
    have h12 := opOf_some ho (hg.hd.2.1 hk)
    split
    · rename_i h; exact all_call2 o _ hg.hd.2.2.1 h hr hg.stp
    split
    · rename_i h; exact all_call1 o _ hg.hd.2.2.1 h hr hg.stp
    · exact all_plain g o _ hg.hd.2.2.1 (by omega) hg.stp
  · exact (all_nmT hg).mono fun t ts' c' h => out_name 0 h
theorem all_atom (hr : RecOk G N g rec) (hg : Good G N ts) : (atom g rec ts c).All N (Out G N 0 g c) := by
  unfold atom
  split
  · exact all_word hr hg (by assumption)
  split
  · refine (all_cnt _ hg.hd.2.2.1 hg).bind fun _ ts c1 ⟨h1, h2, h3⟩ => (all_expr h1).bind fun r ts c2 ⟨k1, k2, x, hx, hgx⟩ => ?_
    subst hx
    refine ⟨k1, by simp only [TA.size, TA.sizes]; omega, by omega, .re _ _ _ hgx, ?_⟩
    unfold D
    rw [if_neg (by show ¬ (4 + 0 < 4); omega)]
    show 0 + 0 ≤ g; omega
  split
  · refine (all_opn g hg).bind fun _ ts c2 ⟨k1, k2, k3⟩ => (hr k3 ts c2 k1).bind fun x ts c3 ⟨x1, x2, x3, x4, x5⟩ => (all_want _ x1).bind fun _ ts c4 ⟨w1, w2⟩ => ?_
    refine ⟨w1, by omega, by omega, x4, ?_⟩
    have := x5.nest
    unfold D
    split <;> omega
  · exact hg.form
theorem all_starGo : ∀ (n : Nat) (c0 : Nat) (t : TA) (ts : List LT) (c : Nat), Out G N 1 g c0 t ts c → (starGo n t ts c).All N (Out G N 1 g c0)
  | 0, c0, t, ts, c, h => h
  | n + 1, c0, t, ts, c, h => by
    rw [starGo]
    split
    · obtain ⟨h1, h2, h3, h4, h5⟩ := h
      refine (all_cnt _ h1.hd.2.2.1 h1.stp).bind fun _ ts1 c1 ⟨k1, k2, k3⟩ => all_starGo n c0 _ ts1 c1 ⟨k1, by simp only [TA.size, TA.sizes]; omega, k3, .star _ _ _ h4, ?_⟩
      unfold D at h5 ⊢
      rw [if_neg (by show ¬ (3 + 1 < 4); omega)]
      have hw : ∀ i ko, TA.wrapB 9 i ko = decide (TA.lvl ko < 3) := fun i ko => rfl
      simp only [TA.nest, TA.nestG, hw, decide_eq_true_eq, Nat.zero_max]
      split <;> split at h5 <;> omega
    · exact h
theorem Out.up {l l' c c' : Nat} {t : TA} {ts : List LT} (h : Out G N l g c t ts c') (hl : l ≤ l') : Out G N l' g c t ts c' := ⟨h.1, h.2.1, h.2.2.1, h.2.2.2.1, h.2.2.2.2.mono hl⟩
theorem all_star (hr : RecOk G N g rec) (hg : Good G N ts) : (star g rec ts c).All N (Out G N 1 g c) :=
  (all_atom hr hg).bind fun t ts' c' h => all_starGo _ c t ts' c' (h.up (by omega))
theorem all_chGo (k : Nat) (hk : k ≤ 2) {nx : List LT → Nat → Res TA} (hnx : ∀ ts c, Good G N ts → (nx ts c).All N (Out G N (k + 1) g c)) : ∀ (n : Nat) (c0 : Nat) (t : TA) (ts : List LT) (c : Nat), Out G N (k + 2) g c0 t ts c → (chGo (sgn (2 - k)) (opc (2 - k)) nx n t ts c).All N (Out G N (k + 2) g c0)
  | 0, c0, t, ts, c, h => h
  | n + 1, c0, t, ts, c, h => by
    rw [chGo]
    split
    · obtain ⟨h1, h2, h3, h4, h5⟩ := h
      refine (all_cnt _ h1.hd.2.2.1 h1.stp).bind fun _ ts1 c1 ⟨k1, k2, k3⟩ => (hnx ts1 c1 k1).bind fun y ts2 c2 ⟨y1, y2, y3, y4, y5⟩ => all_chGo k hk hnx n c0 _ ts2 c2 ⟨y1, by simp only [TA.size, TA.sizes]; omega, y3, .two _ _ _ _ _ ?_ h4 y4, ?_⟩
      · have h : k = 0 ∨ k = 1 ∨ k = 2 := by omega
        rcases h with rfl | rfl | rfl <;> decide
      · have hlv : TA.lvl (opc (2 - k)) = 2 - k := by
          have h : k = 0 ∨ k = 1 ∨ k = 2 := by omega
          rcases h with rfl | rfl | rfl <;> rfl
        have hw : ∀ i ko, TA.wrapB (opc (2 - k)) i ko = decide (TA.lvl ko < 2 - k + i) := fun i ko => by
          unfold TA.wrapB
          rw [hlv, if_pos]
          have h : k = 0 ∨ k = 1 ∨ k = 2 := by omega
          rcases h with rfl | rfl | rfl <;> decide
        unfold D at h5 y5 ⊢
        rw [if_neg (by show ¬ (TA.lvl (opc (2 - k)) + (k + 2) < 4); omega)]
        simp only [TA.nest, TA.nestG, hw, decide_eq_true_eq, Nat.add_zero, Nat.zero_add, Nat.zero_max]
        split at h5 <;> split at y5 <;> split <;> split <;> omega
    · exact h
theorem all_chN (hr : RecOk G N g rec) : ∀ (k : Nat), k ≤ 3 → ∀ (ts : List LT) (c : Nat), Good G N ts → (chN g rec k ts c).All N (Out G N (k + 1) g c)
  | 0, _, ts, c, hg => all_star hr hg
  | k + 1, hk, ts, c, hg => by
    have ih := all_chN hr k (by omega)
    exact (ih ts c hg).bind fun t ts' c' h => all_chGo k (by omega) ih _ c t ts' c' (h.up (by omega))
theorem all_chain : ∀ (g : Nat) (ts : List LT) (c : Nat), Good G N ts → (chain g ts c).All N (Out G N 4 g c)
  | 0, ts, c, hg => all_chN (fun h => absurd rfl h) 3 (by omega) ts c hg
  | g + 1, ts, c, hg => all_chN (g := g + 1) (rec := chain g) (fun _ ts c hg => all_chain g ts c hg) 3 (by omega) ts c hg
/-- what a binding holds -/
def LetOk (G : RE → Prop) (N : Nat) (l : LetT) : Prop := LX.nameB l.name = true ∧ Sh (Gd G) N l.term ∧ l.term.nest ≤ 60
def szs (ls : List LetT) : Nat := (ls.map fun l => l.term.size).sum
def ProgOk (G : RE → Prop) (N : Nat) (ls : List LetT) (b : TA) : Prop := (∀ l ∈ ls, LetOk G N l) ∧ Sh (Gd G) N b ∧ b.nest ≤ 60 ∧ szs ls + b.size ≤ 1000 ∧ ls.length ≤ 200
theorem szs_app (l m : List LetT) : szs (l ++ m) = szs l + szs m := by simp [szs]
theorem all_progGo : ∀ (n : Nat) (ls : List LetT) (ts : List LT) (c : Nat), Good G N ts → (∀ l ∈ ls, LetOk G N l) → c = szs ls → ls.length ≤ 200 → (progGo n ls ts c).All N fun r _ _ => ProgOk G N r.1 r.2
  | 0, _, _, _, hg, _, _, _ => hg.form
  | n + 1, ls, ts, c, hg, hls, hc, hl => by
    rw [progGo]
    split
    · split
      · exact ⟨.inr (.inl rfl), hg.hd.2.2.1⟩
      · refine (all_nm hg.stp).bind fun x ts1 c1 ⟨h1, h2, h3, _⟩ => (all_want _ h1).bind fun _ ts2 c2 ⟨w1, w2⟩ => (all_chain 60 ts2 c2 w1).bind fun t ts3 c3 ⟨t1, t2, t3, t4, t5⟩ => ?_
        split
        · refine all_progGo n _ _ c3 t1.stp (fun l hl => ?_) (by rw [szs_app]; simp [szs] at hc ⊢; omega) (by simp; omega)
          rcases List.mem_append.1 hl with hl | hl
          · exact hls l hl
          · obtain rfl := List.mem_singleton.1 hl
            exact ⟨h3, t4, t5.nest⟩
        · exact t1.form
    · refine (all_chain 60 ts c hg).bind fun t ts3 c3 ⟨t1, t2, t3, t4, t5⟩ => ?_
      split
      · exact ⟨hls, t4, t5.nest, by show szs ls + t.size ≤ 1000; omega, hl⟩
      · exact t1.form
/-- a program as it is written -/
def letStr (l : LetT) : List UInt8 := [108, 101, 116, 32] ++ l.name ++ [32, 61, 32] ++ l.term.str ++ [32, 105, 110, 10]
def progStr (ls : List LetT) (b : TA) : List UInt8 := ls.flatMap letStr ++ b.str
/-- are two the same, but for places? -/
def LetEq (l m : LetT) : Prop := l.name = m.name ∧ l.term.bare = m.term.bare
inductive LetsEq : List LetT → List LetT → Prop
  | nil : LetsEq [] []
  | cons {l m : LetT} {ls ms : List LetT} (h : LetEq l m) (hs : LetsEq ls ms) : LetsEq (l :: ls) (m :: ms)
theorem LetsEq.length {ls ms : List LetT} (h : LetsEq ls ms) : ls.length = ms.length := by induction h with | nil => rfl | cons h hs ih => simp [ih]
theorem LetsEq.str {ls ms : List LetT} (h : LetsEq ls ms) {b b' : TA} (hb : b.bare = b'.bare) : progStr ls b = progStr ms b' := by
  unfold progStr
  rw [TA.str_of_bare hb]
  congr 1
  induction h with
  | nil => rfl
  | cons h hs ih => rw [List.flatMap_cons, List.flatMap_cons, ih, letStr, letStr, h.1, TA.str_of_bare h.2]
variable {M : Nat}
theorem prog_tk (hG : Again (Gd G) N) {b : TA} (hb : Sh (Gd G) M b) (hd : b.nest ≤ 60) (hbl : b.str.length ≤ N) : ∀ (ls : List LetT), (∀ l ∈ ls, LetOk G M l) → (∀ l ∈ ls, l.term.str.length ≤ N) → ∀ p, ∃ ts ls' b', Seg p (progStr ls b) ts ∧ (∀ e : LT, e.kind = 0 → TkP (ts ++ [e]) ls' b' (szs ls + b.size)) ∧ LetsEq ls' ls ∧ b'.bare = b.bare
  | [], _, _, p => by
    obtain ⟨ts, b', h1, h2, h3⟩ := str_tk hG hb hbl p
    exact ⟨ts, [], b', h1, fun e he => by have := TkP.body e he ts b' _ _ (h2.le (by omega)) hd; simpa [szs] using this, .nil, h3⟩
  | l :: ls, hls, hlen, p => by
    have hl := hls l (by simp)
    obtain ⟨tsr, ls', b', r1, r2, r3, r4⟩ := prog_tk hG hb hd hbl ls (fun m hm => hls m (by simp [hm])) (fun m hm => hlen m (by simp [hm])) (p + (letStr l).length)
    have g1 := (seg_kw' p letW (by decide)).app (LX.seg_gap _ 32 (.inl rfl)) (nl32 [])
    have g2 := (g1.app_seg (LX.seg_name _ hl.1)).app (seg_sg3 _ 61 (by decide)) (nl32 _)
    obtain ⟨ts, t', t1, t2, t3⟩ := str_tk hG hl.2.1 (hlen l (by simp)) (p + (letW ++ [32] ++ l.name ++ [32, 61, 32]).length)
    have g3 := (g2.app_seg t1).app (LX.seg_gap _ 32 (.inl rfl)) (nl32 [])
    have g4 := (g3.app_seg (seg_kw' _ inW (by decide))).app (LX.seg_gap _ 10 (.inr (.inr (.inl rfl)))) ⟨10, [], rfl, by decide⟩
    have e : letW ++ [32] ++ l.name ++ [32, 61, 32] ++ l.term.str ++ [32] ++ inW ++ [10] = letStr l := by simp [letStr, letW, inW]
    rw [e] at g4
    refine ⟨_, ⟨l.name, p + (letW ++ [32]).length, t'⟩ :: ls', b', seg_cast (g4.app_seg r1) (by simp [progStr]) rfl, fun e he => ?_, LetsEq.cons ⟨rfl, t3⟩ r3, r4⟩
    have := TkP.lets p (p + (letW ++ [32] ++ l.name).length + 1) (p + (letW ++ [32] ++ l.name ++ [32, 61, 32] ++ l.term.str ++ [32]).length) ⟨1, l.name, none, p + (letW ++ [32]).length⟩ ⟨rfl, hl.1⟩ ts (tsr ++ [e]) t' b' _ _ _ ls' (t2.le (by omega)) hl.2.2 (r2 e he)
    have h2 : szs (l :: ls) + b.size = l.term.size + (szs ls + b.size) := by simp [szs]; omega
    rw [h2]
    simpa using this
end PR
open PR in
/-- what was read is read again from its text -/
theorem parse_again {G : RE → Prop} {N : Nat} {ls : List PR.LetT} {b : TA} (h : PR.ProgOk G N ls b) (hG : ∀ x, Gd G x → (RE.ofW x).length ≤ 65536 → readW (RE.ofW x) = (some x, 0, 0)) (hl : (PR.progStr ls b).length ≤ 65536) :
    ∃ ls' b', parseW (PR.progStr ls b) = (some (ls', b'), 0, 0) ∧ PR.LetsEq ls' ls ∧ b'.bare = b.bare := by
  have hlen : ∀ (ls : List PR.LetT), ∀ l ∈ ls, l.term.str.length ≤ (ls.flatMap PR.letStr).length := fun ls => by
    induction ls with
    | nil => intro l hl; simp at hl
    | cons a ls ih =>
      intro l hl
      rw [List.flatMap_cons, List.length_append]
      rcases List.mem_cons.1 hl with rfl | hl
      · simp [PR.letStr]; omega
      · have := ih l hl; omega
  have hpl : (PR.progStr ls b).length = (ls.flatMap PR.letStr).length + b.str.length := by simp [PR.progStr]
  obtain ⟨ts, ls', b', h1, h2, h3, h4⟩ := PR.prog_tk (N := 65536) (fun x hx => ⟨hx.2, hG x hx⟩) h.2.1 h.2.2.1 (by omega) ls h.1 (fun l hl => by have := hlen ls l hl; omega) 0
  exact ⟨ls', b', parseW_of h1.whole hl (h2 _ rfl) h.2.2.2.1 (by rw [h3.length]; exact h.2.2.2.2), h3, h4⟩
namespace LX
/-- a token as the parser asks it -/
def TokG (t : LT) : Prop := (t.kind = 4 → ∃ y, t.re = some y ∧ RE.nf y) ∧ (t.kind = 1 → t.text ≠ [])
theorem token_good (s : List UInt8) (a : Nat) (h : (token s a).2.1 = 0) : TokG (token s a).1 := by
  unfold token at h ⊢
  match hd : s.drop a with
  | [] => exact ⟨fun e => absurd e (by show ¬ ((0 : Nat) = 4); decide), fun e => absurd e (by show ¬ ((0 : Nat) = 1); decide)⟩
  | b :: r =>
    rw [hd] at h
    simp only at h ⊢
    split
    · rename_i hb
      have hn : nameN (b :: r) ≠ 0 := by
        rw [nameN, if_pos (letter_sub hb)]; omega
      have ht : (b :: r).take (nameN (b :: r)) ≠ [] := by
        obtain ⟨n, hn⟩ : ∃ n, nameN (b :: r) = n + 1 := ⟨nameN (b :: r) - 1, by omega⟩
        rw [hn]; simp
      split
      · exact ⟨fun e => absurd e (by show ¬ ((1 : Nat) = 4); decide), fun _ => ht⟩
      · exact ⟨fun e => absurd e (by show ¬ ((1 : Nat) = 4); decide), fun _ => ht⟩
    split
    · exact ⟨fun e => absurd e (by show ¬ ((2 : Nat) = 4); decide), fun e => absurd e (by show ¬ ((2 : Nat) = 1); decide)⟩
    split
    · unfold quoted
      split
      · exact ⟨fun e => absurd e (by show ¬ ((3 : Nat) = 4); decide), fun e => absurd e (by show ¬ ((3 : Nat) = 1); decide)⟩
      · split
        · exact ⟨fun e => absurd e (by show ¬ ((3 : Nat) = 4); decide), fun e => absurd e (by show ¬ ((3 : Nat) = 1); decide)⟩
        · exact ⟨fun e => absurd e (by show ¬ ((3 : Nat) = 4); decide), fun e => absurd e (by show ¬ ((3 : Nat) = 1); decide)⟩
    split
    · rename_i h1 h2 h3 h4
      rw [if_neg h1, if_neg h2, if_neg h3, if_pos h4] at h
      unfold expr at h ⊢
      split at h
      · exact absurd h (by show ¬ ((2 : Nat) = 0); decide)
      · rename_i k hk
        split at h
        · rename_i he
          simp only [if_pos he]
          refine ⟨fun _ => ?_, fun e => absurd e (by show ¬ ((4 : Nat) = 1); decide)⟩
          rcases readW_out (r.take k) with ⟨y, hy⟩ | ⟨e, q, hy, h9, _⟩
          · exact ⟨y, by rw [hy], (readW_nf hy).1⟩
          · rw [hy] at he; simp only at he; omega
        · rename_i he; exact absurd h he
    · exact ⟨fun e => absurd e (by show ¬ ((0 : Nat) = 4); decide), fun e => absurd e (by show ¬ ((0 : Nat) = 1); decide)⟩
theorem allGo_good (s : List UInt8) : ∀ (f p : Nat) (out : List LT), (∀ t ∈ out, TokG t) → ∀ t ∈ (allGo s f p out).1, TokG t
  | 0, _, _, _, t, h => by rw [allGo] at h; cases h
  | f + 1, p, out, ho, t, h => by
    rw [allGo] at h
    split at h
    · cases h
    · rename_i he
      have hn : TokG (next s p).1 := token_good s _ (by unfold next at he; omega)
      have ho' : ∀ t ∈ out ++ [(next s p).1], TokG t := fun t ht => by
        rcases List.mem_append.1 ht with h | h
        · exact ho t h
        · rw [List.mem_singleton.1 h]; exact hn
      split at h
      · exact ho' t h
      · exact allGo_good s f _ _ ho' t h
theorem qGo_len2 : ∀ (f : Nat) (l : List UInt8) (i : Nat) (out o : List UInt8) (j : Option Nat), qGo f l i out = (o, j) → o.length ≤ out.length + l.length
  | 0, l, i, out, o, j, h => by rw [qGo] at h; cases h; omega
  | f + 1, [], i, out, o, j, h => by rw [qGo] at h; cases h; simp
  | f + 1, c :: r, i, out, o, j, h => by
    rw [qGo] at h
    split at h
    · have := qGo_len2 f _ _ _ _ _ h; simp at this ⊢; omega
    · split at h
      · cases h; simp
      · have := qGo_len2 f _ _ _ _ _ h
        rw [List.length_drop] at this
        have hq : 1 ≤ qStep c r := by unfold qStep; split <;> (try split) <;> omega
        simp at this ⊢; omega
theorem token_len (s : List UInt8) (a : Nat) : (token s a).1.text.length ≤ s.length := by
  unfold token
  have hdl : (s.drop a).length ≤ s.length := by rw [List.length_drop]; omega
  match hd : s.drop a with
  | [] => simp
  | b :: r =>
    rw [hd] at hdl
    have hdl : r.length + 1 ≤ s.length := hdl
    simp only
    have hn := nameN_le (b :: r)
    split
    · split
      · simp at hn ⊢; omega
      · simp at hn ⊢; omega
    split
    · simp; omega
    split
    · unfold quoted
      split
      · simp
      · rename_i k hk
        split
        · rename_i o hq
          have := qGo_len2 _ _ _ _ _ _ hq
          simp at this ⊢; omega
        · simp
    split
    · unfold expr
      split
      · simp
      · split <;> simp
    · simp
theorem allGo_len (s : List UInt8) : ∀ (f p : Nat) (out : List LT), (∀ t ∈ out, t.text.length ≤ s.length) → ∀ t ∈ (allGo s f p out).1, t.text.length ≤ s.length
  | 0, _, _, _, t, h => by rw [allGo] at h; cases h
  | f + 1, p, out, ho, t, h => by
    rw [allGo] at h
    split at h
    · cases h
    · have hn : (next s p).1.text.length ≤ s.length := token_len s _
      have ho' : ∀ t ∈ out ++ [(next s p).1], t.text.length ≤ s.length := fun t ht => by
        rcases List.mem_append.1 ht with h | h
        · exact ho t h
        · rw [List.mem_singleton.1 h]; exact hn
      split at h
      · exact ho' t h
      · exact allGo_len s f _ _ ho' t h
end LX
theorem lexW_len (s : List UInt8) : ∀ t ∈ (lexW s).1, t.text.length ≤ s.length := fun t ht => by
  unfold lexW at ht
  split at ht
  · cases ht
  · exact LX.allGo_len s _ _ _ (by simp) t ht
/-- what the parser makes of a text, or where it gives up -/
theorem parseW_all (s : List UInt8) : (∃ ls b, parseW s = (some (ls, b), 0, 0) ∧ PR.ProgOk RE.nf s.length ls b) ∨ ∃ e a, parseW s = (none, e, a) ∧ (e = 2 ∨ e = 3 ∨ e = 4) ∧ a ≤ s.length := by
  unfold parseW
  split
  · rename_i he
    rcases lexW_res s with ⟨h1, _, _⟩ | ⟨_, h3, h4⟩
    · exact absurd h1 he
    · exact .inr ⟨_, _, rfl, h3, h4⟩
  · rename_i he
    have hp : ∀ t ∈ (lexW s).1, t.at_ ≤ s.length := by
      rcases lexW_res s with ⟨_, _, hf⟩ | ⟨_, h3, _⟩
      · exact fun t ht => (hf.toks.ok t ht).le
      · exact absurd h3 (by simp at he; omega)
    have ht2 : ∀ t ∈ (lexW s).1, t.text.length ≤ s.length := lexW_len s
    have hg : PR.Good RE.nf s.length (lexW s).1 := fun t ht => by
      refine ⟨?_, ?_, hp t ht, ht2 t ht⟩
      all_goals
        unfold lexW at ht
        split at ht
        · cases ht
        · first
            | exact (LX.allGo_good s _ _ _ (by simp) t ht).1
            | exact (LX.allGo_good s _ _ _ (by simp) t ht).2
    have := PR.all_progGo (lexW s).1.length [] (lexW s).1 0 hg (by simp) rfl (by simp)
    have e2 : PR.progGo (lexW s).1.length [] (lexW s).1 0 = PR.prog (lexW s).1 := rfl
    rw [e2] at this
    generalize PR.prog (lexW s).1 = r at *
    cases r with
    | ok r ts c => exact .inl ⟨r.1, r.2, rfl, this⟩
    | bad e p => exact .inr ⟨e, p, rfl, this.1, this.2⟩
end Go.Proofs.YtgamknphlmcgnaaGreatDoor
end
section
set_option linter.unusedSimpArgs false
set_option linter.unusedVariables false
set_option maxRecDepth 100000
set_option linter.unnecessarySimpa false
namespace Go.Proofs.YtgamknphlmcgnaaGreatDoor
open Go.RowKit
theorem int_beq (a b : Nat) : (((a : Nat) : Int) == ((b : Nat) : Int)) = (a == b) := by
  by_cases h : a = b
  · subst h; simp
  · rw [beq_eq_false_iff_ne.2 h, beq_eq_false_iff_ne.2 (by omega)]
theorem str_beq (l m : List UInt8) : ((⟨l.toArray⟩ : ByteArray).toList == (⟨m.toArray⟩ : ByteArray).toList) = (l == m) := by
  rw [beq_bytes]
  by_cases h : l = m
  · subst h; simp
  · rw [decide_eq_false h, beq_eq_false_iff_ne.2 h]
theorem bne_of {A : Type} [BEq A] {a b : A} {c : Bool} (h : (a == b) = c) : (a != b) = !c := by rw [bne, h]
def SamAt (w : World) (ks ls : List TA) (R : Bool) (i : Value) (wr : World) : Prop := ∃ k : Nat, k ≤ ks.length ∧ i = .int .i64 k ∧ Hid (TA.sames (ks.drop k) (ls.drop k) = R) ∧ ∃ q, wr = w.drewN q
theorem tm_drop (l : List TA) (k : Nat) (h : k < l.length) : l.drop k = l.getD k TA.none :: l.drop (k + 1) := by
  rw [List.drop_eq_getElem_cons h]; simp [List.getD, h]
set_option maxRecDepth 100000 in
set_option maxHeartbeats 8000000 in
theorem tmSame_any : ∀ (n : Nat) (t u : TA), t.size ≤ n → t.size ≤ 1099511627776 → ∀ (w : World), IsTa w t → IsTa w u → Calls Tryz.prog 35 #[ptr t.b, ptr u.b] w fun e w' => e = .returned (.bool (t.same u)) ∧ ∃ q, w' = w.drewN q
  | 0, t, u, hn, _, _, _, _ => by have := t.size_eq; omega
  | n + 1, t, u, hn, hsz, w, ht, hu => by
    obtain ⟨⟨rv, kp, cap, hnode⟩, hkt⟩ := ht.open
    obtain ⟨⟨rv', kp', cap', hnode'⟩, hku⟩ := hu.open
    have HE : Hid (t.same u = ((t.op == u.op) && (t.name == u.name) && sameB t.re u.re && (t.text == u.text) && (t.back == u.back) && (t.kids.length == u.kids.length) && TA.sames t.kids u.kids)) := TA.same_eq t u
    have HIH : Hid (∀ k ∈ t.kids, ∀ j ∈ u.kids, ∀ q, Calls Tryz.prog 35 #[ptr k.b, ptr j.b] (w.drewN q) fun e w' => e = .returned (.bool (k.same j)) ∧ ∃ p, w' = (w.drewN q).drewN p) := fun k hk j hj q => tmSame_any n k j (by have := TA.kid_size hk; omega) (by have := TA.kid_size hk; omega) (w.drewN q) ((hkt k hk).later (ext_drewN (Below.refl _ _) q)) ((hku j hj).later (ext_drewN (Below.refl _ _) q))
    have HR := Lib.hid hnode.2.2
    have HR' := Lib.hid hnode'.2.2
    have HS := Lib.hid (fun q => Same_any rv rv' t.re u.re (w.drewN q) (hnode.2.1.later (ext_drewN (Below.refl _ _) q)) (hnode'.2.1.later (ext_drewN (Below.refl _ _) q)))
    obtain ⟨c0, _, c2, c3, c4, c5, c6⟩ := hnode.cells
    obtain ⟨d0, _, d2, d3, d4, d5, d6⟩ := hnode'.cells
    have e1 := int_beq t.op u.op
    have e2 := str_beq t.name u.name
    have e4 := str_beq t.text u.text
    have e5 := str_beq t.back u.back
    have e6 := int_beq t.kids.length u.kids.length
    have HL : Hid ((t.kids.length == u.kids.length) = true → t.kids.length = u.kids.length) := fun h => by simpa using h
    have hll : t.kids.length ≤ 1099511627776 := by
      have : ∀ l : List TA, l.length ≤ TA.sizes l := by
        intro l
        induction l with
        | nil => simp
        | cons a l ih => have := a.size_eq; simp [TA.sizes]; omega
      have := this t.kids; have := t.size_eq; omega
    clear hnode hnode' hkt hku ht hu hn hsz
    generalize (t.op == u.op) = b1 at *
    generalize (t.name == u.name) = b2 at *
    generalize sameB t.re u.re = b3 at *
    generalize (t.text == u.text) = b4 at *
    generalize (t.back == u.back) = b5 at *
    generalize hb6 : (t.kids.length == u.kids.length) = b6 at *
    clear hb6
    generalize t.same u = out at *
    generalize (t.op : Int) = o1 at *
    generalize (u.op : Int) = o2 at *
    generalize (⟨t.name.toArray⟩ : ByteArray) = n1 at *
    generalize (⟨u.name.toArray⟩ : ByteArray) = n2 at *
    generalize (⟨t.text.toArray⟩ : ByteArray) = x1 at *
    generalize (⟨u.text.toArray⟩ : ByteArray) = x2 at *
    generalize (⟨t.back.toArray⟩ : ByteArray) = k1 at *
    generalize (⟨u.back.toArray⟩ : ByteArray) = k2 at *
    generalize t.kids = ks at *
    generalize u.kids = ls at *
    generalize t.b = b at *
    generalize u.b = bu at *
    have f1 := bne_of e1
    have f2 := bne_of e2
    have f4 := bne_of e4
    have f5 := bne_of e5
    have f6 := bne_of e6
    obtain ⟨S, hSd⟩ : ∃ S : World → Prop, ∀ W', S W' ↔ ∃ q, W' = w.drewN q := ⟨_, fun _ => Iff.rfl⟩
    have HSD := Lib.hid hSd
    have hS0 : S w.drew := (hSd _).2 ⟨1, rfl⟩
    have hne : Nonempty (InC S) := ⟨⟨_, hS0⟩⟩
    have HC0 : Hid (∀ p : InC S, Calls Tryz.prog 26 #[rv, rv'] p.w fun e w' => e = .returned (.bool b3) ∧ ∃ q : InC S, w' = q.w) := fun p => by
      obtain ⟨q, hq⟩ := (hSd p.w).1 p.h
      rw [hq]
      exact (HS.out q).mono fun e w' ⟨he, hw⟩ => ⟨he, ⟨w', (hSd _).2 ⟨q, hw⟩⟩, rfl⟩
    have cs : ∀ p : InC S, (p.w.cell? ⟨b, 0, none⟩ = some (.int .i64 o1) ∧ p.w.cell? ⟨b, 2, none⟩ = some (.string n1) ∧ p.w.cell? ⟨b, 3, none⟩ = some rv ∧ p.w.cell? ⟨b, 4, none⟩ = some (.string x1) ∧ p.w.cell? ⟨b, 5, none⟩ = some (.string k1) ∧ p.w.cell? ⟨b, 6, none⟩ = some (.slice kp ks.length cap)) ∧
        p.w.cell? ⟨bu, 0, none⟩ = some (.int .i64 o2) ∧ p.w.cell? ⟨bu, 2, none⟩ = some (.string n2) ∧ p.w.cell? ⟨bu, 3, none⟩ = some rv' ∧ p.w.cell? ⟨bu, 4, none⟩ = some (.string x2) ∧ p.w.cell? ⟨bu, 5, none⟩ = some (.string k2) ∧ p.w.cell? ⟨bu, 6, none⟩ = some (.slice kp' ls.length cap') := fun p => by
      obtain ⟨q, hq⟩ := (hSd p.w).1 p.h
      rw [hq]
      exact ⟨⟨c0, c2, c3, c4, c5, c6⟩, d0, d2, d3, d4, d5, d6⟩
    have HC6 := Lib.hid c6
    have HD6 := Lib.hid d6
    clear hSd c0 c2 c3 c4 c5 c6 d0 d2 d3 d4 d5 d6
    cases b1 with
    | false =>
      go_enter Tryz.func35, Tryz.ntmps35
      go_wp2_with fail
      (try simp only [List.append, List.cons_append, List.nil_append])
      refine wp_region_class S (by kernel_rfl) (by kernel_rfl) hS0 ?_
      repeat (go_big_quiet_step (with_reducible exact HC0.out _))
      refine wpQuiet_nil ?_
      intro p
      obtain ⟨q9, hq9⟩ := (HSD.out p.w).1 p.h
      rw [hq9]
      clear cs hne hS0 hq9 p
      have c6 := HC6.out
      have d6 := HD6.out
      go_wp2_with fail
      go_ret
      exact ⟨by rw [HE.out]; rfl, _, rfl⟩
    | true =>
      cases b2 with
      | false =>
        go_enter Tryz.func35, Tryz.ntmps35
        go_wp2_with fail
        (try simp only [List.append, List.cons_append, List.nil_append])
        refine wp_region_class S (by kernel_rfl) (by kernel_rfl) hS0 ?_
        repeat (go_big_quiet_step (with_reducible exact HC0.out _))
        refine wpQuiet_nil ?_
        intro p
        obtain ⟨q9, hq9⟩ := (HSD.out p.w).1 p.h
        rw [hq9]
        clear cs hne hS0 hq9 p
        have c6 := HC6.out
        have d6 := HD6.out
        go_wp2_with fail
        go_ret
        exact ⟨by rw [HE.out]; rfl, _, rfl⟩
      | true =>
        cases b3 with
        | false =>
          go_enter Tryz.func35, Tryz.ntmps35
          go_wp2_with fail
          (try simp only [List.append, List.cons_append, List.nil_append])
          refine wp_region_class S (by kernel_rfl) (by kernel_rfl) hS0 ?_
          repeat (go_big_quiet_step (with_reducible exact HC0.out _))
          refine wpQuiet_nil ?_
          intro p
          obtain ⟨q9, hq9⟩ := (HSD.out p.w).1 p.h
          rw [hq9]
          clear cs hne hS0 hq9 p
          have c6 := HC6.out
          have d6 := HD6.out
          go_wp2_with fail
          go_ret
          exact ⟨by rw [HE.out]; rfl, _, rfl⟩
        | true =>
          cases b4 with
          | false =>
            go_enter Tryz.func35, Tryz.ntmps35
            go_wp2_with fail
            (try simp only [List.append, List.cons_append, List.nil_append])
            refine wp_region_class S (by kernel_rfl) (by kernel_rfl) hS0 ?_
            repeat (go_big_quiet_step (with_reducible exact HC0.out _))
            refine wpQuiet_nil ?_
            intro p
            obtain ⟨q9, hq9⟩ := (HSD.out p.w).1 p.h
            rw [hq9]
            clear cs hne hS0 hq9 p
            have c6 := HC6.out
            have d6 := HD6.out
            go_wp2_with fail
            go_ret
            exact ⟨by rw [HE.out]; rfl, _, rfl⟩
          | true =>
            cases b5 with
            | false =>
              go_enter Tryz.func35, Tryz.ntmps35
              go_wp2_with fail
              (try simp only [List.append, List.cons_append, List.nil_append])
              refine wp_region_class S (by kernel_rfl) (by kernel_rfl) hS0 ?_
              repeat (go_big_quiet_step (with_reducible exact HC0.out _))
              refine wpQuiet_nil ?_
              intro p
              obtain ⟨q9, hq9⟩ := (HSD.out p.w).1 p.h
              rw [hq9]
              clear cs hne hS0 hq9 p
              have c6 := HC6.out
              have d6 := HD6.out
              go_wp2_with fail
              go_ret
              exact ⟨by rw [HE.out]; rfl, _, rfl⟩
            | true =>
              cases b6 with
              | false =>
                go_enter Tryz.func35, Tryz.ntmps35
                go_wp2_with fail
                (try simp only [List.append, List.cons_append, List.nil_append])
                refine wp_region_class S (by kernel_rfl) (by kernel_rfl) hS0 ?_
                repeat (go_big_quiet_step (with_reducible exact HC0.out _))
                refine wpQuiet_nil ?_
                intro p
                obtain ⟨q9, hq9⟩ := (HSD.out p.w).1 p.h
                rw [hq9]
                clear cs hne hS0 hq9 p
                have c6 := HC6.out
                have d6 := HD6.out
                go_wp2_with fail
                go_ret
                exact ⟨by rw [HE.out]; rfl, _, rfl⟩
              | true =>
                have hlen := HL.out rfl
                go_enter Tryz.func35, Tryz.ntmps35
                go_wp2_with fail
                (try simp only [List.append, List.cons_append, List.nil_append])
                refine wp_region_class S (by kernel_rfl) (by kernel_rfl) hS0 ?_
                repeat (go_big_quiet_step (with_reducible exact HC0.out _))
                refine wpQuiet_nil ?_
                intro p
                obtain ⟨q9, hq9⟩ := (HSD.out p.w).1 p.h
                rw [hq9]
                clear cs hne hS0 hq9 p
                have c6 := HC6.out
                have d6 := HD6.out
                go_wp2_with fail
                clear e1 e2 e4 e5 e6 f1 f2 f4 f5 f6
                go_loopw [88] (fun i wr => SamAt w ks ls out i wr) (fun i _ => ks.length - (intOf i).toNat)
                case atStart => exact ⟨0, by omega, rfl, by show _ = _; rw [HE.out]; rfl, _, rfl⟩
                case round =>
                  obtain ⟨k, hk, rfl, hgo, q0, rfl⟩ := hrel
                  by_cases hlt : k < ks.length
                  · obtain ⟨kb, ko, rfl, hc⟩ := HR.out.at (fun e => by rw [e] at hlt; simp at hlt)
                    obtain ⟨kb', ko', rfl, hc'⟩ := HR'.out.at (fun e => by have h9 : ls.length = 0 := (congrArg List.length e).trans rfl; omega)
                    have hp := hc k hlt
                    have hp' := hc' k (by omega)
                    have hmem : ks.getD k TA.none ∈ ks := by simp [List.getD, hlt]
                    have hlt' : k < ls.length := by omega
                    have hmem' : ls.getD k TA.none ∈ ls := by simp [List.getD, hlt']
                    have HC := Lib.hid (HIH.out _ hmem _ hmem' q0)
                    have HNX : Hid (((ks.getD k TA.none).same (ls.getD k TA.none) && TA.sames (ks.drop (k + 1)) (ls.drop (k + 1))) = out) := by
                      show _ = _
                      have := hgo.out
                      rw [tm_drop ks k hlt, tm_drop ls k (by omega)] at this
                      exact this
                    clear hc hc' hmem hmem' hgo
                    generalize (ks.getD k TA.none).same (ls.getD k TA.none) = q at *
                    generalize (ks.getD k TA.none).b = b1 at *
                    generalize (ls.getD k TA.none).b = b2 at *
                    cases q with
                    | true =>
                      have HN2 : Hid (TA.sames (ks.drop (k + 1)) (ls.drop (k + 1)) = out) := Lib.hid (by have := HNX.out; simpa using this)
                      clear HNX
                      go_wp2_with fail
                      refine HC.out.mono ?_
                      rintro e w2 ⟨rfl, q1, rfl⟩
                      go_wp2_with fail
                      go_roundw
                      case rel => exact ⟨k + 1, by omega, by go_num, HN2, q0 + q1, by first | rfl | rw [World.drewN_drewN]⟩
                      case measure => simp [intOf]; omega
                    | false =>
                      have HN2 : Hid (out = false) := Lib.hid (by have := HNX.out; simpa using this.symm)
                      clear HNX
                      go_wp2_with fail
                      refine HC.out.mono ?_
                      rintro e w2 ⟨rfl, q1, rfl⟩
                      go_wp2_with fail
                      go_ret
                      exact ⟨by rw [HN2.out]; rfl, _, by first | rfl | rw [World.drewN_drewN]⟩
                  · obtain rfl : k = ks.length := by omega
                    have HN2 : Hid (out = true) := Lib.hid (by
                      have := hgo.out
                      rw [List.drop_length] at this
                      exact this.symm)
                    clear hgo
                    go_wp2_with fail
                    go_ret
                    exact ⟨by rw [HN2.out]; rfl, _, by first | rfl | rw [World.drewN_drewN]⟩
end Go.Proofs.YtgamknphlmcgnaaGreatDoor
end
section
set_option linter.unusedSimpArgs false
set_option linter.unusedVariables false
set_option maxRecDepth 100000
set_option linter.unnecessarySimpa false
namespace Go.Proofs.YtgamknphlmcgnaaGreatDoor
open Go.RowKit
abbrev letT0 : PR.LetT := ⟨[], 0, TA.none⟩
/-- a program in block B -/
structure PgM (W : World) (B : Nat) (ls : List PR.LetT) (kv : Value) (b : TA) (ts : List TA) : Prop where
  c0 : W.cell? ⟨B, 0, none⟩ = some kv
  c1 : W.cell? ⟨B, 1, none⟩ = some (ptr b.b)
  len : ts.length = ls.length
  row : (ls = [] ∧ ∃ kp cap, kv = .slice kp 0 cap) ∨ ∃ g cap, kv = .slice (some ⟨g, 0, none⟩) ls.length cap ∧ ∀ i, i < ls.length → W.cell? ⟨g, i * 3, none⟩ = some (.string ⟨(ls.getD i letT0).name.toArray⟩) ∧ W.cell? ⟨g, i * 3 + 1, none⟩ = some (.int .i64 ((ls.getD i letT0).at_ : Nat)) ∧ W.cell? ⟨g, i * 3 + 2, none⟩ = some (ptr (ts.getD i TA.none).b)
  body : IsTa W b
  tms : ∀ i, i < ls.length → IsTa W (ts.getD i TA.none) ∧ (ts.getD i TA.none).zero = (ls.getD i letT0).term
theorem PgM.later {W W' : World} {B : Nat} {ls : List PR.LetT} {kv : Value} {b : TA} {ts : List TA} (h : PgM W B ls kv b ts) (hb : Below W.heap.size W W') : PgM W' B ls kv b ts := by
  have key : ∀ a v, W.cell? a = some v → W'.cell? a = some v := fun a v hv => (hb.cell (p := a) (World.block_lt_of_cell? W _ hv)).trans hv
  refine ⟨key _ _ h.c0, key _ _ h.c1, h.len, ?_, h.body.later hb, fun i hi => ⟨(h.tms i hi).1.later hb, (h.tms i hi).2⟩⟩
  rcases h.row with h | ⟨g, cap, h1, h2⟩
  · exact .inl h
  · exact .inr ⟨g, cap, h1, fun i hi => ⟨key _ _ (h2 i hi).1, key _ _ (h2 i hi).2.1, key _ _ (h2 i hi).2.2⟩⟩
theorem PgM.form {W : World} {B : Nat} {ls : List PR.LetT} {kv : Value} {b : TA} {ts : List TA} (h : PgM W B ls kv b ts) : ∃ kp cap, kv = .slice kp ls.length cap ∧ ∀ i, i < ls.length → ∃ g, kp = some ⟨g, 0, none⟩ ∧ W.cell? ⟨g, i * 3, none⟩ = some (.string ⟨(ls.getD i letT0).name.toArray⟩) ∧ W.cell? ⟨g, i * 3 + 1, none⟩ = some (.int .i64 ((ls.getD i letT0).at_ : Nat)) ∧ W.cell? ⟨g, i * 3 + 2, none⟩ = some (ptr (ts.getD i TA.none).b) := by
  rcases h.row with ⟨rfl, kp, cap, rfl⟩ | ⟨g, cap, rfl, hc⟩
  · exact ⟨kp, cap, rfl, fun i hi => absurd hi (by simp)⟩
  · exact ⟨_, cap, rfl, fun i hi => ⟨g, rfl, hc i hi⟩⟩
theorem flat_let : ∀ (lts : List (PR.LetT × TA)) (i k : Nat), i < lts.length → k < 3 → (lts.flatMap cellsLet)[i * 3 + k]? = (cellsLet (lts.getD i (letT0, TA.none)))[k]?
  | [], i, k, h, _ => by simp at h
  | x :: lts, 0, k, _, hk => by
    rw [List.flatMap_cons, List.getElem?_append_left (by show 0 * 3 + k < 3; omega)]; simp
  | x :: lts, i + 1, k, h, hk => by
    rw [List.flatMap_cons, List.getElem?_append_right (by show 3 ≤ (i + 1) * 3 + k; omega)]
    have e : (i + 1) * 3 + k - (cellsLet x).length = i * 3 + k := by show (i + 1) * 3 + k - 3 = _; omega
    rw [e, flat_let lts i k (by simpa using h) hk]
    simp [List.getD]
theorem PgV.m {w0 W : World} {v : Value} {r : List PR.LetT × TA} (h : PgV w0 W v r) : ∃ B kv b ts, v = ptr B ∧ PgM W B r.1 kv b ts ∧ b.zero = r.2 := by
  obtain ⟨B, kv, lts, t, rfl, hp, ht, hz⟩ := h
  obtain ⟨c0, c1⟩ := hp.cells
  obtain ⟨h1, h2, h3⟩ := hp.lets
  have hll : lts.length = r.1.length := by rw [← h1, List.length_map]
  have hg : ∀ i, i < r.1.length → r.1.getD i letT0 = (lts.getD i (letT0, TA.none)).1 ∧ (lts.map Prod.snd).getD i TA.none = (lts.getD i (letT0, TA.none)).2 := fun i hi => by
    have hi' : i < lts.length := by omega
    rw [← h1]
    simp [List.getD, List.getElem?_map, hi']
  refine ⟨B, kv, t, lts.map Prod.snd, rfl, ⟨c0, c1, by rw [List.length_map, hll], ?_, ht.is, fun i hi => ?_⟩, hz⟩
  · rcases Nat.eq_zero_or_pos r.1.length with h0 | hpos
    · left
      refine ⟨List.length_eq_zero_iff.1 h0, ?_⟩
      obtain ⟨kp, cp, hk⟩ := hp.form
      exact ⟨kp, cp, by rw [hk, h0]⟩
    · right
      obtain ⟨gl, cp, rfl, _, _⟩ := h2.form hpos
      refine ⟨gl, cp, rfl, fun i hi => ?_⟩
      have hi' : i < lts.length := by omega
      have hc : ∀ k, k < 3 → W.cell? ⟨gl, i * 3 + k, none⟩ = (cellsLet (lts.getD i (letT0, TA.none)))[k]? := fun k hk => by
        rw [h2.cellAt (i * 3 + k) (by omega), flat_let lts i k hi' hk]
      rw [(hg i hi).1, (hg i hi).2]
      exact ⟨hc 0 (by omega), hc 1 (by omega), hc 2 (by omega)⟩
  · have hi' : i < lts.length := by omega
    rw [(hg i hi).1, (hg i hi).2]
    have := h3 (lts.getD i (letT0, TA.none)) (by simp only [List.getD, List.getElem?_eq_getElem hi', Option.getD_some]; exact List.getElem_mem hi')
    exact ⟨this.1.is, this.2⟩
/-- what a program's text asks of its terms -/
def PgOk (ls : List PR.LetT) (b : TA) : Prop := (∀ l ∈ ls, l.name.length ≤ 1000 ∧ l.term.ok ∧ l.term.wt ≤ 1073741824) ∧ b.ok ∧ b.wt ≤ 1073741824 ∧ ls.length ≤ 1000
namespace PR
theorem letStr_len {l : LetT} (h : l.name.length ≤ 1000 ∧ l.term.ok ∧ l.term.wt ≤ 1073741824) : (letStr l).length ≤ 1073743000 := by
  have := l.term.str_len
  simp [letStr]; omega
theorem lets_len : ∀ {ls : List LetT}, (∀ l ∈ ls, l.name.length ≤ 1000 ∧ l.term.ok ∧ l.term.wt ≤ 1073741824) → (ls.flatMap letStr).length ≤ 1073743000 * ls.length
  | [], _ => by simp
  | l :: ls, h => by
    have h1 := letStr_len (h l (by simp))
    have h2 := lets_len (ls := ls) fun m hm => h m (by simp [hm])
    rw [List.flatMap_cons, List.length_append, List.length_cons]; omega
end PR
def PsAt (ls : List PR.LetT) (w W0 : World) (i : Value) (wr : World) : Prop :=
  ∃ k : Nat, k ≤ ls.length ∧ i = .int .i64 k ∧ Lib.IsBuilder 141 5 w.heap.size w.heap.size (Lib.byteCells ((ls.take k).flatMap PR.letStr)) wr ∧ Below w.heap.size w wr
theorem let_snoc (l : List PR.LetT) (k : Nat) (h : k < l.length) : l.take (k + 1) = l.take k ++ [l.getD k letT0] := by
  rw [List.take_add_one]; simp [List.getD, h]
set_option maxRecDepth 100000 in
set_option maxHeartbeats 4000000 in
theorem pgString_any {ls : List PR.LetT} {kv : Value} {b : TA} {ts : List TA} {B : Nat} (w : World) (hE : EnvP w) (hp : PgM w B ls kv b ts) (hok : PgOk ls b.zero) :
    Calls Tryz.prog 45 #[ptr B] w (StrPost (PR.progStr ls b.zero) w) := by
  obtain ⟨hk1, hk2, hk3, hk4⟩ := hok
  have HSB : Hid (∀ W, EnvP W → IsTa W b → Calls Tryz.prog 46 #[ptr b.b] W (StrPost b.zero.str W)) := fun W hW hb => by
    rw [TA.str_zero]
    exact tmString_any b.size b (Nat.le_refl _) ((TA.ok_zero b).1 hk2) (by rw [TA.wt_zero] at hk3; omega) W hW.tab hW.wo hb
  have HBL : Hid (b.zero.str.length ≤ 1073741824) := by show _ ≤ _; have := b.zero.str_len; omega
  have HST : Hid (∀ i, i < ls.length → ∀ W, EnvP W → IsTa W (ts.getD i TA.none) → Calls Tryz.prog 46 #[ptr (ts.getD i TA.none).b] W (StrPost (ls.getD i letT0).term.str W)) := fun i hi W hW ht => by
    have hm : ls.getD i letT0 ∈ ls := by simp only [List.getD, List.getElem?_eq_getElem hi, Option.getD_some]; exact List.getElem_mem hi
    have hz := (hp.tms i hi).2
    obtain ⟨_, h2, h3⟩ := hk1 _ hm
    rw [← hz] at h2 h3 ⊢
    rw [TA.str_zero]
    exact tmString_any _ _ (Nat.le_refl _) ((TA.ok_zero _).1 h2) (by rw [TA.wt_zero] at h3; omega) W hW.tab hW.wo ht
  have HLN : Hid (∀ k, k ≤ ls.length → ((ls.take k).flatMap PR.letStr).length ≤ 1073743000 * k) := fun k hk => by
    have := PR.lets_len (ls := ls.take k) fun l hl => hk1 l (List.mem_of_mem_take hl)
    rw [List.length_take, Nat.min_eq_left hk] at this; exact this
  have HL1 : Hid (∀ i, i < ls.length → (ls.getD i letT0).name.length ≤ 1000 ∧ (ls.getD i letT0).term.str.length ≤ 1073741824) := fun i hi => by
    have hm : ls.getD i letT0 ∈ ls := by simp only [List.getD, List.getElem?_eq_getElem hi, Option.getD_some]; exact List.getElem_mem hi
    obtain ⟨h1, h2, h3⟩ := hk1 _ hm
    have := (ls.getD i letT0).term.str_len
    exact ⟨h1, by omega⟩
  have HP := Lib.hid hp
  have HE := Lib.hid hE
  obtain ⟨kp, cap, rfl, hcells⟩ := hp.form
  have p0 := hp.c0
  have p1 := hp.c1
  have HC := Lib.hid hcells
  have HPS : Hid (PR.progStr ls b.zero = (ls.flatMap PR.letStr) ++ b.zero.str) := rfl
  generalize PR.progStr ls b.zero = out at *
  generalize b.zero.str = bs at *
  clear hk1 hk2 hk3 hcells hp hE
  go_enter Tryz.func45, Tryz.ntmps45
  have hB0 : Lib.IsBuilder 141 5 w.heap.size w.heap.size [] (w.alloc (.cells #[.pointer none, .slice none 0 0] 141)) :=
    .inl ⟨Nat.le_refl _, .slice none 0 0, heap_alloc_last _ _, World.ownsRow_nil _ _ _ _, by simp [Value.ownBlock]⟩
  have HB0 := Lib.hid hB0
  have HBW := Lib.hid (re_alloc0 w (.cells #[.pointer none, .slice none 0 0] 141))
  clear hB0
  have hBl : B < w.heap.size := World.block_lt_of_cell? w _ p0
  have hBn : B ≠ w.heap.size := by omega
  go_wp2_with fail
  go_loopw [13] (fun i wr => PsAt ls w w i wr) (fun i _ => ls.length - (intOf i).toNat)
  case atStart => exact ⟨0, by omega, rfl, HB0.out, HBW.out⟩
  case round =>
    obtain ⟨k, hk, rfl, hI, hbel⟩ := hrel
    have HI := Lib.hid hI
    have HBE := Lib.hid hbel
    have HPK := Lib.hid (HP.out.later hbel)
    clear hI hbel p0 p1
    by_cases hlt : k < ls.length
    · obtain ⟨g, rfl, c0, c1, c2⟩ := HC.out k hlt
      have key : ∀ a v, w.cell? a = some v → wr.cell? a = some v := fun a v hv => (HBE.out.cell (p := a) (World.block_lt_of_cell? w _ hv)).trans hv
      replace c0 := key _ _ c0
      replace c1 := key _ _ c1
      replace c2 := key _ _ c2
      have HTM := Lib.hid (HPK.out.tms k hlt).1
      have HSK := Lib.hid (HST.out k hlt)
      have HLK := Lib.hid (HLN.out k hk)
      have HL2 := Lib.hid (HL1.out k hlt)
      have HNX : Hid ((ls.take (k + 1)).flatMap PR.letStr = (ls.take k).flatMap PR.letStr ++ ([108, 101, 116, 32] ++ (ls.getD k letT0).name ++ [32, 61, 32] ++ (ls.getD k letT0).term.str ++ [32, 105, 110, 10])) := by
        show _ = _
        rw [let_snoc ls k hlt, List.flatMap_append]; simp [PR.letStr]
      clear key
      have HWS : Hid (∀ W, Below wr.heap.size wr W → Calls Tryz.prog 84 #[.pointer (some ⟨w.heap.size, 0, none⟩), .string (⟨#[108, 101, 116, 32]⟩ ++ ⟨(ls.getD k letT0).name.toArray⟩ ++ ⟨#[32, 61, 32]⟩ ++ ⟨(ls.getD k letT0).term.str.toArray⟩ ++ ⟨#[32, 105, 110, 10]⟩)] W fun e w' => ∃ v, e = .returned v ∧ Lib.IsBuilder 141 5 w.heap.size w.heap.size (Lib.byteCells ((ls.take k).flatMap PR.letStr ++ ([108, 101, 116, 32] ++ (ls.getD k letT0).name ++ [32, 61, 32] ++ (ls.getD k letT0).term.str ++ [32, 105, 110, 10]))) w' ∧ Below w.heap.size W w') := fun W hW => by
        have h1 := HL2.out
        have h2 := HLK.out
        have hbytes : (⟨#[108, 101, 116, 32]⟩ ++ ⟨(ls.getD k letT0).name.toArray⟩ ++ ⟨#[32, 61, 32]⟩ ++ ⟨(ls.getD k letT0).term.str.toArray⟩ ++ ⟨#[32, 105, 110, 10]⟩ : ByteArray) = ⟨([108, 101, 116, 32] ++ (ls.getD k letT0).name ++ [32, 61, 32] ++ (ls.getD k letT0).term.str ++ [32, 105, 110, 10]).toArray⟩ := ByteArray.ext (by simp)
        rw [hbytes]
        refine (WriteString_any w.heap.size w.heap.size _ _ W (builder_later HI.out hW) (by rw [Lib.byteCells_length, str_size]; simp only [List.length_append, List.length_cons, List.length_nil]; omega) (by have := HBE.out.size; have := hW.size; omega)).mono ?_
        rintro e w' ⟨rfl, h3, h4⟩
        exact ⟨_, rfl, by simpa [Lib.byteCells, Lib.strCells] using h3, h4⟩
      generalize (ls.take k).flatMap PR.letStr = pre at *
      generalize (ls.getD k letT0).term.str = tx at *
      generalize (ls.getD k letT0).name = nm at *
      generalize (ls.getD k letT0).at_ = q at *
      generalize ts.getD k TA.none = t at *
      obtain ⟨NM, hNM⟩ : ∃ NM : ByteArray, (⟨nm.toArray⟩ : ByteArray) = NM := ⟨_, rfl⟩
      have HNM := Lib.hid hNM
      rw [hNM] at c0 HWS
      have hns : NM.size = nm.length := by rw [← hNM]; exact str_size nm
      have hnl := HL2.out.1
      have htl := HL2.out.2
      have hts := str_size tx
      have y1 : (⟨#[108, 101, 116, 32]⟩ ++ NM : ByteArray).size = 4 + nm.length := by rw [ByteArray.size_append, hns]; rfl
      have y2 : (⟨#[108, 101, 116, 32]⟩ ++ NM ++ ⟨#[32, 61, 32]⟩ : ByteArray).size = 4 + nm.length + 3 := by rw [ByteArray.size_append, y1]; rfl
      have y3 : (⟨#[108, 101, 116, 32]⟩ ++ NM ++ ⟨#[32, 61, 32]⟩ ++ ⟨tx.toArray⟩ : ByteArray).size = 4 + nm.length + 3 + tx.length := by rw [ByteArray.size_append, y2, hts]
      clear hNM
      go_upto_region 7 with fail
      generalize hW1 : World.alloc wr _ = W1 at *
      have l0 : W1.cell? ⟨wr.heap.size, 0, none⟩ = some (.string NM) := by rw [← hW1, cell_of_row _ _ _ _ _ _ (heap_alloc_last wr _)]; rfl
      have l2 : W1.cell? ⟨wr.heap.size, 2, none⟩ = some (ptr t.b) := by rw [← hW1, cell_of_row _ _ _ _ _ _ (heap_alloc_last wr _)]; rfl
      have hb1 : Below wr.heap.size wr W1 := by rw [← hW1]; exact re_alloc wr _
      have HB1 := Lib.hid hb1
      have HLW := Lib.hid (And.intro l0 l2)
      clear hW1 hb1 c0 c1 c2 l0 l2
      obtain ⟨S, hSd⟩ : ∃ S : World → Prop, ∀ W', S W' ↔ Below W1.heap.size W1 W' := ⟨_, fun _ => Iff.rfl⟩
      have HSD := Lib.hid hSd
      have hS0 : S W1.drew := (hSd _).2 (Below.refl _ _).drew
      have cs : ∀ q : InC S, q.w.cell? ⟨wr.heap.size, 0, none⟩ = some (.string NM) ∧ q.w.cell? ⟨wr.heap.size, 2, none⟩ = some (ptr t.b) := fun q => by
        have h := (HSD.out q.w).1 q.h
        have key : ∀ a v, W1.cell? a = some v → q.w.cell? a = some v := fun a v hv => (h.cell (p := a) (World.block_lt_of_cell? W1 _ hv)).trans hv
        exact ⟨key _ _ HLW.out.1, key _ _ HLW.out.2⟩
      clear hSd
      have hne : Nonempty (InC S) := ⟨⟨_, hS0⟩⟩
      refine wp_region_mix S [0, 1, 2, 3, 4, 5, 7, 8] [0, 1, 2, 3, 4, 5, 6, 7, 8, 9] (by kernel_rfl) (by kernel_rfl) hS0 ?_
      (repeat ((with_reducible refine wpMix_read (o := ?_) ?_ ?_ ?_); rotate_left; (· rfl); (· rfl); go_big_quiet_step (fail); (with_reducible refine wpQuiet_nil ?_)))
      refine wpMix_eff (k := true) rfl rfl (by kernel_rfl) ?_
      have hD := ext_step HB1.out (Below.refl W1.heap.size W1).drew
      go_wp2_with (go_at_call 46; refine (HSK.out _ (HE.out.later (ext_step HBE.out hD)) (HTM.out.later hD)).mono ?_; rintro e wA ⟨rfl, hbA⟩)
      have hD2 := ext_step hD hbA
      refine mixPost_keep ((HSD.out _).2 ((Below.refl W1.heap.size W1).drew.trans (hbA.mono (by simp)))) ?_
      (repeat ((with_reducible refine wpMix_read (o := ?_) ?_ ?_ ?_); rotate_left; (· rfl); (· rfl); go_big_quiet_step (fail); (with_reducible refine wpQuiet_nil ?_)))
      refine wpMix_eff (k := false) rfl rfl (by kernel_rfl) ?_
      have hb2 := ext_step HBE.out hD2
      go_wp2_with (go_at_call 84; refine (HWS.out _ hD2).mono ?_; rintro e wB ⟨v, rfl, hIB, hbB⟩)
      refine mixPost_last ?_
      refine wpMix_nil ?_
      have hIB2 : Lib.IsBuilder 141 5 w.heap.size w.heap.size (Lib.byteCells ((ls.take (k + 1)).flatMap PR.letStr)) wB := by rw [HNX.out]; exact hIB
      have HIB := Lib.hid hIB2
      have HBB := Lib.hid (hb2.trans hbB)
      clear hIB hIB2 hbB hb2 hD2 hbA hD hne cs hS0
      go_wp2_with fail
      go_roundw
      case rel => exact ⟨k + 1, by omega, by go_num, HIB.out, HBB.out⟩
      case measure => simp [intOf]; omega
    · obtain rfl : k = ls.length := by omega
      have hI := HI.out
      have hlen := HLN.out ls.length (Nat.le_refl _)
      rw [List.take_length] at hI hlen
      have HPB := Lib.hid (HPS.out)
      have q1 : wr.cell? ⟨B, 1, none⟩ = some (ptr b.b) := HPK.out.c1
      have HSB1 := Lib.hid (HSB.out wr (HE.out.later HBE.out) HPK.out.body)
      have hbl := HBL.out
      generalize ls.flatMap PR.letStr = pre at *
      have HI2 := Lib.hid hI
      clear hI
      go_wp2_with fail
      refine HSB1.out.mono ?_
      rintro e wA ⟨rfl, hbA⟩
      have HWS := Lib.hid (WriteString_any w.heap.size w.heap.size (Lib.byteCells pre) ⟨bs.toArray⟩ wA (builder_later HI2.out hbA) (by rw [Lib.byteCells_length, str_size]; omega) (by have := HBE.out.size; have := hbA.size; omega))
      have HBA := Lib.hid (ext_step HBE.out hbA)
      clear hbA
      go_wp2_with fail
      refine HWS.out.mono ?_
      rintro e wB ⟨rfl, hIB, hbB⟩
      have hI3 : Lib.IsBuilder 141 5 w.heap.size w.heap.size (Lib.byteCells out) wB := by
        rw [HPB.out]
        simpa [Lib.byteCells, Lib.strCells] using hIB
      have HST2 := Lib.hid (String_any w.heap.size w.heap.size out wB hI3 (by have := HBA.out.size; have := hbB.size; omega))
      have HBB := Lib.hid (HBA.out.trans hbB)
      clear hIB hI3 hbB
      go_wp2_with fail
      refine HST2.out.mono ?_
      rintro e wC ⟨rfl, hbC⟩
      have HBC := Lib.hid (HBB.out.trans hbC)
      clear hbC
      go_wp2_with fail
      go_ret
      exact ⟨rfl, HBC.out⟩
end Go.Proofs.YtgamknphlmcgnaaGreatDoor
end
section
set_option linter.unusedSimpArgs false
set_option linter.unusedVariables false
set_option maxRecDepth 100000
set_option linter.unnecessarySimpa false
namespace Go.Proofs.YtgamknphlmcgnaaGreatDoor
open Go.RowKit
namespace TA
mutual
theorem same_zero : (t u : TA) → same (zero t) (zero u) = same t u
  | node _ o _ n r t k ks, node _ o' _ n' r' t' k' ks' => by
    simp only [zero, same, op, name, re, text, back, kids]
    rw [sames_zeros ks ks', zeros_map, zeros_map, List.length_map, List.length_map]
theorem sames_zeros : (l m : List TA) → sames (zeros l) (zeros m) = sames l m
  | [], _ => rfl
  | _ :: _, [] => rfl
  | k :: l, j :: m => by simp only [zeros, sames]; rw [same_zero k j, sames_zeros l m]
end
end TA
namespace PR
def sameLs : List LetT → List LetT → Bool
  | [], _ => true
  | _ :: _, [] => false
  | l :: ls, m :: ms => (l.name == m.name) && (l.term.same m.term && sameLs ls ms)
def samePg (ls : List LetT) (b : TA) (ls' : List LetT) (b' : TA) : Bool := (ls.length == ls'.length) && (sameLs ls ls' && b.same b')
theorem LetsEq.same {ls ms : List LetT} (h : LetsEq ls ms) : sameLs ls ms = true := by
  induction h with
  | nil => rfl
  | cons h hs ih => simp only [sameLs, h.1, TA.same_of_bare _ _ h.2, ih, beq_self_eq_true, Bool.and_true]
theorem same_pg {ls ms : List LetT} {b b' : TA} (h : LetsEq ls ms) (hb : b.bare = b'.bare) : samePg ls b ms b' = true := by
  simp only [samePg, h.length, h.same, TA.same_of_bare _ _ hb, beq_self_eq_true, Bool.and_true]
end PR
def SmPg (w : World) (ls ls' : List PR.LetT) (R : Bool) (i : Value) (wr : World) : Prop := ∃ k : Nat, k ≤ ls.length ∧ i = .int .i64 k ∧ Hid (PR.sameLs (ls.drop k) (ls'.drop k) = R) ∧ Below w.heap.size w wr
theorem let_drop (l : List PR.LetT) (k : Nat) (h : k < l.length) : l.drop k = l.getD k letT0 :: l.drop (k + 1) := by
  rw [List.drop_eq_getElem_cons h]; simp [List.getD, h]
set_option maxRecDepth 100000 in
set_option maxHeartbeats 4000000 in
theorem pgSame_any {ls ls' : List PR.LetT} {kv kv' : Value} {b b' : TA} {ts ts' : List TA} {B B' : Nat} (w : World) (hp : PgM w B ls kv b ts) (hp' : PgM w B' ls' kv' b' ts') (hsz : ∀ i, i < ls.length → (ls.getD i letT0).term.size ≤ 1099511627776) (hbs : b.size ≤ 1099511627776) (hln : ls.length ≤ 1000) :
    Calls Tryz.prog 43 #[ptr B, ptr B'] w fun e w' => e = .returned (.bool (PR.samePg ls b.zero ls' b'.zero)) ∧ Below w.heap.size w w' := by
  have HE : Hid (PR.samePg ls b.zero ls' b'.zero = ((ls.length == ls'.length) && (PR.sameLs ls ls' && b.same b'))) := by show _ = _; rw [PR.samePg, TA.same_zero]
  have HTM : Hid (∀ i, i < ls.length → i < ls'.length → ∀ W, Below w.heap.size w W → Calls Tryz.prog 35 #[ptr (ts.getD i TA.none).b, ptr (ts'.getD i TA.none).b] W fun e w' => e = .returned (.bool ((ls.getD i letT0).term.same (ls'.getD i letT0).term)) ∧ ∃ q, w' = W.drewN q) := fun i hi hi' W hW => by
    have h1 := hp.tms i hi
    have h2 := hp'.tms i hi'
    have h3 := hsz i hi
    rw [← h1.2, TA.size_zero] at h3
    rw [← h1.2, ← h2.2, TA.same_zero]
    exact tmSame_any _ _ _ (Nat.le_refl _) h3 W (h1.1.later hW) (h2.1.later hW)
  have HBD : Hid (∀ W, Below w.heap.size w W → Calls Tryz.prog 35 #[ptr b.b, ptr b'.b] W fun e w' => e = .returned (.bool (b.same b')) ∧ ∃ q, w' = W.drewN q) := fun W hW => tmSame_any _ _ _ (Nat.le_refl _) hbs W (hp.body.later hW) (hp'.body.later hW)
  have HP := Lib.hid hp
  have HP' := Lib.hid hp'
  have e6 := int_beq ls.length ls'.length
  have f6 := bne_of e6
  have HL : Hid ((ls.length == ls'.length) = true → ls.length = ls'.length) := fun h => by simpa using h
  obtain ⟨kp, cap, rfl, hcells⟩ := hp.form
  obtain ⟨kp', cap', rfl, hcells'⟩ := hp'.form
  have HC := Lib.hid hcells
  have HC' := Lib.hid hcells'
  obtain ⟨S, hSd⟩ : ∃ S : World → Prop, ∀ W', S W' ↔ ∃ q, W' = w.drewN q := ⟨_, fun _ => Iff.rfl⟩
  have HSD := Lib.hid hSd
  have hS0 : S w.drew := (hSd _).2 ⟨1, rfl⟩
  have hne : Nonempty (InC S) := ⟨⟨_, hS0⟩⟩
  have cs : ∀ p : InC S, p.w.cell? ⟨B, 0, none⟩ = some (.slice kp ls.length cap) ∧ p.w.cell? ⟨B', 0, none⟩ = some (.slice kp' ls'.length cap') := fun p => by
    obtain ⟨q, hq⟩ := (hSd p.w).1 p.h
    rw [hq]
    exact ⟨hp.c0, hp'.c0⟩
  clear hSd hp hp' hsz hbs hcells hcells'
  generalize PR.samePg ls b.zero ls' b'.zero = out at *
  generalize b.same b' = sb at *
  generalize hb6 : (ls.length == ls'.length) = b6 at *
  clear hb6
  cases b6 with
  | false =>
    go_enter Tryz.func43, Tryz.ntmps43
    go_wp2_with fail
    (try simp only [List.append, List.cons_append, List.nil_append])
    refine wp_region_class S (by kernel_rfl) (by kernel_rfl) hS0 ?_
    repeat (go_big_quiet_step (fail))
    refine wpQuiet_nil ?_
    intro p
    obtain ⟨q9, hq9⟩ := (HSD.out p.w).1 p.h
    rw [hq9]
    clear cs hne hS0 hq9 p
    go_wp2_with fail
    go_ret
    exact ⟨by rw [HE.out]; rfl, ext_drewN (Below.refl _ _) _⟩
  | true =>
    have hlen := HL.out rfl
    go_enter Tryz.func43, Tryz.ntmps43
    go_wp2_with fail
    (try simp only [List.append, List.cons_append, List.nil_append])
    refine wp_region_class S (by kernel_rfl) (by kernel_rfl) hS0 ?_
    repeat (go_big_quiet_step (fail))
    refine wpQuiet_nil ?_
    intro p
    obtain ⟨q9, hq9⟩ := (HSD.out p.w).1 p.h
    rw [hq9]
    clear cs hne hS0 hq9 p e6 f6
    have p0 := HP.out.c0
    have HR : Hid (∀ r, PR.sameLs ls ls' = r → out = (r && sb)) := fun r h => by rw [HE.out, h]; rfl
    go_wp2_with fail
    go_loopw [32] (fun i wr => SmPg w ls ls' (PR.sameLs ls ls') i wr) (fun i _ => ls.length - (intOf i).toNat)
    case atStart => exact ⟨0, by omega, rfl, rfl, ext_drewN (Below.refl _ _) _⟩
    case round =>
      obtain ⟨k, hk, rfl, hgo, hbel⟩ := hrel
      have HBE := Lib.hid hbel
      clear hbel p0
      by_cases hlt : k < ls.length
      · obtain ⟨g, rfl, c0, c1, c2⟩ := HC.out k hlt
        obtain ⟨g', rfl, d0, d1, d2⟩ := HC'.out k (by omega)
        have key : ∀ a v, w.cell? a = some v → wr.cell? a = some v := fun a v hv => (HBE.out.cell (p := a) (World.block_lt_of_cell? w _ hv)).trans hv
        replace c0 := key _ _ c0
        replace c1 := key _ _ c1
        replace c2 := key _ _ c2
        have HD := Lib.hid (And.intro (HP'.out.c0) (And.intro d0 d2))
        have HCT := Lib.hid (HTM.out k hlt (by omega))
        have hnm := str_beq (ls.getD k letT0).name (ls'.getD k letT0).name
        have hnb := bne_of hnm
        have HNX : Hid (((ls.getD k letT0).name == (ls'.getD k letT0).name && ((ls.getD k letT0).term.same (ls'.getD k letT0).term && PR.sameLs (ls.drop (k + 1)) (ls'.drop (k + 1)))) = PR.sameLs ls ls') := by
          show _ = _
          have := hgo.out
          rw [let_drop ls k hlt, let_drop ls' k (by omega)] at this
          exact this
        clear key d0 d1 d2 hgo
        generalize PR.sameLs ls ls' = R at *
        generalize (ls.getD k letT0).term.same (ls'.getD k letT0).term = sq at *
        generalize ((ls.getD k letT0).name == (ls'.getD k letT0).name) = bn at *
        generalize (⟨(ls.getD k letT0).name.toArray⟩ : ByteArray) = n1 at *
        generalize (⟨(ls'.getD k letT0).name.toArray⟩ : ByteArray) = n2 at *
        generalize (ts.getD k TA.none).b = x1 at *
        generalize (ts'.getD k TA.none).b = x2 at *
        generalize (ls.getD k letT0).at_ = q at *
        have hlt' : k < ls'.length := by omega
        go_upto_region 8 with fail
        generalize hW1 : World.alloc wr _ = W1 at *
        have l0 : W1.cell? ⟨wr.heap.size, 0, none⟩ = some (.string n1) := by rw [← hW1, cell_of_row _ _ _ _ _ _ (heap_alloc_last wr _)]; rfl
        have l2 : W1.cell? ⟨wr.heap.size, 2, none⟩ = some (ptr x1) := by rw [← hW1, cell_of_row _ _ _ _ _ _ (heap_alloc_last wr _)]; rfl
        have hb1 : Below wr.heap.size wr W1 := by rw [← hW1]; exact re_alloc wr _
        have hbw := ext_step HBE.out hb1
        have HB1 := Lib.hid hbw
        have key : ∀ a v, w.cell? a = some v → W1.cell? a = some v := fun a v hv => (hbw.cell (p := a) (World.block_lt_of_cell? w _ hv)).trans hv
        have m0 := key _ _ HD.out.1
        have m1 := key _ _ HD.out.2.1
        have m2 := key _ _ HD.out.2.2
        obtain ⟨S1, hSd⟩ : ∃ S : World → Prop, ∀ W', S W' ↔ ∃ q, W' = W1.drewN q := ⟨_, fun _ => Iff.rfl⟩
        have HSD1 := Lib.hid hSd
        have hS1 : S1 W1.drew := (hSd _).2 ⟨1, rfl⟩
        have hne : Nonempty (InC S1) := ⟨⟨_, hS1⟩⟩
        have cs : ∀ p : InC S1, p.w.cell? ⟨wr.heap.size, 0, none⟩ = some (.string n1) ∧ p.w.cell? ⟨wr.heap.size, 2, none⟩ = some (ptr x1) ∧ p.w.cell? ⟨B', 0, none⟩ = some (.slice (some ⟨g', 0, none⟩) ls'.length cap') ∧ p.w.cell? ⟨g', k * 3, none⟩ = some (.string n2) ∧ p.w.cell? ⟨g', k * 3 + 2, none⟩ = some (ptr x2) := fun p => by
          obtain ⟨q, hq⟩ := (hSd p.w).1 p.h
          rw [hq]
          exact ⟨l0, l2, m0, m1, m2⟩
        have HC0 : Hid (∀ p : InC S1, Calls Tryz.prog 35 #[ptr x1, ptr x2] p.w fun e w' => e = .returned (.bool sq) ∧ ∃ q : InC S1, w' = q.w) := fun p => by
          obtain ⟨q, hq⟩ := (hSd p.w).1 p.h
          rw [hq]
          refine (HCT.out _ (ext_drewN hbw q)).mono ?_
          rintro e w' ⟨he, r, rfl⟩
          exact ⟨he, ⟨_, (hSd _).2 ⟨q + r, World.drewN_drewN _ _ _⟩⟩, rfl⟩
        clear hSd hW1 hb1 hbw key m0 m1 m2 l0 l2 c0 c1 c2
        cases bn with
        | false =>
          have HN2 : Hid (R = false) := Lib.hid (by have := HNX.out; simpa using this.symm)
          clear HNX
          (try simp only [List.append, List.cons_append, List.nil_append])
          refine wp_region_class S1 (by kernel_rfl) (by kernel_rfl) hS1 ?_
          repeat (go_big_quiet_step (with_reducible exact HC0.out _))
          refine wpQuiet_nil ?_
          intro p
          obtain ⟨q9, hq9⟩ := (HSD1.out p.w).1 p.h
          rw [hq9]
          clear cs hne hS1 hq9 p
          go_wp2_with fail
          go_ret
          exact ⟨by rw [HR.out _ HN2.out]; rfl, ext_drewN HB1.out _⟩
        | true =>
          cases sq with
          | false =>
            have HN2 : Hid (R = false) := Lib.hid (by have := HNX.out; simpa using this.symm)
            clear HNX
            (try simp only [List.append, List.cons_append, List.nil_append])
            refine wp_region_class S1 (by kernel_rfl) (by kernel_rfl) hS1 ?_
            repeat (go_big_quiet_step (with_reducible exact HC0.out _))
            refine wpQuiet_nil ?_
            intro p
            obtain ⟨q9, hq9⟩ := (HSD1.out p.w).1 p.h
            rw [hq9]
            clear cs hne hS1 hq9 p
            go_wp2_with fail
            go_ret
            exact ⟨by rw [HR.out _ HN2.out]; rfl, ext_drewN HB1.out _⟩
          | true =>
            have HN2 : Hid (PR.sameLs (ls.drop (k + 1)) (ls'.drop (k + 1)) = R) := Lib.hid (by have := HNX.out; simpa using this)
            clear HNX
            (try simp only [List.append, List.cons_append, List.nil_append])
            refine wp_region_class S1 (by kernel_rfl) (by kernel_rfl) hS1 ?_
            repeat (go_big_quiet_step (with_reducible exact HC0.out _))
            refine wpQuiet_nil ?_
            intro p
            obtain ⟨q9, hq9⟩ := (HSD1.out p.w).1 p.h
            rw [hq9]
            clear cs hne hS1 hq9 p
            go_wp2_with fail
            go_roundw
            case rel => exact ⟨k + 1, by omega, by go_num, HN2, ext_drewN HB1.out _⟩
            case measure => simp [intOf]; omega
      · obtain rfl : k = ls.length := by omega
        have HN2 : Hid (PR.sameLs ls ls' = true) := Lib.hid (by
          have := hgo.out
          rw [List.drop_length] at this
          exact this.symm)
        have q1 := HP.out.c1
        have q2 := HP'.out.c1
        have key : ∀ a v, w.cell? a = some v → wr.cell? a = some v := fun a v hv => (HBE.out.cell (p := a) (World.block_lt_of_cell? w _ hv)).trans hv
        replace q1 := key _ _ q1
        replace q2 := key _ _ q2
        obtain ⟨S1, hSd⟩ : ∃ S : World → Prop, ∀ W', S W' ↔ ∃ q, W' = wr.drewN q := ⟨_, fun _ => Iff.rfl⟩
        have HSD1 := Lib.hid hSd
        have hS1 : S1 wr.drew := (hSd _).2 ⟨1, rfl⟩
        have hne : Nonempty (InC S1) := ⟨⟨_, hS1⟩⟩
        have cs : ∀ p : InC S1, p.w.cell? ⟨B, 1, none⟩ = some (ptr b.b) ∧ p.w.cell? ⟨B', 1, none⟩ = some (ptr b'.b) := fun p => by
          obtain ⟨q, hq⟩ := (hSd p.w).1 p.h
          rw [hq]
          exact ⟨q1, q2⟩
        have HC0 : Hid (∀ p : InC S1, Calls Tryz.prog 35 #[ptr b.b, ptr b'.b] p.w fun e w' => e = .returned (.bool sb) ∧ ∃ q : InC S1, w' = q.w) := fun p => by
          obtain ⟨q, hq⟩ := (hSd p.w).1 p.h
          rw [hq]
          refine (HBD.out _ (ext_drewN HBE.out q)).mono ?_
          rintro e w' ⟨he, r, rfl⟩
          exact ⟨he, ⟨_, (hSd _).2 ⟨q + r, World.drewN_drewN _ _ _⟩⟩, rfl⟩
        clear hSd key q1 q2 hgo
        generalize b.b = x1 at *
        generalize b'.b = x2 at *
        go_wp2_with fail
        (try simp only [List.append, List.cons_append, List.nil_append])
        refine wp_region_class S1 (by kernel_rfl) (by kernel_rfl) hS1 ?_
        repeat (go_big_quiet_step (with_reducible exact HC0.out _))
        refine wpQuiet_nil ?_
        intro p
        obtain ⟨q9, hq9⟩ := (HSD1.out p.w).1 p.h
        rw [hq9]
        clear cs hne hS1 hq9 p
        go_wp2_with fail
        go_ret
        exact ⟨by rw [HR.out _ HN2.out]; rfl, ext_drewN HBE.out _⟩
end Go.Proofs.YtgamknphlmcgnaaGreatDoor
end
section
set_option linter.unusedSimpArgs false
set_option linter.unusedVariables false
set_option maxRecDepth 100000
set_option linter.unnecessarySimpa false
namespace Go.Proofs.YtgamknphlmcgnaaGreatDoor
namespace TA
mutual
theorem wt_bare : (t : TA) → (bare t).wt = t.wt
  | node _ o _ n r t k ks => by simp only [bare, wt]; rw [wts_bares ks]
theorem wts_bares : (l : List TA) → wts (bares l) = wts l
  | [] => rfl
  | k :: l => by simp only [bares, wts]; rw [wt_bare k, wts_bares l]
end
theorem bares_nil {l : List TA} : bares l ≠ [] ↔ l ≠ [] := by cases l <;> simp [bares]
mutual
theorem ok_bare : (t : TA) → (ok (bare t) ↔ ok t)
  | node _ o _ n r t k ks => by simp only [bare, ok]; rw [oks_bares ks, bares_nil]
theorem oks_bares : (l : List TA) → (oks (bares l) ↔ oks l)
  | [] => Iff.rfl
  | k :: l => by simp only [bares, oks]; rw [ok_bare k, oks_bares l]
end
end TA
namespace PR
theorem big_size {x : RE} (h : big (some x) = false) : RE.sizeO (some x) ≤ 300 := by
  unfold big at h
  simp only [Bool.or_eq_false_iff, decide_eq_false_iff_not] at h
  omega
theorem nameB_len {n : List UInt8} (h : LX.nameB n = true) : n.length ≤ 30 := by
  unfold LX.nameB at h
  simp only [Bool.and_eq_true, decide_eq_true_eq] at h
  exact h.1.1.2
theorem arg_fine {G : RE → Prop} (hG : ∀ x, G x → RE.nf x) {r : Option RE} {ks : List TA} (h : ArgOk (Gd G) r ks) : (∀ x, r = some x → RE.nf x) ∧ RE.sizeO r ≤ 300 ∧ TA.oks ks ∧ TA.wts ks ≤ (TA.sizes ks) * 2600 := by
  rcases h with ⟨x, rfl, hx, rfl⟩ | ⟨rfl, b, a, n, rfl, hn⟩
  · exact ⟨fun y hy => (by cases hy; exact hG _ hx.1), big_size hx.2, trivial, by simp [TA.wts]⟩
  · refine ⟨fun y hy => (by cases hy), by simp [RE.sizeO], ⟨⟨⟨by omega, fun y hy => (by cases hy), by omega⟩, trivial⟩, trivial⟩, ?_⟩
    have := nameB_len hn
    simp [TA.wts, TA.wt, TA.sizes, TA.size, RE.sizeO]; omega
/-- what a node may weigh -/
def wK (M : Nat) : Nat := 730000 + 8 * M
theorem sh_fine {G : RE → Prop} (hG : ∀ x, G x → RE.nf x) {M : Nat} {t : TA} (h : Sh (Gd G) M t) : t.ok ∧ t.wt ≤ t.size * wK M := by
  have leaf : ∀ (o : Nat) (r : Option RE) (ks : List TA) (n t k : List UInt8), o < 18 → ¬ (o = 10 ∨ o = 12 ∨ o = 13 ∨ o = 14 ∨ o = 15) → n.length ≤ 30 → t.length ≤ M → k.length ≤ M → ArgOk (Gd G) r ks → ∀ b a, (TA.node b o a n r t k ks).ok ∧ (TA.node b o a n r t k ks).wt ≤ (TA.node b o a n r t k ks).size * wK M := fun o r ks n t k h18 ho hn ht hk h b a => by
    obtain ⟨h1, h2, h3, h4⟩ := arg_fine hG h
    refine ⟨⟨⟨h18, h1, fun e => absurd e ho⟩, h3⟩, ?_⟩
    simp only [TA.wt, TA.size, wK]
    have h5 : TA.sizes ks * 2600 ≤ TA.sizes ks * (730000 + 8 * M) := Nat.mul_le_mul (Nat.le_refl _) (by omega)
    rw [Nat.add_mul, Nat.one_mul]
    omega
  induction h with
  | name b a n h =>
    have := nameB_len h
    refine ⟨⟨⟨by omega, fun y hy => (by cases hy), by omega⟩, trivial⟩, ?_⟩
    simp [TA.wt, TA.wts, TA.size, TA.sizes, RE.sizeO, wK]; omega
  | re b a x h =>
    have := big_size h.2
    refine ⟨⟨⟨by omega, fun y hy => (by cases hy; exact hG _ h.1), by omega⟩, trivial⟩, ?_⟩
    simp only [TA.wt, TA.wts, TA.size, TA.sizes, wK, List.length_nil]; omega
  | copy b a o r ks ho h => exact leaf o r ks [] [] [] (by omega) (by omega) (by simp) (by simp) (by simp) h b a
  | key b a n r ks hn h => exact leaf 3 r ks n [] [] (by omega) (by omega) (nameB_len hn) (by simp) (by simp) h b a
  | const b a r t k ks ht hk h => exact leaf 4 r ks [] t k (by omega) (by omega) (by simp) ht hk h b a
  | del b a r k ks hk h => exact leaf 5 r ks [] [] k (by omega) (by omega) (by simp) (by simp) hk h b a
  | norm b a r t ks ht h => exact leaf 17 r ks [] t [] (by omega) (by omega) (by simp) ht (by simp) h b a
  | ins b a t ht =>
    refine ⟨⟨⟨by omega, fun y hy => (by cases hy), by omega⟩, trivial⟩, ?_⟩
    simp [TA.wt, TA.wts, TA.size, TA.sizes, RE.sizeO, wK]; omega
  | two b a o x y ho hx hy ihx ihy =>
    refine ⟨⟨⟨by omega, fun y hy => (by cases hy), fun _ => by simp⟩, ihx.1, ihy.1, trivial⟩, ?_⟩
    have h1 := ihx.2
    have h2 := ihy.2
    simp only [TA.wt, TA.wts, TA.size, TA.sizes, RE.sizeO, List.length_nil, Nat.add_zero, Nat.add_mul, Nat.one_mul]
    have : 730000 ≤ wK M := by unfold wK; omega
    omega
  | star b a x hx ih =>
    refine ⟨⟨⟨by omega, fun y hy => (by cases hy), fun _ => by simp⟩, ih.1, trivial⟩, ?_⟩
    have h1 := ih.2
    simp only [TA.wt, TA.wts, TA.size, TA.sizes, RE.sizeO, List.length_nil, Nat.add_zero, Nat.add_mul, Nat.one_mul]
    have : 730000 ≤ wK M := by unfold wK; omega
    omega
  | call1 b a o x ho hx ih =>
    refine ⟨⟨⟨by omega, fun y hy => (by cases hy), fun _ => by simp⟩, ih.1, trivial⟩, ?_⟩
    have h1 := ih.2
    simp only [TA.wt, TA.wts, TA.size, TA.sizes, RE.sizeO, List.length_nil, Nat.add_zero, Nat.add_mul, Nat.one_mul]
    have : 730000 ≤ wK M := by unfold wK; omega
    omega
  | call2 b a o x y ho hx hy ihx ihy =>
    refine ⟨⟨⟨by omega, fun y hy => (by cases hy), fun _ => by simp⟩, ihx.1, ihy.1, trivial⟩, ?_⟩
    have h1 := ihx.2
    have h2 := ihy.2
    simp only [TA.wt, TA.wts, TA.size, TA.sizes, RE.sizeO, List.length_nil, Nat.add_zero, Nat.add_mul, Nat.one_mul]
    have : 730000 ≤ wK M := by unfold wK; omega
    omega
end PR
end Go.Proofs.YtgamknphlmcgnaaGreatDoor
end
