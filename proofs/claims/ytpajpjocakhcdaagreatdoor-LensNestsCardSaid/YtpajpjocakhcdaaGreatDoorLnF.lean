/-
  How deep the parentheses of a term's text lie in one another, plain: what the statement reckons out of the text is what the term's parts tell.
-/
import Derived.Test.YtpajpjocakhcdaaGreatDoorLnO
set_option linter.unusedSimpArgs false
set_option linter.unusedVariables false
set_option maxRecDepth 100000
set_option linter.unnecessarySimpa false
namespace Go.Proofs.YtpajpjocakhcdaaGreatDoor
/-- what is reckoned out of a text, byte by byte: is the next byte passed over, how many are open, how many were at most, within which quotes -/
def scan : List UInt8 → Bool → Int → Int → UInt8 → Int
  | [], _, _, m, _ => m
  | c :: r, sk, n, m, q =>
    if sk then scan r false n m q
    else if q ≠ 0 then (if c = 92 then scan r true n m q else scan r false n m (if c = q then 0 else q))
    else if c = 34 ∨ c = 47 then scan r false n m c
    else if c = 40 then scan r false (n + 1) (max m (n + 1)) q
    else if c = 41 then scan r false (n - 1) m q
    else scan r false n m q
/-- a text that turns nothing -/
def Qu (q : UInt8) (l : List UInt8) : Prop := ∀ r n m, scan (l ++ r) false n m q = scan r false n m q
theorem Qu.nil (q : UInt8) : Qu q [] := fun _ _ _ => rfl
theorem Qu.app {q : UInt8} {a b : List UInt8} (ha : Qu q a) (hb : Qu q b) : Qu q (a ++ b) := fun r n m => by rw [List.append_assoc, ha, hb]
theorem Qu.flat {q : UInt8} {α : Type} (f : α → List UInt8) (l : List α) (h : ∀ x ∈ l, Qu q (f x)) : Qu q (l.flatMap f) := by
  induction l with
  | nil => exact Qu.nil q
  | cons a l ih => rw [List.flatMap_cons]; exact (h a (by simp)).app (ih fun x hx => h x (by simp [hx]))
theorem Qu.join {q : UInt8} (l : List (List UInt8)) (sep : List UInt8) (h : ∀ x ∈ l, Qu q x) (hs : Qu q sep) : Qu q (Lib.join l sep) := by
  cases l with
  | nil => exact Qu.nil q
  | cons x r =>
    rw [Lib.join_cons]
    refine (h x (by simp)).app ?_
    unfold Lib.joinTail
    exact Qu.flat _ _ fun y hy => hs.app (h y (by simp [hy]))
theorem Qu.one {q c : UInt8} (hq : q ≠ 0) (h1 : c ≠ 92) (h2 : c ≠ q) : Qu q [c] := fun r n m => by
  show scan (c :: r) false n m q = _
  rw [scan, if_neg (by simp), if_pos hq, if_neg h1, if_neg h2]
theorem Qu.esc {q c : UInt8} (hq : q ≠ 0) : Qu q [92, c] := fun r n m => by
  show scan (92 :: c :: r) false n m q = _
  rw [scan, if_neg (by simp), if_pos hq, if_pos rfl, scan, if_pos rfl]
theorem Qu.two {q a b : UInt8} (ha : Qu q [a]) (hb : Qu q [b]) : Qu q [a, b] := ha.app hb
theorem hexd_ne : ∀ k, k < 16 → hexd k ≠ 92 ∧ hexd k ≠ 34 ∧ hexd k ≠ 47 := by decide
theorem marked_ne : ∀ b, b < 256 → marked b = false → b.toUInt8 ≠ 92 ∧ b.toUInt8 ≠ 34 ∧ b.toUInt8 ≠ 47 := by decide +kernel
theorem Qu.byte {q : UInt8} (hq : q = 34 ∨ q = 47) (b : Nat) (hb : b < 256) : Qu q (byteW b) := by
  have hq0 : q ≠ 0 := by rcases hq with rfl | rfl <;> decide
  unfold byteW
  split
  · exact Qu.esc hq0
  split
  · exact Qu.esc hq0
  split
  · have h1 := hexd_ne (b / 16) (by omega)
    have h2 := hexd_ne (b % 16) (by omega)
    refine Qu.app (a := [92, 120]) (Qu.esc hq0) (Qu.two (Qu.one hq0 h1.1 ?_) (Qu.one hq0 h2.1 ?_))
    · rcases hq with rfl | rfl
      · exact h1.2.1
      · exact h1.2.2
    · rcases hq with rfl | rfl
      · exact h2.2.1
      · exact h2.2.2
  · split
    · exact Qu.esc hq0
    · rename_i h
      have h1 := marked_ne b hb (by simpa using h)
      refine Qu.one hq0 h1.1 ?_
      rcases hq with rfl | rfl
      · exact h1.2.1
      · exact h1.2.2
theorem Qu.s47 {c : UInt8} (h1 : c ≠ 92) (h2 : c ≠ 47) : Qu 47 [c] := Qu.one (by decide) h1 h2
theorem Qu.runs (l : List Rn) : Qu 47 (runsW l) := Qu.flat _ _ fun x _ => by
  unfold runW
  refine (Qu.byte (.inr rfl) _ x.ha).app ?_
  split
  · exact Qu.app (a := [45]) (Qu.s47 (by decide) (by decide)) (Qu.byte (.inr rfl) _ x.hb)
  · exact Qu.nil _
theorem Qu.class (s : BS) : Qu 47 (classW s) := by
  unfold classW
  split
  · exact Qu.byte (.inr rfl) _ s.least_lt
  split
  · exact Qu.s47 (by decide) (by decide)
  unfold setW
  split
  · exact Qu.app (Qu.app (Qu.two (Qu.s47 (by decide) (by decide)) (Qu.s47 (by decide) (by decide))) (Qu.runs _)) (Qu.s47 (by decide) (by decide))
  · exact Qu.app (Qu.app (Qu.s47 (by decide) (by decide)) (Qu.runs _)) (Qu.s47 (by decide) (by decide))
theorem Qu.paren {l : List UInt8} (h : Qu 47 l) (c : Prop) [Decidable c] : Qu 47 (if c then [40] ++ l ++ [41] else l) := by
  split
  · exact Qu.app (Qu.app (Qu.s47 (by decide) (by decide)) h) (Qu.s47 (by decide) (by decide))
  · exact h
mutual
theorem Qu.of : (r : RE) → Qu 47 (RE.ofW r)
  | .node o s ks => by
    rw [RE.ofW]
    split
    · exact Qu.two (Qu.s47 (by decide) (by decide)) (Qu.s47 (by decide) (by decide))
    split
    · exact Qu.class s
    split
    · exact Qu.join _ _ (Qu.ins 4 ks) (Qu.nil _)
    split
    · exact Qu.join _ _ (Qu.ins 1 ks) (Qu.s47 (by decide) (by decide))
    split
    · exact Qu.join _ _ (Qu.ins 3 ks) (Qu.s47 (by decide) (by decide))
    split
    · exact Qu.but ks
    split
    · exact Qu.star ks
    · exact Qu.two (Qu.s47 (by decide) (by decide)) (Qu.s47 (by decide) (by decide))
theorem Qu.ins (at_ : Nat) : (l : List RE) → ∀ x ∈ RE.insW at_ l, Qu 47 x
  | [] => fun x h => absurd h (by simp [RE.insW])
  | k :: l => fun x h => by
    rw [RE.insW] at h
    rcases List.mem_cons.1 h with rfl | h
    · exact Qu.paren (Qu.of k) _
    · exact Qu.ins at_ l x h
theorem Qu.but : (l : List RE) → Qu 47 (RE.butW l)
  | [] => Qu.nil _
  | [_] => Qu.nil _
  | a :: b :: _ => Qu.app (Qu.app (Qu.paren (Qu.of a) _) (Qu.s47 (by decide) (by decide))) (Qu.paren (Qu.of b) _)
theorem Qu.star : (l : List RE) → Qu 47 (RE.starW l)
  | [] => Qu.nil _
  | a :: _ => Qu.app (Qu.paren (Qu.of a) _) (Qu.s47 (by decide) (by decide))
end
theorem Qu.ofO (o : Option RE) : Qu 47 (RE.ofO o) := by
  cases o with
  | none => exact Qu.two (Qu.s47 (by decide) (by decide)) (Qu.s47 (by decide) (by decide))
  | some r => exact Qu.of r
theorem Qu.bytes (l : List UInt8) : Qu 34 (bytesW l) := Qu.flat _ _ fun c _ => Qu.byte (.inl rfl) _ c.toNat_lt
/-- in quotes, whole -/
theorem Qu.quoted {q : UInt8} (hq : q = 34 ∨ q = 47) {l : List UInt8} (h : Qu q l) : Qu 0 (q :: (l ++ [q])) := fun r n m => by
  have hq0 : q ≠ 0 := by rcases hq with rfl | rfl <;> decide
  have hq9 : q ≠ 92 := by rcases hq with rfl | rfl <;> decide
  show scan (q :: (l ++ [q] ++ r)) false n m 0 = _
  rw [scan, if_neg (by simp), if_neg (by simp), if_pos hq, List.append_assoc, h]
  show scan (q :: r) false n m q = _
  rw [scan, if_neg (by simp), if_pos hq0, if_neg hq9, if_pos rfl]
theorem Qu.quote (l : List UInt8) : Qu 0 (quoteW l) := Qu.quoted (.inl rfl) (Qu.bytes l)
theorem Qu.expr (o : Option RE) : Qu 0 ([47] ++ RE.ofO o ++ [47]) := by
  have := Qu.quoted (.inr rfl) (Qu.ofO o)
  simpa using this
/-- bytes that stand for themselves outside quotes -/
def Bare (l : List UInt8) : Prop := ∀ c ∈ l, c ≠ 34 ∧ c ≠ 47 ∧ c ≠ 40 ∧ c ≠ 41
instance (l : List UInt8) : Decidable (Bare l) := by unfold Bare; infer_instance
theorem Bare.qu {l : List UInt8} (h : Bare l) : Qu 0 l := by
  induction l with
  | nil => exact Qu.nil _
  | cons c l ih =>
    refine Qu.app (a := [c]) ?_ (ih fun x hx => h x (by simp [hx]))
    intro r n m
    obtain ⟨h1, h2, h3, h4⟩ := h c (by simp)
    show scan (c :: r) false n m 0 = _
    rw [scan, if_neg (by simp), if_neg (by simp), if_neg (by simp [h1, h2]), if_neg h3, if_neg h4]
theorem bare_word (o : Nat) : Bare (TA.word o) := by
  unfold TA.word wordT
  split
  · have key : ∀ i, i < 16 → Bare (opWords.getD i []) := by decide
    by_cases h : ((o : Int) - 2).toNat < 16
    · exact key _ h
    · have hl : opWords.length = 16 := rfl
      have : opWords.getD ((o : Int) - 2).toNat [] = [] := by simp [List.getD, List.getElem?_eq_none (show opWords.length ≤ ((o : Int) - 2).toNat by omega)]
      rw [this]; intro c hc; simp at hc
  · intro c hc; simp at hc
namespace TA
/-- does a kid stand in parentheses? -/
def wrapB (o i ko : Nat) : Bool := if o = 7 ∨ o = 8 ∨ o = 11 then decide (lvl ko < lvl o + i) else if o = 9 then decide (lvl ko < lvl o) else decide (o = 10 ∨ o = 12 ∨ o = 13 ∨ o = 14 ∨ o = 15)
mutual
/-- how deep parentheses lie in one another -/
def nest : TA → Nat | node _ o _ _ _ _ _ ks => nestG o 0 ks 0
def nestG (o i : Nat) : List TA → Nat → Nat
  | [], m => m
  | k :: ks, m => nestG o (i + 1) ks (max m (nest k + if wrapB o i k.op then 1 else 0))
end
theorem nest_eq (t : TA) : t.nest = nestG t.op 0 t.kids 0 := by cases t; rfl
theorem nestG_le (o : Nat) : ∀ (l : List TA) (i m : Nat), (∀ k ∈ l, k.nest ≤ k.size) → nestG o i l m ≤ max m (1 + sizes l)
  | [], i, m, _ => by simp [nestG]; omega
  | k :: l, i, m, h => by
    have h1 := h k (by simp)
    have h2 := nestG_le o l (i + 1) (max m (nest k + if wrapB o i k.op then 1 else 0)) fun k hk => h k (by simp [hk])
    rw [nestG, sizes]
    have h3 : (if wrapB o i k.op then 1 else 0) ≤ 1 := by split <;> omega
    omega
theorem nest_le : (t : TA) → t.nest ≤ t.size
  | node _ o _ _ _ _ _ ks => by
    have := nestG_le o ks 0 0 fun k hk => nest_le k
    simp only [nest, size]; omega
mutual
theorem nest_zero : (t : TA) → nest (zero t) = nest t
  | node _ o _ _ _ _ _ ks => by simp only [zero, nest]; exact nestG_zeros o 0 ks 0
theorem nestG_zeros (o i : Nat) : (l : List TA) → (m : Nat) → nestG o i (zeros l) m = nestG o i l m
  | [], _ => rfl
  | k :: l, m => by simp only [zeros, nestG, zero_op]; rw [nest_zero k, nestG_zeros o (i + 1) l]
end
mutual
/-- names stand for themselves -/
def nm : TA → Prop | node _ o _ n _ _ _ ks => (Bare n ∧ (o = 6 → ks = [])) ∧ nms ks
def nms : List TA → Prop | [] => True | k :: ks => nm k ∧ nms ks
end
theorem nms_iff (l : List TA) : nms l ↔ ∀ r ∈ l, nm r := by
  induction l with
  | nil => simp [nms]
  | cons a l ih => simp [nms, ih]
/-- what a text turns: it is as deep as so -/
def Deep (d : Nat) (l : List UInt8) : Prop := ∀ r n m, n ≤ m → scan (l ++ r) false n m 0 = scan r false n (max m (n + d)) 0
theorem Deep.of {l : List UInt8} (h : Qu 0 l) : Deep 0 l := fun r n m hm => by rw [h]; congr 1; omega
theorem Deep.app {a b : List UInt8} {d e : Nat} (ha : Deep d a) (hb : Deep e b) : Deep (max d e) (a ++ b) := fun r n m hm => by
  rw [List.append_assoc, ha _ _ _ hm, hb _ _ _ (by omega)]; congr 1; omega
theorem Deep.cast {a : List UInt8} {d e : Nat} (h : Deep d a) (he : d = e) : Deep e a := he ▸ h
theorem Deep.paren {a : List UInt8} {d : Nat} (h : Deep d a) : Deep (d + 1) ([40] ++ a ++ [41]) := fun r n m hm => by
  have e : [40] ++ a ++ [41] ++ r = 40 :: (a ++ (41 :: r)) := by simp
  rw [e, scan, if_neg (by simp), if_neg (by simp), if_neg (by decide), if_pos rfl, h _ _ _ (by omega), scan, if_neg (by simp), if_neg (by simp), if_neg (by decide), if_neg (by decide), if_pos rfl]
  congr 1 <;> omega
theorem Deep.wrap {a : List UInt8} {d : Nat} (h : Deep d a) (c : Prop) [Decidable c] : Deep (d + if c then 1 else 0) (if c then [40] ++ a ++ [41] else a) := by
  split
  · exact h.paren
  · exact h
theorem Deep.bare {l : List UInt8} (h : Bare l) : Deep 0 l := Deep.of h.qu
theorem Deep.expr (o : Option RE) : Deep 0 ([47] ++ RE.ofO o ++ [47]) := Deep.of (Qu.expr o)
theorem Deep.quote (l : List UInt8) : Deep 0 (quoteW l) := Deep.of (Qu.quote l)
theorem deep_pair (o l : Nat) (hl : lvl o = l) (ho : o = 7 ∨ o = 8 ∨ o = 11) (sign : List UInt8) (hs : Bare sign) (x y : TA) (hx : Deep (nest x) (str x)) (hy : Deep (nest y) (str y)) : Deep (nestG o 0 [x, y] 0) (pair sign l [x, y]) := by
  rw [pair]
  refine (((hx.wrap (lvl x.op < l)).app (Deep.bare hs)).app (hy.wrap (lvl y.op < l + 1))).cast ?_
  have hb : ∀ i ko, wrapB o i ko = decide (lvl ko < l + i) := fun i ko => by unfold wrapB; rw [if_pos ho, hl]
  simp only [nestG, hb, decide_eq_true_eq, Nat.add_zero, Nat.zero_add]; omega
theorem deep_str : (t : TA) → made t → nm t → Deep (nest t) (str t)
  | node b o a n r t k ks, hm, hn => by
    obtain ⟨⟨h2, h18, hA, hP, hS⟩, hmk⟩ := hm
    obtain ⟨⟨hn, h6⟩, hnk⟩ := hn
    have hmk := (mades_iff _).1 hmk
    have hnk := (nms_iff _).1 hnk
    have ih : ∀ x ∈ ks, Deep (nest x) (str x) := fun x hx => deep_str x (hmk x hx) (hnk x hx)
    have hw := Deep.bare (bare_word o)
    rw [str, nest]
    by_cases e0 : o = 0
    · omega
    rw [if_neg e0]
    by_cases e1 : o = 1
    · omega
    rw [if_neg e1]
    have he := Deep.expr r
    by_cases e2 : o = 2 ∨ o = 16
    · obtain rfl := hA (by omega)
      rw [if_pos e2]
      exact (hw.app (Deep.bare (l := [32]) (by decide))).app he
    rw [if_neg e2]
    by_cases e3 : o = 3
    · obtain rfl := hA (by omega)
      rw [if_pos e3]
      exact (((Deep.bare (l := [107, 101, 121, 32]) (by decide)).app (Deep.bare hn)).app (Deep.bare (l := [32]) (by decide))).app he
    rw [if_neg e3]
    by_cases e4 : o = 4
    · obtain rfl := hA (by omega)
      rw [if_pos e4]
      exact (((((Deep.bare (l := [99, 111, 110, 115, 116, 32]) (by decide)).app he).app (Deep.bare (l := [32]) (by decide))).app (Deep.quote t)).app (Deep.bare (l := [32]) (by decide))).app (Deep.quote k)
    rw [if_neg e4]
    by_cases e5 : o = 5
    · obtain rfl := hA (by omega)
      rw [if_pos e5]
      exact (((Deep.bare (l := [100, 101, 108, 32]) (by decide)).app he).app (Deep.bare (l := [32]) (by decide))).app (Deep.quote k)
    rw [if_neg e5]
    by_cases e6 : o = 17
    · obtain rfl := hA (by omega)
      rw [if_pos e6]
      exact (((Deep.bare (l := [110, 111, 114, 109, 32]) (by decide)).app he).app (Deep.bare (l := [32]) (by decide))).app (Deep.quote t)
    rw [if_neg e6]
    by_cases e7 : o = 6
    · obtain rfl := h6 e7
      rw [if_pos e7]
      exact (Deep.bare (l := [105, 110, 115, 32]) (by decide)).app (Deep.quote t)
    rw [if_neg e7]
    by_cases e8 : o = 7
    · obtain ⟨x, y, rfl⟩ := hP (by omega)
      subst e8
      rw [if_pos rfl]
      exact deep_pair 7 0 (by decide) (by decide) _ (by decide) x y (ih x (by simp)) (ih y (by simp))
    rw [if_neg e8]
    by_cases e9 : o = 8
    · obtain ⟨x, y, rfl⟩ := hP (by omega)
      subst e9
      rw [if_pos rfl]
      exact deep_pair 8 1 (by decide) (by decide) _ (by decide) x y (ih x (by simp)) (ih y (by simp))
    rw [if_neg e9]
    by_cases e10 : o = 11
    · obtain ⟨x, y, rfl⟩ := hP (by omega)
      subst e10
      rw [if_pos rfl]
      exact deep_pair 11 2 (by decide) (by decide) _ (by decide) x y (ih x (by simp)) (ih y (by simp))
    rw [if_neg e10]
    by_cases e11 : o = 9
    · obtain ⟨x, rfl⟩ := hS (by omega)
      subst e11
      rw [if_pos rfl, star]
      refine (((ih x (by simp)).wrap (lvl x.op < 3)).app (Deep.bare (l := [42]) (by decide))).cast ?_
      have hb : wrapB 9 0 x.op = decide (lvl x.op < 3) := rfl
      simp only [nestG, hb, decide_eq_true_eq]; omega
    rw [if_neg e11]
    have hW : ∀ i ko, wrapB o i ko = true := fun i ko => by
      unfold wrapB; rw [if_neg (by omega), if_neg (by omega)]; simp; omega
    by_cases e12 : o = 12 ∨ o = 13
    · obtain ⟨x, rfl⟩ := hS (by omega)
      have e : word o ++ [40] ++ Lib.join (strs [x]) [44, 32] ++ [41] = word o ++ ([40] ++ str x ++ [41]) := by
        simp [strs, Lib.join_cons, Lib.joinTail]
      rw [e]
      refine (hw.app (ih x (by simp)).paren).cast ?_
      simp only [nestG, hW, if_true] <;> omega
    · obtain ⟨x, y, rfl⟩ := hP (by omega)
      have e : word o ++ [40] ++ Lib.join (strs [x, y]) [44, 32] ++ [41] = word o ++ ([40] ++ (str x ++ [44, 32] ++ str y) ++ [41]) := by
        simp [strs, Lib.join_cons, Lib.joinTail]
      rw [e]
      refine (hw.app (((ih x (by simp)).app (Deep.bare (l := [44, 32]) (by decide))).app (ih y (by simp))).paren).cast ?_
      simp only [nestG, hW, if_true] <;> omega
theorem nm_mkTop (o : Nat) (w n : Int) (l : List TA) : Bare (PL.mkTop o w n l).name ∧ ((PL.mkTop o w n l).op = 6 → (PL.mkTop o w n l).kids = []) := by
  unfold PL.mkTop TA.name TA.op TA.kids
  simp only
  constructor
  · split
    · unfold nameN; split <;> decide
    · intro c hc; simp at hc
  · intro h; rw [if_neg (by omega), if_neg (by omega)]
theorem nm_of {t : TA} (h : Bare t.name ∧ (t.op = 6 → t.kids = [])) (hk : ∀ k ∈ t.kids, nm k) : nm t := by
  cases t with
  | node b o a n r t k ks => exact ⟨h, (nms_iff _).2 hk⟩
theorem nm_cA : nm PL.cA := ⟨⟨by decide, fun h => absurd h (by decide)⟩, trivial⟩
mutual
theorem nm_mk : (p : PL) → nm p.mk
  | .node o w n ks => by
    rw [PL.mk]
    exact nm_of (nm_mkTop _ _ _ _) (PL.all_mkTop nm_cA (nm_mks ks) _ _ _)
theorem nm_mks : (l : List PL) → ∀ t ∈ PL.mks l, nm t
  | [] => fun t h => absurd h (by simp [PL.mks])
  | k :: l => fun t h => by
    rcases List.mem_cons.1 (by rw [PL.mks] at h; exact h) with rfl | h
    · exact nm_mk k
    · exact nm_mks l t h
end
/-- LensNests, plain -/
theorem nests {p : PL} {t : TA} (h : t.zero = p.mk) : scan t.str false 0 0 0 = (t.nest : Int) := by
  rw [← str_zero t, ← nest_zero t, h]
  have h1 := deep_str p.mk (PL.made_mk p).1 (nm_mk p) [] 0 0 (by omega)
  rw [List.append_nil] at h1
  rw [h1]
  show max (0 : Int) (0 + (p.mk.nest : Int)) = _
  omega
end TA
end Go.Proofs.YtpajpjocakhcdaaGreatDoor
