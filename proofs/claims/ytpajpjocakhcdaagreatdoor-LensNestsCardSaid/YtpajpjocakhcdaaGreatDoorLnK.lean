/-
  Terms made of plans, walked through the program: each part in memory of its own.
-/
import Derived.Test.YtpajpjocakhcdaaGreatDoorLnM
import Derived.Test.YtpajpjocakhcdaaGreatDoorLnA
set_option linter.unusedSimpArgs false
set_option linter.unusedVariables false
set_option maxRecDepth 100000
set_option linter.unnecessarySimpa false
namespace Go.Proofs.YtpajpjocakhcdaaGreatDoor
open Go.RowKit
namespace TA
mutual
def zero : TA → TA | node _ o a n r t k ks => node 0 o a n r t k (zeros ks)
def zeros : List TA → List TA | [] => [] | k :: ks => zero k :: zeros ks
end
mutual
/-- the blocks of a term's nodes, each ahead of its parts' -/
def blocks : TA → List Nat | node b _ _ _ _ _ _ ks => b :: blockss ks
def blockss : List TA → List Nat | [] => [] | k :: ks => blocks k ++ blockss ks
end
theorem blocks_eq (t : TA) : t.blocks = t.b :: blockss t.kids := by cases t; rfl
theorem mem_blockss {l : List TA} {k : TA} (h : k ∈ l) : ∀ c ∈ k.blocks, c ∈ blockss l := by
  induction l with
  | nil => simp at h
  | cons a l ih =>
    intro c hc
    rcases List.mem_cons.1 h with rfl | h
    · simp [blockss, hc]
    · simp [blockss, ih h c hc]
end TA
mutual
/-- what is written into the block of another term leaves a term as it is -/
theorem IsTa.putT {w w' : World} {c : Nat} {cs : Array Value} {fr : Nat × Nat} (hc : w.heap[c]? = some (.cells cs 41 fr)) (hw : ∀ k, k < w.heap.size → k ≠ c → w'.heap[k]? = w.heap[k]?) : (t : TA) → c ∉ t.blocks → IsTa w t → IsTa w' t
  | .node b o a n r t k ks, hn, h => by
    obtain ⟨⟨rv, kp, cap, g1, g2, g3⟩, g4⟩ := h
    simp only [TA.blocks, List.mem_cons, not_or] at hn
    refine ⟨⟨rv, kp, cap, (hw _ (Array.getElem?_eq_some_iff.1 g1).1 fun e => hn.1 e.symm).trans g1, g2.put hc (by decide) (by decide) hw, g3.keep fun kb _ _ _ _ hr => hw kb (Array.getElem?_eq_some_iff.1 hr).1 fun e => ?_⟩, IsTas.putT hc hw ks hn.2 g4⟩
    rw [e, hc] at hr
    have := Option.some.inj hr
    injection this with _ e2 _
    exact absurd e2 (by decide)
theorem IsTas.putT {w w' : World} {c : Nat} {cs : Array Value} {fr : Nat × Nat} (hc : w.heap[c]? = some (.cells cs 41 fr)) (hw : ∀ k, k < w.heap.size → k ≠ c → w'.heap[k]? = w.heap[k]?) : (l : List TA) → c ∉ TA.blockss l → IsTas w l → IsTas w' l
  | [], _, _ => trivial
  | k :: l, hn, h => by
    simp only [TA.blockss, List.mem_append, not_or] at hn
    exact ⟨IsTa.putT hc hw k hn.1 h.1, IsTas.putT hc hw l hn.2 h.2⟩
end
namespace PL
mutual
def sz : PL → Nat | node _ _ _ ks => 1 + szs ks
def szs : List PL → Nat | [] => 0 | k :: ks => sz k + szs ks
end
theorem mem_szs {l : List PL} {k : PL} (h : k ∈ l) : k.sz ≤ szs l := by
  induction l with
  | nil => simp at h
  | cons a l ih =>
    rcases List.mem_cons.1 h with rfl | h
    · simp [szs]
    · have := ih h; simp [szs]; omega
theorem sz_eq (p : PL) : p.sz = 1 + szs p.kids := by cases p; rfl
end PL
/-- what is left of a number, of two -/
def bit1 (n : Int) : Nat := if bits .and .i64 n 1 = 0 then 0 else 1
theorem bit1_eq (n : Int) : bits .and .i64 n 1 = (bit1 n : Nat) := by
  have h : (BitVec.ofInt 64 n &&& BitVec.ofInt 64 1).toNat ≤ 1 := by
    rw [BitVec.toNat_and]
    exact Nat.le_trans Nat.and_le_right (by decide)
  have h2 : ∃ m : Nat, bits .and .i64 n 1 = (m : Int) ∧ m ≤ 1 := by
    refine ⟨_, ?_, h⟩
    show IntKind.i64.wrap ((BitVec.ofInt 64 n &&& BitVec.ofInt 64 1).toNat : Int) = _
    generalize (BitVec.ofInt 64 n &&& BitVec.ofInt 64 1).toNat = m at h
    rw [IntKind.wrap_i64]; omega
  obtain ⟨m, h3, h4⟩ := h2
  unfold bit1
  rw [h3]
  split <;> omega
theorem bit1_lt (n : Int) : bit1 n = 0 ∨ bit1 n = 1 := by unfold bit1; split <;> simp
def nameN (n : Int) : List UInt8 := if bit1 n = 0 then [107] else [99, 111, 108, 111, 114]
namespace PL
/-- a copy of the one letter -/
def cA : TA := TA.node 0 2 0 [] (some RE.exA) [] [] []
def mkTop (o : Nat) (w n : Int) (l : List TA) : TA :=
  TA.node 0 o 0 (if o = 3 then nameN n else []) (if o = 2 ∨ o = 16 ∨ o = 3 ∨ o = 4 ∨ o = 5 ∨ o = 17 then some (RE.exprN (uMod w 9)) else Option.none)
    (if o = 4 ∨ o = 6 ∨ o = 17 then textN n else []) (if o = 4 then textN (wrap64 (n.tdiv 7)) else if o = 5 then textN n else [])
    (if o = 7 ∨ o = 8 ∨ o = 11 ∨ o = 10 ∨ o = 14 ∨ o = 15 then [l.getD 0 cA, l.getD 1 cA] else if o = 9 ∨ o = 12 ∨ o = 13 then [l.getD 0 cA] else [])
mutual
def mk : PL → TA | node o w n ks => mkTop (2 + uMod o 16) w n (mks ks)
def mks : List PL → List TA | [] => [] | k :: ks => mk k :: mks ks
end
theorem mks_map (l : List PL) : mks l = l.map mk := by induction l with | nil => rfl | cons a l ih => simp [mks, ih]
theorem mk_eq (p : PL) : p.mk = mkTop p.opN p.w p.n (p.kids.map mk) := by cases p; rw [mk, mks_map]; rfl
def kidP (p : PL) (i : Nat) : TA := (p.kids.map mk).getD i cA
end PL
/-- a term, made -/
def TmPost (w : World) (m : TA) (e : Ending) (w' : World) : Prop := ∃ t : TA, e = .returned (ptr t.b) ∧ IsTa w' t ∧ t.zero = m ∧ Below w.heap.size w w' ∧ (∀ c ∈ t.blocks, w.heap.size ≤ c ∧ c < w'.heap.size) ∧ t.blocks.Nodup
theorem IsTa.blocks_lt {w : World} : (t : TA) → IsTa w t → ∀ c ∈ t.blocks, c < w.heap.size := by
  intro t ht c hc
  have key : ∀ (n : Nat) (t : TA), t.size ≤ n → IsTa w t → ∀ c ∈ t.blocks, c < w.heap.size := by
    intro n
    induction n with
    | zero => intro t hn; have := t.size_eq; omega
    | succ n ih =>
      intro t hn ht c hc
      rw [t.blocks_eq] at hc
      rcases List.mem_cons.1 hc with rfl | hc
      · exact ht.lt
      · have : ∀ l : List TA, (∀ k ∈ l, k.size ≤ n ∧ IsTa w k) → ∀ c ∈ TA.blockss l, c < w.heap.size := by
          intro l
          induction l with
          | nil => intro _ c hc; simp [TA.blockss] at hc
          | cons a l ih2 =>
            intro h c hc
            simp only [TA.blockss, List.mem_append] at hc
            rcases hc with hc | hc
            · exact ih a (h a (by simp)).1 (h a (by simp)).2 c hc
            · exact ih2 (fun k hk => h k (by simp [hk])) c hc
        exact this t.kids (fun k hk => ⟨by have := TA.mem_sizes hk; have := t.size_eq; omega, ht.open.2 k hk⟩) c hc
  exact key t.size t (Nat.le_refl _) ht c hc
set_option maxRecDepth 100000 in
set_option maxHeartbeats 2000000 in
theorem kid_any (p : PL) (sv : Value) (i : Nat) (hi : i < 2) (w : World) (hp : IsPl w sv p.kids) (hM : ∀ k ∈ p.kids, ∀ W sv', IsPl W sv' k.kids → Calls Tryz.prog 15 #[plV k sv'] W (TmPost W k.mk)) :
    Calls Tryz.prog 52 #[plV p sv, .int .i64 i] w (TmPost w (p.kidP i)) := by
  obtain ⟨a, cap, B, off, kv, rfl, ha, hml, hks⟩ := hp.open
  unfold maxLen at hml
  have hbox := re_alloc w (.cells #[.int .i64 p.op, .int .i64 p.w, .int .i64 p.n, .slice a p.kids.length cap] 24)
  by_cases hlt : i < p.kids.length
  · have hne : p.kids ≠ [] := fun e => by rw [e] at hlt; simp at hlt
    obtain rfl := ha hne
    have hmem : p.kids.getD i PL.none ∈ p.kids := by simp [List.getD, hlt]
    obtain ⟨c0, c1, c2, c3, hkp⟩ := hks i hlt
    have hbk := World.block_lt_of_cell? w _ c0
    have HE : Hid (p.kidP i = (p.kids.getD i PL.none).mk) := by show _ = _; simp [PL.kidP, List.getD, hlt]
    have HC := Lib.hid (hM _ hmem)
    have HKP := Lib.hid hkp
    have hlt' : (i : Int) < (p.kids.length : Int) := by omega
    have hbk0 := hbk
    rw [← hbox.cell (p := ⟨B, off + i * 4, none⟩) hbk] at c0
    rw [← hbox.cell (p := ⟨B, off + i * 4 + 1, none⟩) hbk] at c1
    rw [← hbox.cell (p := ⟨B, off + i * 4 + 2, none⟩) hbk] at c2
    rw [← hbox.cell (p := ⟨B, off + i * 4 + 3, none⟩) hbk] at c3
    generalize p.kidP i = out at *
    generalize p.kids.getD i PL.none = q at *
    generalize kv i = qv at *
    generalize p.kids.length = len at *
    clear hks hp hM ha hmem hne
    have HBX := Lib.hid hbox
    clear hbox
    go_enter Tryz.func52, Tryz.ntmps52
    go_wp2_with fail
    refine (HC.out _ _ (HKP.out.later HBX.out)).mono ?_
    rintro e w1 ⟨t, rfl, ht, hz, hb, hbl, hnd⟩
    go_wp2_with fail
    go_ret
    exact ⟨t, rfl, ht, hz.trans HE.out.symm, HBX.out.trans (hb.mono (by simp)), fun c hc => ⟨by have := (hbl c hc).1; simp at this; omega, (hbl c hc).2⟩, hnd⟩
  · have HE : Hid (p.kidP i = PL.cA) := by
      show _ = _
      simp [PL.kidP, List.getD, List.getElem?_eq_none (show (p.kids.map PL.mk).length ≤ i by simp; omega)]
    have hlt' : ¬ (i : Int) < (p.kids.length : Int) := by omega
    generalize p.kidP i = out at *
    generalize p.kids.length = len at *
    clear hks hp hM ha
    have HBX := Lib.hid hbox
    clear hbox
    go_enter Tryz.func52, Tryz.ntmps52
    go_wp2_with fail
    refine (Word_any [97] (by simp) _).mono ?_
    rintro e w1 ⟨rb, rfl, hA, hb⟩
    have hB := HBX.out.trans (hb.mono (by simp))
    have HB := Lib.hid hB
    have HA : Hid (IsRe w1 rb RE.exA) := hA
    clear hA hb hB
    go_wp2_with fail
    go_ret
    have hx := re_alloc w1 (.cells (tmCells 2 0 [] (ptr rb) [] [] (.slice none 0 0)) 41)
    refine ⟨TA.node w1.heap.size 2 0 [] (some RE.exA) [] [] [], rfl, ⟨⟨ptr rb, none, 0, heap_alloc_last _ _, ⟨rb, rfl, HA.out.later (Nat.le_refl _) hx⟩, .inl rfl⟩, trivial⟩, HE.out.symm ▸ rfl, ext_step HB.out hx, fun c hc => ?_, by simp [TA.blocks, TA.blockss]⟩
    simp only [TA.blocks, TA.blockss, List.mem_cons, List.not_mem_nil, or_false] at hc
    subst hc
    exact ⟨HB.out.size, by simp⟩
end Go.Proofs.YtpajpjocakhcdaaGreatDoor
