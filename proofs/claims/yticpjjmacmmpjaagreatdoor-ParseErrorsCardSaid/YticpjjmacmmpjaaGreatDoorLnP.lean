/-
  Terms as plans: how many parts a plan has, walked through the program.
-/
import Derived.Test.YticpjjmacmmpjaaGreatDoorRows
import Derived.Deep.Slices
import Derived.Deep.Fields
import Derived.ChangeSame
import Derived.ChangeArms
import Derived.DataReads
import Derived.WalkKit
import Derived.Below
import Derived.Test.YticpjjmacmmpjaaGreatDoorReM
import Derived.Test.YticpjjmacmmpjaaGreatDoorReMade
set_option linter.unusedSimpArgs false
set_option linter.unusedVariables false
set_option maxRecDepth 100000
set_option linter.unnecessarySimpa false
namespace Go.Proofs.YticpjjmacmmpjaaGreatDoor
open Go.ChangeShapes Go.WideShapes Go.RowKit Go.Deep
inductive Rose where
  | node (f : List Value) (kids : List Rose)
namespace Rose
def f : Rose → List Value | node f _ => f
def kids : Rose → List Rose | node _ k => k
mutual
/-- of each node its fields are as they must be -/
def okR (F : List Value → Prop) : Rose → Prop | node f ks => F f ∧ okRs F ks
def okRs (F : List Value → Prop) : List Rose → Prop | [] => True | k :: ks => okR F k ∧ okRs F ks
end
theorem okRs_iff (F : List Value → Prop) (l : List Rose) : okRs F l ↔ ∀ r ∈ l, okR F r := by
  induction l with
  | nil => simp [okRs]
  | cons a l ih => simp [okRs, ih]
def none : Rose := node [] []
end Rose
/-- a slice of nodes of k fields and a slice of nodes each -/
inductive IsRose (w : World) (k : Nat) : Value → List Rose → Prop
  | mk (a : Option Addr) (cap : Nat) (ks : List Rose) (B off : Nat) (sv : Nat → Value) (ha : ks ≠ [] → a = some ⟨B, off, none⟩) (hlen : ks.length ≤ maxLen)
      (hl : ∀ i, i < ks.length → (ks.getD i Rose.none).f.length = k) (hf : ∀ i, i < ks.length → ∀ j, j < k → w.cell? ⟨B, off + i * (k + 1) + j, none⟩ = (ks.getD i Rose.none).f[j]?)
      (hs : ∀ i, i < ks.length → w.cell? ⟨B, off + i * (k + 1) + k, none⟩ = some (sv i)) (hk : ∀ i, i < ks.length → IsRose w k (sv i) (ks.getD i Rose.none).kids) : IsRose w k (.slice a ks.length cap) ks
theorem IsRose.later {w w' : World} {k : Nat} {v : Value} {ks : List Rose} (h : IsRose w k v ks) (hb : Below w.heap.size w w') : IsRose w' k v ks := by
  induction h with
  | mk a cap ks B off sv ha hlen hl hf hs hk ih =>
    refine .mk a cap ks B off sv ha hlen hl (fun i hi j hj => ?_) (fun i hi => ?_) ih
    · have h1 := hf i hi j hj
      have hj' : j < (ks.getD i Rose.none).f.length := by rw [hl i hi]; exact hj
      rw [List.getElem?_eq_getElem hj'] at h1
      rw [hb.cell (p := ⟨B, off + i * (k + 1) + j, none⟩) (World.block_lt_of_cell? w _ h1), hf i hi j hj]
    · rw [hb.cell (p := ⟨B, off + i * (k + 1) + k, none⟩) (World.block_lt_of_cell? w _ (hs i hi))]; exact hs i hi
theorem open_rose {H : Type} {enc : TypeId × Value → H} {P : Program} {w : World} {base : Nat} {spare : Nat → Bool} {held : Bool} {k : Nat} {st sl : TypeId} {fs : Array Field} (hsl : P.underlying sl = some (.slice st)) (hst : P.underlying st = some (.struct fs)) (hone : oneCellFields P fs = true)
   (hC : P.cellsOf st = k + 1) (hfs : fs.size = k + 1) (F : List Value → Prop) (hlast : ∃ f : Field, fs[k]? = some f ∧ f.type = sl)
   (hF : ∀ (n : Nat) (cs : List Value), cs.length = k → (∀ (j : Nat) (f : Field), j < k → fs[j]? = some f → ∃ y, DataW.trod enc P w base spare held n f.type [cs.getD j undef] = some y) → F cs) :
    ∀ (fuel : Nat) (v : Value) (x : DataW H × List MemPlace), DataW.trod enc P w base spare held fuel sl [v] = some x → ∃ ks, IsRose w k v ks ∧ ∀ r ∈ ks, Rose.okR F r := by
  intro fuel
  induction fuel using Nat.strongRecOn with
  | ind fuel ih =>
    intro v x h
    rcases DataW.trod_slice hsl h with ⟨hcs, _⟩ | ⟨a, len, cap, elems, rest, n, hn, hcs, _, hb, hl, hm, hlen, hel, _, _⟩
    · have hv : v = .slice none 0 0 := by simpa using hcs
      subst hv
      exact ⟨[], .mk none 0 [] 0 0 (fun _ => undef) (fun h => absurd rfl h) (Nat.zero_le _) (fun i hi => absurd hi (by simp)) (fun i hi => absurd hi (by simp)) (fun i hi => absurd hi (by simp)) (fun i hi => absurd hi (by simp)), by simp⟩
    · have hv : v = .slice (some a) len cap := by simpa using hcs
      subst hv
      obtain ⟨fl, hfl, hflt⟩ := hlast
      have key : ∀ i, i < len → ∃ q : List Value × Value × List Rose, q.1.length = k ∧ (∀ j, j < k → w.cell? ((a.add (i * (k + 1))).add j) = q.1[j]?) ∧ w.cell? ((a.add (i * (k + 1))).add k) = some q.2.1 ∧ F q.1 ∧ IsRose w k q.2.1 q.2.2 ∧ ∀ r ∈ q.2.2, Rose.okR F r := fun i hi => by
        have h1 := hel i hi
        rw [hC, List.getElem?_eq_getElem (by omega)] at h1
        obtain ⟨cs, hc1, hc2⟩ := Option.bind_eq_some_iff.1 h1
        obtain ⟨_, hcl, hcat⟩ := World.cells?_some hc1
        obtain ⟨ys, n', hn', _, _, hyl, hg⟩ := DataW.trod_struct hst hc2
        have hfield : ∀ (j : Nat) (f : Field), fs[j]? = some f → ∃ y, DataW.trod enc P w base spare held n' f.type [cs.getD j undef] = some y := fun j f hj => by
          have hjl : j < fs.size := (Array.getElem?_eq_some_iff.1 hj).1
          obtain ⟨ho, hk1⟩ := hone_of hone j f hj
          have h2 := hg j f hj
          rw [ho, hk1] at h2
          have hone' : (cs.drop j).take 1 = [cs.getD j undef] := by
            have hjc : j < cs.length := by omega
            have e : cs.drop j = cs[j] :: cs.drop (j + 1) := List.drop_eq_getElem_cons hjc
            rw [e]
            show [cs[j]] = [cs.getD j undef]
            simp [List.getD, hjc]
          rw [hone'] at h2
          exact ⟨_, h2.trans (List.getElem?_eq_getElem (by omega))⟩
        obtain ⟨yk, hyk⟩ := hfield k fl hfl
        rw [hflt] at hyk
        obtain ⟨ks', hk1, hk2⟩ := ih n' (by omega) _ _ hyk
        have hkl : k < cs.length := by omega
        refine ⟨(cs.take k, cs.getD k undef, ks'), by simp; omega, fun j hj => ?_, ?_, ?_, hk1, hk2⟩
        · rw [hcat j (by omega)]; simp [List.getElem?_take, hj]
        · rw [hcat k (by omega)]; simp [List.getD, hkl]
        · refine hF n' (cs.take k) (by simp; omega) fun j f hj hfj => ?_
          obtain ⟨y, hy⟩ := hfield j f hfj
          refine ⟨y, ?_⟩
          have : (cs.take k).getD j undef = cs.getD j undef := by
            have : j < cs.length := by omega
            simp [List.getD, List.getElem?_take, hj]
          rw [this]; exact hy
      haveI : Inhabited (List Value × Value × List Rose) := ⟨([], undef, [])⟩
      obtain ⟨q, hq⟩ := choose_lt key
      obtain ⟨B, off, spot⟩ := a
      have hspot : 0 < len → spot = none := fun h0 => by
        obtain ⟨hl0, h1, h2, _⟩ := hq 0 h0
        have e0 : (⟨B, off, spot⟩ : Addr).add 0 = ⟨B, off, spot⟩ := rfl
        rcases Nat.eq_zero_or_pos k with hk | hk
        · subst hk
          rw [Nat.zero_mul, e0, e0] at h2
          exact World.cell?_spot h2
        · have h3 := h1 0 hk
          rw [Nat.zero_mul, e0, e0, List.getElem?_eq_getElem (by omega)] at h3
          exact World.cell?_spot h3
      have hadd : ∀ i, i < len → ∀ r, ((⟨B, off, spot⟩ : Addr).add (i * (k + 1)) |>.add r) = ⟨B, off + i * (k + 1) + r, none⟩ := fun i hi r => by
        have hs := hspot (by omega)
        subst hs
        have h1 : ∀ o n, (⟨B, o, none⟩ : Addr).add n = ⟨B, o + n, none⟩ := fun o n => by unfold Addr.add; split <;> simp_all
        rw [h1, h1]
      have hgd : ∀ i, i < len → ((List.range len).map fun i => Rose.node (q i).1 (q i).2.2).getD i Rose.none = Rose.node (q i).1 (q i).2.2 := fun i hi => by simp [hi]
      refine ⟨(List.range len).map fun i => Rose.node (q i).1 (q i).2.2, ?_, ?_⟩
      · have hml : ((List.range len).map fun i => Rose.node (q i).1 (q i).2.2).length = len := by simp
        have := IsRose.mk (w := w) (k := k) (some ⟨B, off, spot⟩) cap ((List.range len).map fun i => Rose.node (q i).1 (q i).2.2) B off (fun i => (q i).2.1) (fun hne => by
          have : 0 < len := by
            rcases Nat.eq_zero_or_pos len with h0 | h0
            · subst h0; exact absurd rfl hne
            · exact h0
          rw [hspot this]) (by rw [hml]; omega) (fun i hi => by rw [hml] at hi; rw [hgd i hi]; exact (hq i hi).1) (fun i hi j hj => by
            rw [hml] at hi
            rw [hgd i hi, ← hadd i hi j]; exact (hq i hi).2.1 j hj) (fun i hi => by
            rw [hml] at hi
            rw [← hadd i hi k]; exact (hq i hi).2.2.1) (fun i hi => by
            rw [hml] at hi
            rw [hgd i hi]; exact (hq i hi).2.2.2.2.1)
        rw [hml] at this
        exact this
      · intro r hr
        obtain ⟨i, hi, rfl⟩ := List.mem_map.1 hr
        have hi' : i < len := by simpa using hi
        exact ⟨(hq i hi').2.2.2.1, (Rose.okRs_iff F _).2 (hq i hi').2.2.2.2.2⟩
end Go.Proofs.YticpjjmacmmpjaaGreatDoor
namespace Go.Proofs.YticpjjmacmmpjaaGreatDoor
open Go.RowKit
inductive PL where
  | node (op w n : Int) (kids : List PL)
namespace PL
def op : PL → Int | node o _ _ _ => o
def w : PL → Int | node _ x _ _ => x
def n : PL → Int | node _ _ x _ => x
def kids : PL → List PL | node _ _ _ k => k
def none : PL := node 0 0 0 []
mutual
def rose : PL → Rose | node o w n ks => Rose.node [.int .i64 o, .int .i64 w, .int .i64 n] (roses ks)
def roses : List PL → List Rose | [] => [] | k :: ks => rose k :: roses ks
end
theorem roses_map (l : List PL) : roses l = l.map rose := by induction l with | nil => rfl | cons a l ih => simp [roses, ih]
mutual
def ok : PL → Prop | node o w n ks => ((Lit.int .i64 o).wf = true ∧ (Lit.int .i64 w).wf = true ∧ (Lit.int .i64 n).wf = true) ∧ oks ks
def oks : List PL → Prop | [] => True | k :: ks => ok k ∧ oks ks
end
theorem oks_iff (l : List PL) : oks l ↔ ∀ r ∈ l, ok r := by
  induction l with
  | nil => simp [oks]
  | cons a l ih => simp [oks, ih]
/-- three whole numbers -/
def flds (f : List Value) : Prop := ∃ o w n : Int, f = [.int .i64 o, .int .i64 w, .int .i64 n] ∧ (Lit.int .i64 o).wf = true ∧ (Lit.int .i64 w).wf = true ∧ (Lit.int .i64 n).wf = true
mutual
theorem of_rose : (r : Rose) → Rose.okR flds r → ∃ p : PL, rose p = r ∧ ok p
  | Rose.node f ks, h => by
    obtain ⟨⟨o, w, n, rfl, h1⟩, h2⟩ := h
    obtain ⟨l, rfl, h3⟩ := of_roses ks h2
    exact ⟨node o w n l, rfl, h1, h3⟩
theorem of_roses : (l : List Rose) → Rose.okRs flds l → ∃ p : List PL, roses p = l ∧ oks p
  | [], _ => ⟨[], rfl, trivial⟩
  | r :: l, h => by
    obtain ⟨p, rfl, h1⟩ := of_rose r h.1
    obtain ⟨ps, rfl, h2⟩ := of_roses l h.2
    exact ⟨p :: ps, rfl, h1, h2⟩
end
mutual
/-- how many parts; those too deep count as many -/
def cnt (deep : Nat) : PL → Nat | node _ _ _ ks => if 10 < deep then 1000 else cntL deep ks 1
def cntL (deep : Nat) : List PL → Nat → Nat
  | [], n => n
  | k :: ks, n => if 1000 < n + cnt (deep + 1) k then n + cnt (deep + 1) k else cntL deep ks (n + cnt (deep + 1) k)
end
theorem cnt_deep {deep : Nat} (h : 10 < deep) (p : PL) : cnt deep p = 1000 := by cases p; rw [cnt, if_pos h]
theorem cntL_le {deep b : Nat} (hb : ∀ p, cnt (deep + 1) p ≤ b) : ∀ (l : List PL) (n : Nat), n ≤ 1000 → cntL deep l n ≤ 1000 + b
  | [], n, h => by rw [cntL]; omega
  | k :: l, n, h => by
    have := hb k
    rw [cntL]
    split
    · omega
    · exact cntL_le hb l _ (by omega)
theorem cnt_le : ∀ (d deep : Nat), deep + d = 11 → ∀ p, cnt deep p ≤ 1000 * (d + 1)
  | 0, deep, h, p => by rw [cnt_deep (by omega)]; omega
  | d + 1, deep, h, p => by
    cases p with
    | node o w n ks =>
      rw [cnt, if_neg (by omega)]
      have := cntL_le (fun p => cnt_le d (deep + 1) (by omega) p) ks 1 (by omega)
      omega
end PL
/-- a slice of plans -/
def IsPl (w : World) (v : Value) (ks : List PL) : Prop := IsRose w 3 v (PL.roses ks)
theorem IsPl.later {w w' : World} {v : Value} {ks : List PL} (h : IsPl w v ks) (hb : Below w.heap.size w w') : IsPl w' v ks := IsRose.later h hb
theorem IsPl.open {w : World} {v : Value} {ks : List PL} (h : IsPl w v ks) : ∃ (a : Option Addr) (cap B off : Nat) (sv : Nat → Value), v = .slice a ks.length cap ∧ (ks ≠ [] → a = some ⟨B, off, none⟩) ∧ ks.length ≤ maxLen ∧
    ∀ i, i < ks.length → w.cell? ⟨B, off + i * 4, none⟩ = some (.int .i64 (ks.getD i PL.none).op) ∧ w.cell? ⟨B, off + i * 4 + 1, none⟩ = some (.int .i64 (ks.getD i PL.none).w) ∧ w.cell? ⟨B, off + i * 4 + 2, none⟩ = some (.int .i64 (ks.getD i PL.none).n) ∧
      w.cell? ⟨B, off + i * 4 + 3, none⟩ = some (sv i) ∧ IsPl w (sv i) (ks.getD i PL.none).kids := by
  unfold IsPl at h
  generalize hq : PL.roses ks = q at h
  cases h with
  | mk a cap ks' B off sv ha hlen hl hf hs hk =>
    subst hq
    have hln : (PL.roses ks).length = ks.length := by simp [PL.roses_map]
    have hgd : ∀ i, i < ks.length → (PL.roses ks).getD i Rose.none = PL.rose (ks.getD i PL.none) := fun i hi => by simp [PL.roses_map, List.getD, hi]
    refine ⟨a, cap, B, off, sv, by rw [hln], fun hne => ha (fun e => hne (List.length_eq_zero_iff.1 (by rw [← hln, e]; rfl))), by omega, fun i hi => ?_⟩
    have h0 := hf i (by omega) 0 (by omega); have h1 := hf i (by omega) 1 (by omega); have h2 := hf i (by omega) 2 (by omega)
    have h3 := hs i (by omega); have h4 := hk i (by omega)
    rw [hgd i hi] at h0 h1 h2 h4
    generalize ks.getD i PL.none = p at *
    cases p with
    | node o x n l => exact ⟨h0, h1, h2, h3, h4⟩
abbrev plV (p : PL) (sv : Value) : Value := .agg #[.int .i64 p.op, .int .i64 p.w, .int .i64 p.n, sv]
def CntAt (w : World) (deep : Nat) (ks : List PL) (N : Nat) (v i : Value) (wr : World) : Prop := ∃ k s : Nat, k ≤ ks.length ∧ i = .int .i64 k ∧ v = .int .i64 s ∧ s ≤ 1000 ∧ PL.cntL deep (ks.drop k) s = N ∧ Below w.heap.size w wr
set_option maxRecDepth 100000 in
set_option maxHeartbeats 4000000 in
theorem Count_any : ∀ (d deep : Nat), deep + d = 11 → ∀ (p : PL) (sv : Value) (w : World), IsPl w sv p.kids →
    Calls Tryz.prog 63 #[plV p sv, .int .i64 deep] w fun e w' => e = .returned (.int .i64 (PL.cnt deep p : Nat)) ∧ Below w.heap.size w w'
  | 0, deep, hd, p, sv, w, hp => by
    have HC := Lib.hid (PL.cnt_deep (deep := deep) (by omega) p)
    have hd' : (10 : Int) < (deep : Int) := by omega
    have hB := ext_alloc (Below.refl w.heap.size w) (.cells #[.int .i64 p.op, .int .i64 p.w, .int .i64 p.n, sv] 55)
    clear hp
    go_enter Tryz.func63, Tryz.ntmps63
    go_wp2_with fail
    go_ret
    exact ⟨by rw [HC.out]; rfl, hB⟩
  | d + 1, deep, hd, p, sv, w, hp => by
    have hd' : ¬ (10 : Int) < (deep : Int) := by omega
    have HC : Hid (PL.cnt deep p = PL.cntL deep p.kids 1) := by show _ = _; cases p; rw [PL.cnt, if_neg (by omega)]; rfl
    have HIH := Lib.hid (Count_any d (deep + 1) (by omega))
    have HLE := Lib.hid (PL.cnt_le d (deep + 1) (by omega))
    obtain ⟨a, cap, B, off, kv, rfl, ha, hml, hks⟩ := hp.open
    unfold maxLen at hml
    have HA := Lib.hid ha
    have HKS := Lib.hid hks
    generalize PL.cnt deep p = N at *
    have hB := ext_alloc (Below.refl w.heap.size w) (.cells #[.int .i64 p.op, .int .i64 p.w, .int .i64 p.n, .slice a p.kids.length cap] 55)
    clear ha hks hp
    generalize p.kids = ks at *
    go_enter Tryz.func63, Tryz.ntmps63
    go_wp2_with fail
    go_loopw [5, 13] (fun v i wr => CntAt w deep ks N v i wr) (fun _ i _ => ks.length - (intOf i).toNat)
    case atStart => exact ⟨0, 1, by omega, rfl, rfl, by omega, HC.out.symm, hB⟩
    case round =>
      obtain ⟨k, s, hk, rfl, rfl, hs1, hgo, hW⟩ := hrel
      by_cases hlt : k < ks.length
      · have hne : ks ≠ [] := fun e => by rw [e] at hlt; simp at hlt
        have ha := HA.out hne
        subst ha
        obtain ⟨c0, c1, c2, c3, hkp⟩ := HKS.out k hlt
        have hbk := World.block_lt_of_cell? w _ c0
        rw [← hW.cell (p := ⟨B, off + k * 4, none⟩) hbk] at c0
        rw [← hW.cell (p := ⟨B, off + k * 4 + 1, none⟩) hbk] at c1
        rw [← hW.cell (p := ⟨B, off + k * 4 + 2, none⟩) hbk] at c2
        rw [← hW.cell (p := ⟨B, off + k * 4 + 3, none⟩) hbk] at c3
        have hkp1 := hkp.later hW
        have hdrop : ks.drop k = ks.getD k PL.none :: ks.drop (k + 1) := by rw [List.drop_eq_getElem_cons hlt]; simp [List.getD, hlt]
        rw [hdrop, PL.cntL] at hgo
        have hle := HLE.out (ks.getD k PL.none)
        have HCALL := Lib.hid (fun W (h : IsPl W (kv k) (ks.getD k PL.none).kids) => HIH.out (ks.getD k PL.none) (kv k) W h)
        generalize PL.cnt (deep + 1) (ks.getD k PL.none) = c at *
        generalize ks.getD k PL.none = q at *
        generalize kv k = qv at *
        obtain ⟨a2, cap2, _, _, _, rfl, _⟩ := hkp1.open
        have HGO := Lib.hid hgo
        have HKP := Lib.hid hkp1
        have HW := Lib.hid hW
        clear hgo hkp hkp1 hdrop hne hW
        go_wp2_with fail
        refine (HCALL.out _ (HKP.out.later (by repeat (first | exact Below.refl _ _ | assumption | refine Below.drew ?_ | refine ext_drewN ?_ _ | refine ext_alloc ?_ _ | refine Below.setCell ?_ (by (try simp only [World.size_alloc, World.size_setCell, World.size_drew]); omega) _ | refine ext_step ?_ (by assumption))))).mono ?_
        rintro e w1 ⟨rfl, hb1⟩
        have hB1 : Below wr.heap.size wr w1 := by repeat (first | exact Below.refl _ _ | assumption | refine Below.drew ?_ | refine ext_drewN ?_ _ | refine ext_alloc ?_ _ | refine Below.setCell ?_ (by (try simp only [World.size_alloc, World.size_setCell, World.size_drew]); omega) _ | refine ext_step ?_ (by assumption))
        have hB2 := ext_step HW.out hB1
        clear hb1 hB1
        by_cases hbig : 1000 < s + c
        · have HR : Hid (N = s + c) := by show _ = _; rw [← HGO.out, if_pos hbig]
          have hbig' : (1000 : Int) < (s : Int) + (c : Int) := by omega
          go_wp2_with fail
          go_ret
          exact ⟨by rw [HR.out]; go_num, hB2⟩
        · have HR : Hid (PL.cntL deep (ks.drop (k + 1)) (s + c) = N) := by show _ = _; rw [← HGO.out, if_neg hbig]
          have hbig' : ¬ (1000 : Int) < (s : Int) + (c : Int) := by omega
          go_wp2_with fail
          go_roundw
          case rel => exact ⟨k + 1, s + c, by omega, by go_num, by go_num, by omega, HR.out, hB2⟩
          case measure => simp [intOf]; omega
      · obtain rfl : k = ks.length := by omega
        rw [List.drop_length, PL.cntL] at hgo
        subst hgo
        go_wp2_with fail
        go_ret
        exact ⟨rfl, hW⟩
end Go.Proofs.YticpjjmacmmpjaaGreatDoor
