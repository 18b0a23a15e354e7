/-
  Trees that come in as arguments: slices of structs the last field of each of which is such a slice again. How they lie in memory, and that they do.
-/
import Derived.Test.YtpajpjocakhcdaaGreatDoorRows
import Derived.Deep.Slices
import Derived.Deep.Fields
import Derived.ChangeSame
import Derived.ChangeArms
import Derived.DataReads
import Derived.WalkKit
import Derived.Below
set_option linter.unusedSimpArgs false
set_option linter.unusedVariables false
set_option maxRecDepth 100000
set_option linter.unnecessarySimpa false
namespace Go.Proofs.YtpajpjocakhcdaaGreatDoor
open Go.ChangeShapes Go.WideShapes Go.RowKit Go.Deep
inductive Rose where
  | node (f : List Value) (kids : List Rose)
namespace Rose
def f : Rose → List Value | node f _ => f
def kids : Rose → List Rose | node _ k => k
mutual
/-- of each node its fields are as they must be -/
def okR (F : List Value → Prop) : Rose → Prop | node f ks => F f ∧ okRs F ks
def okRs (F : List Value → Prop) : List Rose → Prop | [] => True | k :: ks => okR F k ∧ okRs F ks
end
theorem okRs_iff (F : List Value → Prop) (l : List Rose) : okRs F l ↔ ∀ r ∈ l, okR F r := by
  induction l with
  | nil => simp [okRs]
  | cons a l ih => simp [okRs, ih]
def none : Rose := node [] []
end Rose
/-- a slice of nodes of k fields and a slice of nodes each -/
inductive IsRose (w : World) (k : Nat) : Value → List Rose → Prop
  | mk (a : Option Addr) (cap : Nat) (ks : List Rose) (B off : Nat) (sv : Nat → Value) (ha : ks ≠ [] → a = some ⟨B, off, none⟩) (hlen : ks.length ≤ maxLen)
      (hl : ∀ i, i < ks.length → (ks.getD i Rose.none).f.length = k) (hf : ∀ i, i < ks.length → ∀ j, j < k → w.cell? ⟨B, off + i * (k + 1) + j, none⟩ = (ks.getD i Rose.none).f[j]?)
      (hs : ∀ i, i < ks.length → w.cell? ⟨B, off + i * (k + 1) + k, none⟩ = some (sv i)) (hk : ∀ i, i < ks.length → IsRose w k (sv i) (ks.getD i Rose.none).kids) : IsRose w k (.slice a ks.length cap) ks
theorem IsRose.later {w w' : World} {k : Nat} {v : Value} {ks : List Rose} (h : IsRose w k v ks) (hb : Below w.heap.size w w') : IsRose w' k v ks := by
  induction h with
  | mk a cap ks B off sv ha hlen hl hf hs hk ih =>
    refine .mk a cap ks B off sv ha hlen hl (fun i hi j hj => ?_) (fun i hi => ?_) ih
    · have h1 := hf i hi j hj
      have hj' : j < (ks.getD i Rose.none).f.length := by rw [hl i hi]; exact hj
      rw [List.getElem?_eq_getElem hj'] at h1
      rw [hb.cell (p := ⟨B, off + i * (k + 1) + j, none⟩) (World.block_lt_of_cell? w _ h1), hf i hi j hj]
    · rw [hb.cell (p := ⟨B, off + i * (k + 1) + k, none⟩) (World.block_lt_of_cell? w _ (hs i hi))]; exact hs i hi
theorem open_rose {H : Type} {enc : TypeId × Value → H} {P : Program} {w : World} {base : Nat} {spare : Nat → Bool} {held : Bool} {k : Nat} {st sl : TypeId} {fs : Array Field} (hsl : P.underlying sl = some (.slice st)) (hst : P.underlying st = some (.struct fs)) (hone : oneCellFields P fs = true)
   (hC : P.cellsOf st = k + 1) (hfs : fs.size = k + 1) (F : List Value → Prop) (hlast : ∃ f : Field, fs[k]? = some f ∧ f.type = sl)
   (hF : ∀ (n : Nat) (cs : List Value), cs.length = k → (∀ (j : Nat) (f : Field), j < k → fs[j]? = some f → ∃ y, DataW.trod enc P w base spare held n f.type [cs.getD j undef] = some y) → F cs) :
    ∀ (fuel : Nat) (v : Value) (x : DataW H × List MemPlace), DataW.trod enc P w base spare held fuel sl [v] = some x → ∃ ks, IsRose w k v ks ∧ ∀ r ∈ ks, Rose.okR F r := by
  intro fuel
  induction fuel using Nat.strongRecOn with
  | ind fuel ih =>
    intro v x h
    rcases DataW.trod_slice hsl h with ⟨hcs, _⟩ | ⟨a, len, cap, elems, rest, n, hn, hcs, _, hb, hl, hm, hlen, hel, _, _⟩
    · have hv : v = .slice none 0 0 := by simpa using hcs
      subst hv
      exact ⟨[], .mk none 0 [] 0 0 (fun _ => undef) (fun h => absurd rfl h) (Nat.zero_le _) (fun i hi => absurd hi (by simp)) (fun i hi => absurd hi (by simp)) (fun i hi => absurd hi (by simp)) (fun i hi => absurd hi (by simp)), by simp⟩
    · have hv : v = .slice (some a) len cap := by simpa using hcs
      subst hv
      obtain ⟨fl, hfl, hflt⟩ := hlast
      have key : ∀ i, i < len → ∃ q : List Value × Value × List Rose, q.1.length = k ∧ (∀ j, j < k → w.cell? ((a.add (i * (k + 1))).add j) = q.1[j]?) ∧ w.cell? ((a.add (i * (k + 1))).add k) = some q.2.1 ∧ F q.1 ∧ IsRose w k q.2.1 q.2.2 ∧ ∀ r ∈ q.2.2, Rose.okR F r := fun i hi => by
        have h1 := hel i hi
        rw [hC, List.getElem?_eq_getElem (by omega)] at h1
        obtain ⟨cs, hc1, hc2⟩ := Option.bind_eq_some_iff.1 h1
        obtain ⟨_, hcl, hcat⟩ := World.cells?_some hc1
        obtain ⟨ys, n', hn', _, _, hyl, hg⟩ := DataW.trod_struct hst hc2
        have hfield : ∀ (j : Nat) (f : Field), fs[j]? = some f → ∃ y, DataW.trod enc P w base spare held n' f.type [cs.getD j undef] = some y := fun j f hj => by
          have hjl : j < fs.size := (Array.getElem?_eq_some_iff.1 hj).1
          obtain ⟨ho, hk1⟩ := hone_of hone j f hj
          have h2 := hg j f hj
          rw [ho, hk1] at h2
          have hone' : (cs.drop j).take 1 = [cs.getD j undef] := by
            have hjc : j < cs.length := by omega
            have e : cs.drop j = cs[j] :: cs.drop (j + 1) := List.drop_eq_getElem_cons hjc
            rw [e]
            show [cs[j]] = [cs.getD j undef]
            simp [List.getD, hjc]
          rw [hone'] at h2
          exact ⟨_, h2.trans (List.getElem?_eq_getElem (by omega))⟩
        obtain ⟨yk, hyk⟩ := hfield k fl hfl
        rw [hflt] at hyk
        obtain ⟨ks', hk1, hk2⟩ := ih n' (by omega) _ _ hyk
        have hkl : k < cs.length := by omega
        refine ⟨(cs.take k, cs.getD k undef, ks'), by simp; omega, fun j hj => ?_, ?_, ?_, hk1, hk2⟩
        · rw [hcat j (by omega)]; simp [List.getElem?_take, hj]
        · rw [hcat k (by omega)]; simp [List.getD, hkl]
        · refine hF n' (cs.take k) (by simp; omega) fun j f hj hfj => ?_
          obtain ⟨y, hy⟩ := hfield j f hfj
          refine ⟨y, ?_⟩
          have : (cs.take k).getD j undef = cs.getD j undef := by
            have : j < cs.length := by omega
            simp [List.getD, List.getElem?_take, hj]
          rw [this]; exact hy
      haveI : Inhabited (List Value × Value × List Rose) := ⟨([], undef, [])⟩
      obtain ⟨q, hq⟩ := choose_lt key
      obtain ⟨B, off, spot⟩ := a
      have hspot : 0 < len → spot = none := fun h0 => by
        obtain ⟨hl0, h1, h2, _⟩ := hq 0 h0
        have e0 : (⟨B, off, spot⟩ : Addr).add 0 = ⟨B, off, spot⟩ := rfl
        rcases Nat.eq_zero_or_pos k with hk | hk
        · subst hk
          rw [Nat.zero_mul, e0, e0] at h2
          exact World.cell?_spot h2
        · have h3 := h1 0 hk
          rw [Nat.zero_mul, e0, e0, List.getElem?_eq_getElem (by omega)] at h3
          exact World.cell?_spot h3
      have hadd : ∀ i, i < len → ∀ r, ((⟨B, off, spot⟩ : Addr).add (i * (k + 1)) |>.add r) = ⟨B, off + i * (k + 1) + r, none⟩ := fun i hi r => by
        have hs := hspot (by omega)
        subst hs
        have h1 : ∀ o n, (⟨B, o, none⟩ : Addr).add n = ⟨B, o + n, none⟩ := fun o n => by unfold Addr.add; split <;> simp_all
        rw [h1, h1]
      have hgd : ∀ i, i < len → ((List.range len).map fun i => Rose.node (q i).1 (q i).2.2).getD i Rose.none = Rose.node (q i).1 (q i).2.2 := fun i hi => by simp [hi]
      refine ⟨(List.range len).map fun i => Rose.node (q i).1 (q i).2.2, ?_, ?_⟩
      · have hml : ((List.range len).map fun i => Rose.node (q i).1 (q i).2.2).length = len := by simp
        have := IsRose.mk (w := w) (k := k) (some ⟨B, off, spot⟩) cap ((List.range len).map fun i => Rose.node (q i).1 (q i).2.2) B off (fun i => (q i).2.1) (fun hne => by
          have : 0 < len := by
            rcases Nat.eq_zero_or_pos len with h0 | h0
            · subst h0; exact absurd rfl hne
            · exact h0
          rw [hspot this]) (by rw [hml]; omega) (fun i hi => by rw [hml] at hi; rw [hgd i hi]; exact (hq i hi).1) (fun i hi j hj => by
            rw [hml] at hi
            rw [hgd i hi, ← hadd i hi j]; exact (hq i hi).2.1 j hj) (fun i hi => by
            rw [hml] at hi
            rw [← hadd i hi k]; exact (hq i hi).2.2.1) (fun i hi => by
            rw [hml] at hi
            rw [hgd i hi]; exact (hq i hi).2.2.2.2.1)
        rw [hml] at this
        exact this
      · intro r hr
        obtain ⟨i, hi, rfl⟩ := List.mem_map.1 hr
        have hi' : i < len := by simpa using hi
        exact ⟨(hq i hi').2.2.2.1, (Rose.okRs_iff F _).2 (hq i hi').2.2.2.2.2⟩
end Go.Proofs.YtpajpjocakhcdaaGreatDoor
