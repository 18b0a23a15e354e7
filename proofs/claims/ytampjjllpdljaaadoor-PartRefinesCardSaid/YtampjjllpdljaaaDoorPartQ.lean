/-
  What a slice of sets that comes in as an argument looks like.
-/
import Derived.Test.YtampjjllpdljaaaDoorSetQ
import Derived.Test.YtampjjllpdljaaaDoorPartS
import Derived.Deep.Slices
set_option linter.unusedSimpArgs false
set_option linter.unusedVariables false
set_option maxRecDepth 100000
namespace Go.Proofs.YtampjjllpdljaaaDoor
open Go.ChangeShapes Go.WideShapes Go.ChangeAt Go.RowKit Go.Deep

theorem set_of_cells {H : Type} {enc : TypeId × Value → H} {W : World} {base : Nat} {spare : Nat → Bool} {held : Bool} {n : Nat} {cs : List Value} {y : DataW H × List MemPlace}
    (h : DataW.trod enc Tryd.prog W base spare held n 24 cs = some y) (hl : cs.length = 4) : ∃ s : BS, cs = [.int .u64 (wN s.a), .int .u64 (wN s.b), .int .u64 (wN s.c), .int .u64 (wN s.d)] := by
  obtain ⟨d, p⟩ := y
  obtain ⟨xs, m, _, ex, hlen, hll, hel⟩ := DataW.trod_array undS h
  have g : ∀ i, i < 4 → ∃ y, xs[i]? = some y := fun i hi => ⟨xs[i]'(by omega), List.getElem?_eq_getElem (by omega)⟩
  obtain ⟨y0, g0⟩ := g 0 (by omega); obtain ⟨y1, g1⟩ := g 1 (by omega); obtain ⟨y2, g2⟩ := g 2 (by omega); obtain ⟨y3, g3⟩ := g 3 (by omega)
  have h0 := hel 0 (by omega); have h1 := hel 1 (by omega); have h2 := hel 2 (by omega); have h3 := hel 3 (by omega)
  rw [g0] at h0; rw [g1] at h1; rw [g2] at h2; rw [g3] at h3
  simp only [cellsW] at h0 h1 h2 h3
  obtain ⟨n0, e0, _, w0⟩ := DataW.trod_int undW h0
  obtain ⟨n1, e1, _, w1⟩ := DataW.trod_int undW h1
  obtain ⟨n2, e2, _, w2⟩ := DataW.trod_int undW h2
  obtain ⟨n3, e3, _, w3⟩ := DataW.trod_int undW h3
  match cs, hl with
  | [c0, c1, c2, c3], _ =>
    simp at e0 e1 e2 e3
    subst e0 e1 e2 e3
    obtain ⟨x0, rfl⟩ := word_of w0; obtain ⟨x1, rfl⟩ := word_of w1; obtain ⟨x2, rfl⟩ := word_of w2; obtain ⟨x3, rfl⟩ := word_of w3
    exact ⟨⟨x0, x1, x2, x3⟩, rfl⟩

theorem open_sets {H : Type} {enc : TypeId × Value → H} {W : World} {base : Nat} {held : Bool} {a : Option Addr} {len cap : Nat} {d : DataW H} {p : List MemPlace}
    (h : DataW.Trod enc Tryd.prog W base (fun _ => true) held 35 (.slice a len cap) d p) :
    ∃ (B off : Nat) (l : List BS), l.length = len ∧ (0 < l.length → a = some ⟨B, off, none⟩) ∧ len ≤ maxLen ∧ SetsAt W B off l := by
  obtain ⟨fuel, hf⟩ := h
  rcases open_slice Tryd.underlying35 hf with ⟨hcs, _⟩ | ⟨x, l, c, m, n, D, Pl, hcs, hb, hl, hm, hmm, _, hel⟩
  · simp [Value.cells] at hcs
    obtain ⟨rfl, rfl, rfl⟩ := hcs
    exact ⟨0, 0, [], rfl, fun h => absurd h (by simp), Nat.zero_le _, fun i hi => absurd hi (by simp)⟩
  · simp [Value.cells] at hcs
    obtain ⟨rfl, rfl, rfl⟩ := hcs
    simp only [if_true] at hmm
    subst hmm
    rw [cellsS] at hel
    by_cases h0 : len = 0
    · subst h0
      exact ⟨0, 0, [], rfl, fun h => absurd h (by simp), Nat.zero_le _, fun i hi => absurd hi (by simp)⟩
    obtain ⟨B, off, spot⟩ := x
    have key : ∀ i, i < len → ∃ s : BS, ∀ r, r < 4 → W.cell? ((⟨B, off, spot⟩ : Addr).add (i * 4) |>.add r) = (words s)[r]? := fun i hi => by
      obtain ⟨cs', h1, h2⟩ := hel i (by omega)
      obtain ⟨_, hlen, hc⟩ := World.cells?_some h1
      obtain ⟨s, rfl⟩ := set_of_cells h2 hlen
      exact ⟨s, hc⟩
    have hspot : spot = none := by
      obtain ⟨s, hs⟩ := key 0 (by omega)
      have := hs 0 (by omega)
      rw [Nat.zero_mul] at this
      simpa [Addr.add] using World.cell?_spot (this.trans rfl)
    subst hspot
    haveI : Inhabited BS := ⟨BS.none⟩
    obtain ⟨f, hf⟩ := choose_lt key
    refine ⟨B, off, (List.range len).map f, by simp, fun _ => rfl, by omega, fun i hi => ?_⟩
    have hi' : i < len := by simpa using hi
    have e : ((List.range len).map f).getD i BS.none = f i := by simp [hi']
    rw [e]
    have hadd : ∀ r, ((⟨B, off, none⟩ : Addr).add (i * 4) |>.add r) = ⟨B, off + i * 4 + r, none⟩ := fun r => by
      have h1 : ∀ o n, (⟨B, o, none⟩ : Addr).add n = ⟨B, o + n, none⟩ := fun o n => by unfold Addr.add; split <;> simp_all
      rw [h1, h1]
    have hg := hf i hi'
    refine ⟨?_, ?_, ?_, ?_⟩
    · have := hg 0 (by omega); rw [hadd] at this; exact this
    · have := hg 1 (by omega); rw [hadd] at this; exact this
    · have := hg 2 (by omega); rw [hadd] at this; exact this
    · have := hg 3 (by omega); rw [hadd] at this; exact this
theorem slice_cap {H : Type} {enc : TypeId × Value → H} {W : World} {base : Nat} {held : Bool} {a : Option Addr} {len cap : Nat} {d : DataW H} {p : List MemPlace}
    (h : DataW.Trod enc Tryd.prog W base (fun _ => true) held 35 (.slice a len cap) d p) : len ≤ cap := by
  obtain ⟨fuel, hf⟩ := h
  rcases open_slice Tryd.underlying35 hf with ⟨hcs, _⟩ | ⟨x, l, c, m, n, D, Pl, hcs, hb, hl, hm, hmm, _, hel⟩
  · simp [Value.cells] at hcs
    obtain ⟨rfl, rfl, rfl⟩ := hcs
    exact Nat.le_refl _
  · simp [Value.cells] at hcs
    obtain ⟨rfl, rfl, rfl⟩ := hcs
    exact hl
end Go.Proofs.YtampjjllpdljaaaDoor
