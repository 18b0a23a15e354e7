/-
  A term and its parts gone through, walked through the program: whatever function is called on each.
-/
import Derived.Test.YtpajpjocakhcdaaGreatDoorLnO
set_option linter.unusedSimpArgs false
set_option linter.unusedVariables false
set_option maxRecDepth 100000
set_option linter.unnecessarySimpa false
namespace Go.Proofs.YtpajpjocakhcdaaGreatDoor
open Go.RowKit
/-- gone through, till it is told to end -/
def walkB (go : List Nat → Bool) : List Nat → List Nat → List Nat × Bool
  | done, [] => (done, true)
  | done, b :: r => if go (done ++ [b]) then walkB go (done ++ [b]) r else (done ++ [b], false)
theorem walkB_true {go : List Nat → Bool} {l : List Nat} : ∀ {done : List Nat}, (walkB go done l).2 = true → (walkB go done l).1 = done ++ l := by
  induction l with
  | nil => intro done _; simp [walkB]
  | cons a l ih =>
    intro done h
    unfold walkB at h ⊢
    by_cases hg : go (done ++ [a]) = true
    · rw [if_pos hg] at h ⊢
      rw [ih h]; simp
    · rw [if_neg hg] at h; simp at h
theorem walkB_append {go : List Nat → Bool} {l l' : List Nat} : ∀ {done : List Nat}, walkB go done (l ++ l') = if (walkB go done l).2 = true then walkB go (done ++ l) l' else walkB go done l := by
  induction l with
  | nil => intro done; simp [walkB]
  | cons a l ih =>
    intro done
    simp only [List.cons_append]
    rw [walkB, walkB]
    by_cases hg : go (done ++ [a]) = true
    · rw [if_pos hg, if_pos hg, ih]; simp
    · rw [if_neg hg, if_neg hg]; simp
theorem walkB_all {go : List Nat → Bool} {l : List Nat} (h : ∀ d, go d = true) : ∀ {done : List Nat}, walkB go done l = (done ++ l, true) := by
  induction l with
  | nil => intro done; simp [walkB]
  | cons a l ih => intro done; rw [walkB, if_pos (h _), ih]; simp
theorem TA.blockss_append (l l' : List TA) : TA.blockss (l ++ l') = TA.blockss l ++ TA.blockss l' := by
  induction l with
  | nil => rfl
  | cons a l ih => simp [TA.blockss, ih]
theorem TA.len_sizes (l : List TA) : l.length ≤ TA.sizes l := by
  induction l with
  | nil => simp
  | cons a l ih => simp only [List.length_cons, TA.sizes]; have := a.size_eq; omega
/-- what is needed to go on: where a term's parts are -/
def KeepT (w0 w : World) (B : List Nat) : Prop := (∀ b ∈ B, w.cell? ⟨b, 6, none⟩ = w0.cell? ⟨b, 6, none⟩) ∧ ∀ (kb : Nat) (cur : Array Value) (fr : Nat × Nat), w0.heap[kb]? = some (Obj.cells cur 26 fr) → w.heap[kb]? = w0.heap[kb]?
theorem KeepT.sub {w0 w : World} {B B' : List Nat} (h : KeepT w0 w B) (hs : ∀ b ∈ B', b ∈ B) : KeepT w0 w B' := ⟨fun b hb => h.1 b (hs b hb), h.2⟩
def WalkAt (go : List Nat → Bool) (Inv : List Nat → World → Prop) (done : List Nat) (b : Nat) (ks : List TA) (i : Value) (wr : World) : Prop :=
  ∃ k : Nat, k ≤ ks.length ∧ i = .int .i64 k ∧ (walkB go done (b :: TA.blockss (ks.take k))).2 = true ∧ Inv (done ++ b :: TA.blockss (ks.take k)) wr
theorem tmWalk_nil (v : Value) (w : World) : Calls Tryz.prog 20 #[.pointer none, v] w fun e w' => e = .returned (.bool true) ∧ w' = w := by
  go_enter Tryz.func20, Tryz.ntmps20
  go_wp2_with fail
  go_ret
  exact ⟨rfl, rfl⟩
set_option maxRecDepth 100000 in
set_option maxHeartbeats 4000000 in
theorem tmWalk_any (g : Nat) (caps : Array Value) (hg : ∀ args w, (callFunc g args).run Tryz.prog w = .ok (.enter g args) w) (go : List Nat → Bool) (Inv : List Nat → World → Prop) (all : List Nat) (w0 : World)
    (hS : ∀ d b W, (d ++ [b]) <+: all → Inv d W → Calls Tryz.prog g (#[ptr b] ++ caps) W fun e W' => e = .returned (.bool (go (d ++ [b]))) ∧ Inv (d ++ [b]) W')
    (hK : ∀ d W, Inv d W → KeepT w0 W all) :
    ∀ (n : Nat) (t : TA), t.size ≤ n → t.size ≤ 1099511627776 → IsTa w0 t → ∀ (done : List Nat) (w : World), done ++ t.blocks <+: all → Inv done w →
      Calls Tryz.prog 20 #[ptr t.b, .func (.func g) #[] caps] w fun e w' => e = .returned (.bool (walkB go done t.blocks).2) ∧ Inv (walkB go done t.blocks).1 w' := by
  intro n
  induction n with
  | zero => intro t hn _; have := t.size_eq; omega
  | succ n ih =>
    intro t hn hsz ht done w hp hI
    obtain ⟨⟨rv, kp, cap, hnode⟩, hkids⟩ := ht.open
    have hlen : ∀ k ∈ t.kids, k.size ≤ n := fun k hk => by have := TA.kid_size hk; omega
    have HR := Lib.hid hnode.2.2
    obtain ⟨_, _, _, _, _, _, c6⟩ := hnode.cells
    have hbl := t.blocks_eq
    have HP : Hid (done ++ t.b :: TA.blockss t.kids <+: all) := by show _ <+: _; rw [← hbl]; exact hp
    have hpb : done ++ [t.b] <+: all := by
      refine List.IsPrefix.trans ?_ HP.out
      exact ⟨TA.blockss t.kids, by simp⟩
    have hfirst := hS done t.b w hpb hI
    have HF := Lib.hid hfirst
    have HC6 : Hid (∀ d W, Inv d W → W.cell? ⟨t.b, 6, none⟩ = some (.slice kp t.kids.length cap)) := fun d W h => by
      refine ((hK d W h).1 t.b ?_).trans c6
      exact HP.out.subset (by simp)
    have HKK := Lib.hid hK
    have HIH := Lib.hid (fun k hk => ih k (hlen k hk) (by have := TA.kid_size hk; omega) (hkids k hk))
    have hln : t.kids.length ≤ 1099511627776 := by have := TA.len_sizes t.kids; have := t.size_eq; omega
    rw [hbl]
    clear hn hsz ht hI hp hnode c6 hbl hpb hfirst hK hkids hlen ih hS
    generalize t.kids = ks at *
    generalize t.b = b at *
    go_enter Tryz.func20, Tryz.ntmps20
    go_wp2_with fail
    refine HF.out.mono ?_
    rintro e w1 ⟨rfl, hI1⟩
    by_cases hgo : go (done ++ [b]) = true
    · have HW0 : Hid (walkB go done (b :: TA.blockss ks) = walkB go (done ++ [b]) (TA.blockss ks)) := by show _ = _; rw [walkB, if_pos hgo]
      have HGO := Lib.hid hgo
      have d6 := HC6.out _ _ hI1
      have HI1 := Lib.hid hI1
      rw [hgo]
      clear hgo hI1 HF
      go_wp2_with fail
      go_loopw [18] (fun i wr => WalkAt go Inv done b ks i wr) (fun i _ => ks.length - (intOf i).toNat)
      case atStart => exact ⟨0, by omega, rfl, by rw [walkB, if_pos HGO.out]; rfl, by have := HI1.out; simpa [TA.blockss] using this⟩
      case round =>
        obtain ⟨k, hk, rfl, hw2, hIr⟩ := hrel
        have HW2 := Lib.hid hw2
        have HIR := Lib.hid hIr
        clear hw2 hIr
        by_cases hlt : k < ks.length
        · have hmem : ks.getD k TA.none ∈ ks := by simp [List.getD, hlt]
          obtain ⟨kb, ko, hkp, hkc⟩ : ∃ kb ko, kp = some ⟨kb, ko, none⟩ ∧ wr.cell? ⟨kb, ko + k, none⟩ = some (.pointer (some ⟨(ks.getD k TA.none).b, 0, none⟩)) := by
            rcases HR.out with h0 | ⟨kb, ko, cur, fr, h1, h2, h3⟩
            · rw [List.map_eq_nil_iff.1 h0] at hlt; simp at hlt
            · refine ⟨kb, ko, h1, ?_⟩
              rw [World.cell?_of_block (w := w0) (w' := wr) (a := ⟨kb, ko + k, none⟩) ((HKK.out _ _ HIR.out).2 kb cur fr h2)]
              have := h3 k (by simpa using hlt)
              simpa [List.getD, hlt] using this
          have htake : ks.take (k + 1) = ks.take k ++ [ks.getD k TA.none] := tm_snoc ks k hlt
          have hdrop : ks.drop k = ks.getD k TA.none :: ks.drop (k + 1) := by
            rw [List.drop_eq_getElem_cons hlt]; simp [List.getD, hlt]
          have hbt : TA.blockss (ks.take (k + 1)) = TA.blockss (ks.take k) ++ (ks.getD k TA.none).blocks := by
            rw [htake, TA.blockss_append]; simp [TA.blockss]
          have hbd : TA.blockss ks = TA.blockss (ks.take k) ++ ((ks.getD k TA.none).blocks ++ TA.blockss (ks.drop (k + 1))) := by
            rw [← List.take_append_drop k ks, TA.blockss_append, List.take_append_drop, hdrop]; rfl
          have hpk : (done ++ b :: TA.blockss (ks.take k)) ++ (ks.getD k TA.none).blocks <+: all := by
            refine List.IsPrefix.trans ?_ HP.out
            exact ⟨TA.blockss (ks.drop (k + 1)), by rw [hbd]; simp⟩
          have HC := Lib.hid (HIH.out _ hmem _ _ hpk HIR.out)
          have HX : Hid (∀ r, walkB go (done ++ b :: TA.blockss (ks.take k)) (ks.getD k TA.none).blocks = r → walkB go done (b :: TA.blockss (ks.take (k + 1))) = r) := fun r hr => by
            rw [hbt, ← List.cons_append, walkB_append, if_pos HW2.out]; exact hr
          have HY : Hid (∀ d, walkB go (done ++ b :: TA.blockss (ks.take k)) (ks.getD k TA.none).blocks = (d, false) → walkB go done (b :: TA.blockss ks) = (d, false)) := fun d hr => by
            rw [hbd, ← List.cons_append, walkB_append, if_pos HW2.out, walkB_append, hr]; simp
          have HZ : Hid (b :: TA.blockss (ks.take (k + 1)) = b :: TA.blockss (ks.take k) ++ (ks.getD k TA.none).blocks) := by show _ = _; rw [hbt]; rfl
          subst hkp
          clear hmem htake hdrop hbt hbd hpk
          generalize (ks.getD k TA.none).b = bk at *
          generalize hr : walkB go (done ++ b :: TA.blockss (ks.take k)) (ks.getD k TA.none).blocks = r at *
          obtain ⟨rd, rb⟩ := r
          have HRR := Lib.hid hr
          clear hr
          cases rb with
          | true =>
            go_wp2_with fail
            refine HC.out.mono ?_
            rintro e w2 ⟨rfl, hI2⟩
            have HI2 := Lib.hid hI2
            clear hI2
            go_wp2_with fail
            go_roundw
            case rel =>
              refine ⟨k + 1, by omega, by go_num, by rw [HX.out _ rfl], ?_⟩
              have h1 := walkB_true (go := go) (done := done) (l := b :: TA.blockss (ks.take (k + 1))) (by rw [HX.out _ rfl])
              rw [← h1, HX.out _ rfl]; exact HI2.out
            case measure => simp [intOf]; omega
          | false =>
            go_wp2_with fail
            refine HC.out.mono ?_
            rintro e w2 ⟨rfl, hI2⟩
            have HI2 := Lib.hid hI2
            clear hI2
            go_wp2_with fail
            go_ret
            rw [HY.out _ rfl]
            exact ⟨rfl, HI2.out⟩
        · obtain rfl : k = ks.length := by omega
          go_wp2_with fail
          go_ret
          have h2 := HW2.out
          have h3 := HIR.out
          rw [List.take_length] at h2 h3
          rw [walkB_true h2, h2]
          exact ⟨rfl, h3⟩
    · have hgf : go (done ++ [b]) = false := by simpa using hgo
      have HGF := Lib.hid hgf
      have HI1 := Lib.hid hI1
      rw [hgf]
      clear hgf hgo hI1
      go_wp2_with fail
      go_ret
      rw [walkB, if_neg (by rw [HGF.out]; simp)]
      exact ⟨rfl, HI1.out⟩
end Go.Proofs.YtpajpjocakhcdaaGreatDoor
