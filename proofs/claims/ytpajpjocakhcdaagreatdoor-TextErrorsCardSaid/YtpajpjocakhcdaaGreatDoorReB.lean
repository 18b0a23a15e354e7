/-
  The least expressions, walked through the program: of no text, of the text of no bytes, of one byte of a set.
-/
import Derived.Test.YtpajpjocakhcdaaGreatDoorReMade
import Derived.Test.YtpajpjocakhcdaaGreatDoorSetL
set_option linter.unusedSimpArgs false
set_option linter.unusedVariables false
set_option maxRecDepth 100000
set_option linter.unnecessarySimpa false
namespace Go.Proofs.YtpajpjocakhcdaaGreatDoor
open Go.RowKit

theorem made_zero (o : Nat) (ho : o < 8) (ho2 : o ≠ 2) (nl : Bool) (kp : Option Addr) (cap : Nat) (bs : List Nat) (ks : List RE) (w : World) (hr : PtrsAt w kp bs) (hk : AreRe w bs ks) (hnl : nl = (RE.node o BS.none ks).null) (hsz : RE.sizes ks ≤ 1099511627776) :
    Calls Tryz.prog 72 #[.int .i64 o, .agg #[.int .u64 0, .int .u64 0, .int .u64 0, .int .u64 0], .bool nl, .slice kp ks.length cap] w fun e w' => ∃ b, e = .returned (ptr b) ∧ w.heap.size ≤ b ∧ w'.heap[b]? = some (.cells (nodeCells (RE.node o BS.none ks) kp cap) 95 (0, 0)) ∧ Below w.heap.size w w' := by
  have h := made_other o ho ho2 0 0 0 0 nl kp cap bs ks w hr hk hnl hsz
  rw [← wN_zero] at h
  exact h
theorem are_nil (w : World) : AreRe w [] [] := ⟨rfl, fun i hi => absurd hi (by simp)⟩
theorem fresh_leaf {B b o : Nat} {s : BS} {w' : World} (h0 : B ≤ b) (h1 : w'.heap[b]? = some (.cells (nodeCells (RE.node o s []) none 0) 95 (0, 0))) : IsReX (· < B) w' b (RE.node o s []) :=
  .mk b _ none 0 [] (by show ¬ b < B; omega) h1 rfl (.inl rfl) (fun h => absurd rfl h) (fun a ha => by cases ha) (fun i hi => absurd hi (by simp [RE.kids]))
set_option maxHeartbeats 800000 in
theorem Nothing_any (w : World) : Calls Tryz.prog 71 #[] w fun e w' => ∃ b, e = .returned (ptr b) ∧ IsReX (· < w.heap.size) w' b RE.nothing ∧ Below w.heap.size w w' := by
  have H := Lib.hid (made_zero 0 (by omega) (by omega) false none 0 [] [] w (.inl rfl) (are_nil w) (by simp [RE.null]) (by simp [RE.sizes]))
  go_enter Tryz.func71, Tryz.ntmps71
  go_wp2_with fail
  refine H.out.mono ?_
  rintro e w1 ⟨b, rfl, h0, h1, h2⟩
  go_wp2_with fail
  go_ret
  exact ⟨b, rfl, fresh_leaf h0 h1, h2⟩
set_option maxHeartbeats 800000 in
theorem EmptyRe_any (w : World) : Calls Tryz.prog 78 #[] w fun e w' => ∃ b, e = .returned (ptr b) ∧ IsReX (· < w.heap.size) w' b RE.empty ∧ Below w.heap.size w w' := by
  have H := Lib.hid (made_zero 1 (by omega) (by omega) true none 0 [] [] w (.inl rfl) (are_nil w) (by simp [RE.null]) (by simp [RE.sizes]))
  go_enter Tryz.func78, Tryz.ntmps78
  go_wp2_with fail
  refine H.out.mono ?_
  rintro e w1 ⟨b, rfl, h0, h1, h2⟩
  go_wp2_with fail
  go_ret
  exact ⟨b, rfl, fresh_leaf h0 h1, h2⟩
set_option maxHeartbeats 1600000 in
theorem One_any (s0 s1 s2 s3 : BitVec 64) (w : World) : Calls Tryz.prog 34 #[.agg #[.int .u64 (wN s0), .int .u64 (wN s1), .int .u64 (wN s2), .int .u64 (wN s3)]] w fun e w' => ∃ b, e = .returned (ptr b) ∧ IsReX (· < w.heap.size) w' b (RE.one ⟨s0, s1, s2, s3⟩) ∧ Below w.heap.size w w' := by
  have HM := Lib.hid (made_class s0 s1 s2 s3)
  by_cases hs : (⟨s0, s1, s2, s3⟩ : BS) = BS.none
  · have HE : Hid (decide ((⟨s0, s1, s2, s3⟩ : BS) = BS.none) = true) := decide_eq_true hs
    have HO : Hid (RE.one ⟨s0, s1, s2, s3⟩ = RE.nothing) := by show _ = _; unfold RE.one; rw [if_pos hs]
    clear hs
    go_enter Tryz.func34, Tryz.ntmps34
    go_wp2_with (go_at_call 70; refine (Empty_any s0 s1 s2 s3 _).mono ?_; rintro e w' ⟨rfl, rfl⟩; rw [HE.out])
    refine (Nothing_any _).mono ?_
    rintro e w1 ⟨b, rfl, h1, h2⟩
    have h2' : Below w.heap.size w w1 := by repeat (first | exact Below.refl _ _ | assumption | refine Below.drew ?_ | refine ext_drewN ?_ _ | refine ext_alloc ?_ _ | refine Below.setCell ?_ (by (try simp only [World.size_alloc, World.size_setCell, World.size_drew]); omega) _ | refine ext_step ?_ (by assumption))
    go_wp2_with fail
    go_ret
    exact ⟨b, rfl, by rw [HO.out]; exact h1.mono (fun k _ hk => by simp; omega), h2'⟩
  · have HE : Hid (decide ((⟨s0, s1, s2, s3⟩ : BS) = BS.none) = false) := decide_eq_false hs
    have HO : Hid (RE.one ⟨s0, s1, s2, s3⟩ = RE.node 2 ⟨s0, s1, s2, s3⟩ []) := by show _ = _; unfold RE.one; rw [if_neg hs]
    clear hs
    go_enter Tryz.func34, Tryz.ntmps34
    go_wp2_with (go_at_call 70; refine (Empty_any s0 s1 s2 s3 _).mono ?_; rintro e w' ⟨rfl, rfl⟩; rw [HE.out])
    refine (HM.out _).mono ?_
    rintro e w1 ⟨b, rfl, h0, h1, h2⟩
    have h2' : Below w.heap.size w w1 := by repeat (first | exact Below.refl _ _ | assumption | refine Below.drew ?_ | refine ext_drewN ?_ _ | refine ext_alloc ?_ _ | refine Below.setCell ?_ (by (try simp only [World.size_alloc, World.size_setCell, World.size_drew]); omega) _ | refine ext_step ?_ (by assumption))
    go_wp2_with fail
    go_ret
    exact ⟨b, rfl, by rw [HO.out]; exact fresh_leaf (by simp at h0; omega) h1, h2'⟩
end Go.Proofs.YtpajpjocakhcdaaGreatDoor
