/-
  What two calls of package set do, in the form that the walks of the parts use.
-/
import Derived.Test.YtampjjllpdljaaaDoorSetH
set_option linter.unusedSimpArgs false
set_option linter.unusedVariables false
set_option maxRecDepth 100000
namespace Go.Proofs.YtampjjllpdljaaaDoor
open Go.RowKit
theorem wN_refl (x : BitVec 64) : (wN x == wN x) = true := by simp
theorem Empty_b (a0 a1 a2 a3 : BitVec 64) (w : World) :
    Calls Tryd.prog 14 #[.agg #[.int .u64 (wN a0), .int .u64 (wN a1), .int .u64 (wN a2), .int .u64 (wN a3)]] w fun e w' => e = .returned (.bool (decide ((⟨a0, a1, a2, a3⟩ : BS) = BS.none))) ∧ Below w.heap.size w w' :=
  (Empty_any a0 a1 a2 a3 w).mono fun _ _ h => ⟨h.1, by rw [h.2]; exact ext_alloc (Below.refl _ _) _⟩
theorem Len_b (a0 a1 a2 a3 : BitVec 64) (w : World) :
    Calls Tryd.prog 13 #[.agg #[.int .u64 (wN a0), .int .u64 (wN a1), .int .u64 (wN a2), .int .u64 (wN a3)]] w fun e w' => e = .returned (.int .i64 ((⟨a0, a1, a2, a3⟩ : BS).len : Nat)) ∧ Below w.heap.size w w' :=
  (Len_any a0 a1 a2 a3 w).mono fun _ _ h => ⟨h.1, by rw [h.2]; exact ext_alloc (Below.refl _ _) _⟩
end Go.Proofs.YtampjjllpdljaaaDoor
