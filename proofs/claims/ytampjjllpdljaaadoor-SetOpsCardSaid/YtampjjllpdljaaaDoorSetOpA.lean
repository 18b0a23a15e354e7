/-
  'SetOps', walked through the program: for whatever two sets the statement's function returns true, and nothing that lay has turned; the library's table is read as its initialiser lays it.
-/
import Derived.Test.YtampjjllpdljaaaDoorSetOp1
import Derived.Test.YtampjjllpdljaaaDoorSetOp2
import Derived.Test.YtampjjllpdljaaaDoorSetOp3
set_option linter.unusedSimpArgs false
set_option linter.unusedVariables false
set_option maxRecDepth 100000
namespace Go.Proofs.YtampjjllpdljaaaDoor
open Go.RowKit

theorem SetOps_any (w : World) (a0 a1 a2 a3 b0 b1 b2 b3 : BitVec 64) (hT : Tab w) :
    Calls Tryd.prog 3 #[.agg #[.int .u64 (wN a0), .int .u64 (wN a1), .int .u64 (wN a2), .int .u64 (wN a3)], .agg #[.int .u64 (wN b0), .int .u64 (wN b1), .int .u64 (wN b2), .int .u64 (wN b3)]] w fun e w' => e = .returned (.bool true) ∧ Below w.heap.size w w' := by
  by_cases h : (⟨a0, a1, a2, a3⟩ : BS) = BS.none
  · exact SetOps_case1 w a0 a1 a2 a3 b0 b1 b2 b3 hT h
  · by_cases h0 : (⟨a0, a1, a2, a3⟩ : BS).least = 0
    · exact SetOps_case2 w a0 a1 a2 a3 b0 b1 b2 b3 hT h h0
    · exact SetOps_case3 w a0 a1 a2 a3 b0 b1 b2 b3 hT h (by omega)
end Go.Proofs.YtampjjllpdljaaaDoor
