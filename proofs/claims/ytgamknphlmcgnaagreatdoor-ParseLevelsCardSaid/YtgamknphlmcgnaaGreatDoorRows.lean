/-
  NARROWER THAN 'FOR EVERY INPUT', by the rows' own cells (each row's printed sentence says how): ParseExprs: laid · LexParts: loops, laid · TextReads: laid · LensSames: loops, laid · ParseLevels: laid · ParseGrammar: loops, laid · ParseReads: laid · ParseAgain: loops, laid · BindDeep: laid · BindErrors: laid · BindGrows: laid · BindNames: loops, laid.
  DERIVED. THE GIVEN ROWS OF THIS SEAT. 12 by the template 'for every input the law returns true; each argument reads behind the call as it read before'; 0 by the template 'total and deterministic' (their statements: YtgamknphlmcgnaaGreatDoorTotals.lean).
  GIVEN WITH THE SEED: the statements are not yours to turn. If you find one false, say at which input.
  Laid BY PROGRAM, IN A SANDBOX (cutbox-rows.mjs): the forced cells as the released guide's own fill.sh prints them over the translation bc0fd560b4653e4c… (all of the seat's roots in one cut). By AI agents, Wed Nov 11 2026. No macro, syntax, notation, axiom, sorry.
-/
import Derived.Test.YtgamknphlmcgnaaGreatDoorChecked
import GoSem.Claim
import GoSem.ClaimJoined
import GoSem.ClaimMapViews
import Derived.JoinedTies
import Derived.KernelRfl
namespace Go.Proofs.YtgamknphlmcgnaaGreatDoor
/- THE CELL 'sum', in the pinned program and in every row, IS THE sha256 OF THE DUMP (.gsa) THAT YtgamknphlmcgnaaGreatDoorProg.lean LOADS. Nothing in Lean hashes anything: it is a label: what it is worth is what the hold of that sum in a sandbox is worth. -/
noncomputable def Tryz.pinned : Pinned := { name := "ytgamknphlmcgnaagreatdoor", sum := "bc0fd560b4653e4cd858a2ae1abaed978b5d043ddc56bf78322265a03a7741cf", checked := Tryz.checked }
namespace Rows
def none {H : Type} : Left H := { results := [], args := [] }

/- WHAT THE LISTED PACKAGE-LEVEL VARIABLES READ AS WHEN THE CALL BEGINS. Each datum BY PROGRAM (the guide's laid-datum.mjs) off the statement by which the dump's own 'gosem.cut.vars' lays the variable. In a bare row this is a premise. The card (YtgamknphlmcgnaaGreatDoorCards.lean) ties it to the program's text. -/
def laid_math_bits_deBruijn32tab {H : Type} : DataW H := .agg [.lit (.int .u8 0), .lit (.int .u8 1), .lit (.int .u8 28), .lit (.int .u8 2), .lit (.int .u8 29), .lit (.int .u8 14), .lit (.int .u8 24), .lit (.int .u8 3), .lit (.int .u8 30), .lit (.int .u8 22), .lit (.int .u8 20), .lit (.int .u8 15), .lit (.int .u8 25), .lit (.int .u8 17), .lit (.int .u8 4), .lit (.int .u8 8), .lit (.int .u8 31), .lit (.int .u8 27), .lit (.int .u8 13), .lit (.int .u8 23), .lit (.int .u8 21), .lit (.int .u8 19), .lit (.int .u8 16), .lit (.int .u8 7), .lit (.int .u8 26), .lit (.int .u8 12), .lit (.int .u8 18), .lit (.int .u8 6), .lit (.int .u8 11), .lit (.int .u8 5), .lit (.int .u8 10), .lit (.int .u8 9)]
def laid_math_bits_deBruijn64tab {H : Type} : DataW H := .agg [.lit (.int .u8 0), .lit (.int .u8 1), .lit (.int .u8 56), .lit (.int .u8 2), .lit (.int .u8 57), .lit (.int .u8 49), .lit (.int .u8 28), .lit (.int .u8 3), .lit (.int .u8 61), .lit (.int .u8 58), .lit (.int .u8 42), .lit (.int .u8 50), .lit (.int .u8 38), .lit (.int .u8 29), .lit (.int .u8 17), .lit (.int .u8 4), .lit (.int .u8 62), .lit (.int .u8 47), .lit (.int .u8 59), .lit (.int .u8 36), .lit (.int .u8 45), .lit (.int .u8 43), .lit (.int .u8 51), .lit (.int .u8 22), .lit (.int .u8 53), .lit (.int .u8 39), .lit (.int .u8 33), .lit (.int .u8 30), .lit (.int .u8 24), .lit (.int .u8 18), .lit (.int .u8 12), .lit (.int .u8 5), .lit (.int .u8 63), .lit (.int .u8 55), .lit (.int .u8 48), .lit (.int .u8 27), .lit (.int .u8 60), .lit (.int .u8 41), .lit (.int .u8 37), .lit (.int .u8 16), .lit (.int .u8 46), .lit (.int .u8 35), .lit (.int .u8 44), .lit (.int .u8 21), .lit (.int .u8 52), .lit (.int .u8 32), .lit (.int .u8 23), .lit (.int .u8 11), .lit (.int .u8 54), .lit (.int .u8 26), .lit (.int .u8 40), .lit (.int .u8 15), .lit (.int .u8 34), .lit (.int .u8 20), .lit (.int .u8 31), .lit (.int .u8 10), .lit (.int .u8 25), .lit (.int .u8 14), .lit (.int .u8 19), .lit (.int .u8 9), .lit (.int .u8 13), .lit (.int .u8 8), .lit (.int .u8 7), .lit (.int .u8 6)]
def laid_internal_strconv_uint64pow10 {H : Type} : DataW H := .agg [.lit (.int .u64 1), .lit (.int .u64 10), .lit (.int .u64 100), .lit (.int .u64 1000), .lit (.int .u64 10000), .lit (.int .u64 100000), .lit (.int .u64 1000000), .lit (.int .u64 10000000), .lit (.int .u64 100000000), .lit (.int .u64 1000000000), .lit (.int .u64 10000000000), .lit (.int .u64 100000000000), .lit (.int .u64 1000000000000), .lit (.int .u64 10000000000000), .lit (.int .u64 100000000000000), .lit (.int .u64 1000000000000000), .lit (.int .u64 10000000000000000), .lit (.int .u64 100000000000000000), .lit (.int .u64 1000000000000000000), .lit (.int .u64 10000000000000000000)]
def laid_periscope_lens_words {H : Type} : DataW H := .agg [.lit (.string [99, 111, 112, 121]), .lit (.string [107, 101, 121]), .lit (.string [99, 111, 110, 115, 116]), .lit (.string [100, 101, 108]), .lit (.string [105, 110, 115]), .lit (.string []), .lit (.string []), .lit (.string []), .lit (.string [115, 119, 97, 112]), .lit (.string []), .lit (.string [105, 110, 118]), .lit (.string [100, 105, 99, 116]), .lit (.string [108, 101, 102, 116]), .lit (.string [114, 105, 103, 104, 116]), .lit (.string [107, 101, 101, 112]), .lit (.string [110, 111, 114, 109])]

/-- 'periscopelaw15.ParseExprs': WHATEVER THE INPUT: true; the input reads as it did. -/
def parseExprsSpec : ChangeSpec := { name := "parseExprs", fn := fun _ => fun
  | [d1, d2] => { results := [.lit (.bool true)], args := [d1, d2] }
  | _ => none }
def parseExprsRow : OpenClaim := { program := "ytgamknphlmcgnaagreatdoor", sum := "bc0fd560b4653e4cd858a2ae1abaed978b5d043ddc56bf78322265a03a7741cf", func := "periscope/periscopelaw15.ParseExprs", spec := "parseExprs", inPlace := ["internal/bytealg.IndexByteString", "internal/abi.NoEscape", "internal/bytealg.MakeNoZero"], unfollowed := true, recurses := true, named := ["internal/strconv.uint64pow10", "math/bits.deBruijn32tab", "math/bits.deBruijn64tab", "periscope/lens.words"], apart := false, laid := [("math/bits.deBruijn32tab", laid_math_bits_deBruijn32tab), ("math/bits.deBruijn64tab", laid_math_bits_deBruijn64tab), ("internal/strconv.uint64pow10", laid_internal_strconv_uint64pow10), ("periscope/lens.words", laid_periscope_lens_words)] }
def ParseExprsSaid : Prop := parseExprsRow.holds Tryz.pinned (OpenSpec.ofChange parseExprsSpec)

/-- ITS FALSE NEIGHBOUR: 'it returns false'. Refute it at one input. -/
def parseExprsWrong : ChangeSpec := { name := "parseExprs", fn := fun _ => fun
  | [d1, d2] => { results := [.lit (.bool false)], args := [d1, d2] }
  | _ => none }
def ParseExprsWrongFalsely : Prop := parseExprsRow.holds Tryz.pinned (OpenSpec.ofChange parseExprsWrong)

/-- 'periscopelaw11.LexParts': WHATEVER THE INPUT: true; the input reads as it did. -/
def lexPartsSpec : ChangeSpec := { name := "lexParts", fn := fun _ => fun
  | [d] => { results := [.lit (.bool true)], args := [d] }
  | _ => none }
def lexPartsRow : OpenClaim := { program := "ytgamknphlmcgnaagreatdoor", sum := "bc0fd560b4653e4cd858a2ae1abaed978b5d043ddc56bf78322265a03a7741cf", func := "periscope/periscopelaw11.LexParts", spec := "lexParts", inPlace := ["internal/bytealg.IndexByteString", "internal/abi.NoEscape", "internal/bytealg.MakeNoZero"], unfollowed := true, recurses := true, named := ["internal/strconv.uint64pow10", "math/bits.deBruijn32tab", "math/bits.deBruijn64tab"], loops := true, apart := false, laid := [("math/bits.deBruijn32tab", laid_math_bits_deBruijn32tab), ("math/bits.deBruijn64tab", laid_math_bits_deBruijn64tab), ("internal/strconv.uint64pow10", laid_internal_strconv_uint64pow10)] }
def LexPartsSaid : Prop := lexPartsRow.holds Tryz.pinned (OpenSpec.ofChange lexPartsSpec)

/-- ITS FALSE NEIGHBOUR: 'it returns false'. Refute it at one input. -/
def lexPartsWrong : ChangeSpec := { name := "lexParts", fn := fun _ => fun
  | [d] => { results := [.lit (.bool false)], args := [d] }
  | _ => none }
def LexPartsWrongFalsely : Prop := lexPartsRow.holds Tryz.pinned (OpenSpec.ofChange lexPartsWrong)

/-- 'periscopelaw04.TextReads': WHATEVER THE INPUT: true; the input reads as it did. -/
def textReadsSpec : ChangeSpec := { name := "textReads", fn := fun _ => fun
  | [d] => { results := [.lit (.bool true)], args := [d] }
  | _ => none }
def textReadsRow : OpenClaim := { program := "ytgamknphlmcgnaagreatdoor", sum := "bc0fd560b4653e4cd858a2ae1abaed978b5d043ddc56bf78322265a03a7741cf", func := "periscope/periscopelaw04.TextReads", spec := "textReads", inPlace := ["internal/bytealg.IndexByteString", "internal/abi.NoEscape", "internal/bytealg.MakeNoZero"], unfollowed := true, recurses := true, named := ["internal/strconv.uint64pow10", "math/bits.deBruijn32tab", "math/bits.deBruijn64tab"], apart := false, laid := [("math/bits.deBruijn32tab", laid_math_bits_deBruijn32tab), ("math/bits.deBruijn64tab", laid_math_bits_deBruijn64tab), ("internal/strconv.uint64pow10", laid_internal_strconv_uint64pow10)] }
def TextReadsSaid : Prop := textReadsRow.holds Tryz.pinned (OpenSpec.ofChange textReadsSpec)

/-- ITS FALSE NEIGHBOUR: 'it returns false'. Refute it at one input. -/
def textReadsWrong : ChangeSpec := { name := "textReads", fn := fun _ => fun
  | [d] => { results := [.lit (.bool false)], args := [d] }
  | _ => none }
def TextReadsWrongFalsely : Prop := textReadsRow.holds Tryz.pinned (OpenSpec.ofChange textReadsWrong)

/-- 'periscopelaw10.LensSames': WHATEVER THE INPUT: true; the input reads as it did. -/
def lensSamesSpec : ChangeSpec := { name := "lensSames", fn := fun _ => fun
  | [d1, d2, d3] => { results := [.lit (.bool true)], args := [d1, d2, d3] }
  | _ => none }
def lensSamesRow : OpenClaim := { program := "ytgamknphlmcgnaagreatdoor", sum := "bc0fd560b4653e4cd858a2ae1abaed978b5d043ddc56bf78322265a03a7741cf", func := "periscope/periscopelaw10.LensSames", spec := "lensSames", inPlace := ["internal/abi.NoEscape", "internal/bytealg.MakeNoZero", "internal/bytealg.IndexByteString"], unfollowed := true, recurses := true, named := ["internal/strconv.uint64pow10", "math/bits.deBruijn32tab", "math/bits.deBruijn64tab", "periscope/lens.words"], loops := true, apart := false, laid := [("math/bits.deBruijn32tab", laid_math_bits_deBruijn32tab), ("math/bits.deBruijn64tab", laid_math_bits_deBruijn64tab), ("internal/strconv.uint64pow10", laid_internal_strconv_uint64pow10), ("periscope/lens.words", laid_periscope_lens_words)] }
def LensSamesSaid : Prop := lensSamesRow.holds Tryz.pinned (OpenSpec.ofChange lensSamesSpec)

/-- ITS FALSE NEIGHBOUR: 'it returns false'. Refute it at one input. -/
def lensSamesWrong : ChangeSpec := { name := "lensSames", fn := fun _ => fun
  | [d1, d2, d3] => { results := [.lit (.bool false)], args := [d1, d2, d3] }
  | _ => none }
def LensSamesWrongFalsely : Prop := lensSamesRow.holds Tryz.pinned (OpenSpec.ofChange lensSamesWrong)

/-- 'periscopelaw15.ParseLevels': WHATEVER THE INPUT: true; the input reads as it did. -/
def parseLevelsSpec : ChangeSpec := { name := "parseLevels", fn := fun _ => fun
  | [d1, d2] => { results := [.lit (.bool true)], args := [d1, d2] }
  | _ => none }
def parseLevelsRow : OpenClaim := { program := "ytgamknphlmcgnaagreatdoor", sum := "bc0fd560b4653e4cd858a2ae1abaed978b5d043ddc56bf78322265a03a7741cf", func := "periscope/periscopelaw15.ParseLevels", spec := "parseLevels", inPlace := ["internal/bytealg.IndexByteString", "internal/abi.NoEscape", "internal/bytealg.MakeNoZero"], unfollowed := true, recurses := true, named := ["internal/strconv.uint64pow10", "math/bits.deBruijn32tab", "math/bits.deBruijn64tab", "periscope/lens.words"], apart := false, laid := [("math/bits.deBruijn32tab", laid_math_bits_deBruijn32tab), ("math/bits.deBruijn64tab", laid_math_bits_deBruijn64tab), ("internal/strconv.uint64pow10", laid_internal_strconv_uint64pow10), ("periscope/lens.words", laid_periscope_lens_words)] }
def ParseLevelsSaid : Prop := parseLevelsRow.holds Tryz.pinned (OpenSpec.ofChange parseLevelsSpec)

/-- ITS FALSE NEIGHBOUR: 'it returns false'. Refute it at one input. -/
def parseLevelsWrong : ChangeSpec := { name := "parseLevels", fn := fun _ => fun
  | [d1, d2] => { results := [.lit (.bool false)], args := [d1, d2] }
  | _ => none }
def ParseLevelsWrongFalsely : Prop := parseLevelsRow.holds Tryz.pinned (OpenSpec.ofChange parseLevelsWrong)

/-- 'periscopelaw15.ParseGrammar': WHATEVER THE INPUT: true; the input reads as it did. -/
def parseGrammarSpec : ChangeSpec := { name := "parseGrammar", fn := fun _ => fun
  | [d1, d2] => { results := [.lit (.bool true)], args := [d1, d2] }
  | _ => none }
def parseGrammarRow : OpenClaim := { program := "ytgamknphlmcgnaagreatdoor", sum := "bc0fd560b4653e4cd858a2ae1abaed978b5d043ddc56bf78322265a03a7741cf", func := "periscope/periscopelaw15.ParseGrammar", spec := "parseGrammar", inPlace := ["internal/bytealg.IndexByteString", "internal/abi.NoEscape", "internal/bytealg.MakeNoZero"], unfollowed := true, recurses := true, named := ["internal/strconv.uint64pow10", "math/bits.deBruijn32tab", "math/bits.deBruijn64tab", "periscope/lens.words"], loops := true, apart := false, laid := [("math/bits.deBruijn32tab", laid_math_bits_deBruijn32tab), ("math/bits.deBruijn64tab", laid_math_bits_deBruijn64tab), ("internal/strconv.uint64pow10", laid_internal_strconv_uint64pow10), ("periscope/lens.words", laid_periscope_lens_words)] }
def ParseGrammarSaid : Prop := parseGrammarRow.holds Tryz.pinned (OpenSpec.ofChange parseGrammarSpec)

/-- ITS FALSE NEIGHBOUR: 'it returns false'. Refute it at one input. -/
def parseGrammarWrong : ChangeSpec := { name := "parseGrammar", fn := fun _ => fun
  | [d1, d2] => { results := [.lit (.bool false)], args := [d1, d2] }
  | _ => none }
def ParseGrammarWrongFalsely : Prop := parseGrammarRow.holds Tryz.pinned (OpenSpec.ofChange parseGrammarWrong)

/-- 'periscopelaw15.ParseReads': WHATEVER THE INPUT: true; the input reads as it did. -/
def parseReadsSpec : ChangeSpec := { name := "parseReads", fn := fun _ => fun
  | [d] => { results := [.lit (.bool true)], args := [d] }
  | _ => none }
def parseReadsRow : OpenClaim := { program := "ytgamknphlmcgnaagreatdoor", sum := "bc0fd560b4653e4cd858a2ae1abaed978b5d043ddc56bf78322265a03a7741cf", func := "periscope/periscopelaw15.ParseReads", spec := "parseReads", inPlace := ["internal/bytealg.IndexByteString", "internal/abi.NoEscape", "internal/bytealg.MakeNoZero"], unfollowed := true, recurses := true, named := ["internal/strconv.uint64pow10", "math/bits.deBruijn32tab", "math/bits.deBruijn64tab", "periscope/lens.words"], apart := false, laid := [("math/bits.deBruijn32tab", laid_math_bits_deBruijn32tab), ("math/bits.deBruijn64tab", laid_math_bits_deBruijn64tab), ("internal/strconv.uint64pow10", laid_internal_strconv_uint64pow10), ("periscope/lens.words", laid_periscope_lens_words)] }
def ParseReadsSaid : Prop := parseReadsRow.holds Tryz.pinned (OpenSpec.ofChange parseReadsSpec)

/-- ITS FALSE NEIGHBOUR: 'it returns false'. Refute it at one input. -/
def parseReadsWrong : ChangeSpec := { name := "parseReads", fn := fun _ => fun
  | [d] => { results := [.lit (.bool false)], args := [d] }
  | _ => none }
def ParseReadsWrongFalsely : Prop := parseReadsRow.holds Tryz.pinned (OpenSpec.ofChange parseReadsWrong)

/-- 'periscopelaw15.ParseAgain': WHATEVER THE INPUT: true; the input reads as it did. -/
def parseAgainSpec : ChangeSpec := { name := "parseAgain", fn := fun _ => fun
  | [d1, d2] => { results := [.lit (.bool true)], args := [d1, d2] }
  | _ => none }
def parseAgainRow : OpenClaim := { program := "ytgamknphlmcgnaagreatdoor", sum := "bc0fd560b4653e4cd858a2ae1abaed978b5d043ddc56bf78322265a03a7741cf", func := "periscope/periscopelaw15.ParseAgain", spec := "parseAgain", inPlace := ["internal/bytealg.IndexByteString", "internal/abi.NoEscape", "internal/bytealg.MakeNoZero"], unfollowed := true, recurses := true, named := ["internal/strconv.uint64pow10", "math/bits.deBruijn32tab", "math/bits.deBruijn64tab", "periscope/lens.words"], loops := true, apart := false, laid := [("math/bits.deBruijn32tab", laid_math_bits_deBruijn32tab), ("math/bits.deBruijn64tab", laid_math_bits_deBruijn64tab), ("internal/strconv.uint64pow10", laid_internal_strconv_uint64pow10), ("periscope/lens.words", laid_periscope_lens_words)] }
def ParseAgainSaid : Prop := parseAgainRow.holds Tryz.pinned (OpenSpec.ofChange parseAgainSpec)

/-- ITS FALSE NEIGHBOUR: 'it returns false'. Refute it at one input. -/
def parseAgainWrong : ChangeSpec := { name := "parseAgain", fn := fun _ => fun
  | [d1, d2] => { results := [.lit (.bool false)], args := [d1, d2] }
  | _ => none }
def ParseAgainWrongFalsely : Prop := parseAgainRow.holds Tryz.pinned (OpenSpec.ofChange parseAgainWrong)

/-- 'periscopelaw16.BindDeep': WHATEVER THE INPUT: true; the input reads as it did. -/
def bindDeepSpec : ChangeSpec := { name := "bindDeep", fn := fun _ => fun
  | [d1, d2] => { results := [.lit (.bool true)], args := [d1, d2] }
  | _ => none }
def bindDeepRow : OpenClaim := { program := "ytgamknphlmcgnaagreatdoor", sum := "bc0fd560b4653e4cd858a2ae1abaed978b5d043ddc56bf78322265a03a7741cf", func := "periscope/periscopelaw16.BindDeep", spec := "bindDeep", inPlace := ["internal/bytealg.IndexByteString", "internal/abi.NoEscape", "internal/bytealg.MakeNoZero"], unfollowed := true, recurses := true, named := ["internal/strconv.uint64pow10", "math/bits.deBruijn32tab", "math/bits.deBruijn64tab", "periscope/lens.words"], apart := false, laid := [("math/bits.deBruijn32tab", laid_math_bits_deBruijn32tab), ("math/bits.deBruijn64tab", laid_math_bits_deBruijn64tab), ("internal/strconv.uint64pow10", laid_internal_strconv_uint64pow10), ("periscope/lens.words", laid_periscope_lens_words)] }
def BindDeepSaid : Prop := bindDeepRow.holds Tryz.pinned (OpenSpec.ofChange bindDeepSpec)

/-- ITS FALSE NEIGHBOUR: 'it returns false'. Refute it at one input. -/
def bindDeepWrong : ChangeSpec := { name := "bindDeep", fn := fun _ => fun
  | [d1, d2] => { results := [.lit (.bool false)], args := [d1, d2] }
  | _ => none }
def BindDeepWrongFalsely : Prop := bindDeepRow.holds Tryz.pinned (OpenSpec.ofChange bindDeepWrong)

/-- 'periscopelaw16.BindErrors': WHATEVER THE INPUT: true; the input reads as it did. -/
def bindErrorsSpec : ChangeSpec := { name := "bindErrors", fn := fun _ => fun
  | [d] => { results := [.lit (.bool true)], args := [d] }
  | _ => none }
def bindErrorsRow : OpenClaim := { program := "ytgamknphlmcgnaagreatdoor", sum := "bc0fd560b4653e4cd858a2ae1abaed978b5d043ddc56bf78322265a03a7741cf", func := "periscope/periscopelaw16.BindErrors", spec := "bindErrors", inPlace := ["internal/bytealg.IndexByteString", "internal/abi.NoEscape", "internal/bytealg.MakeNoZero"], unfollowed := true, recurses := true, named := ["internal/strconv.uint64pow10", "math/bits.deBruijn32tab", "math/bits.deBruijn64tab", "periscope/lens.words"], apart := false, laid := [("math/bits.deBruijn32tab", laid_math_bits_deBruijn32tab), ("math/bits.deBruijn64tab", laid_math_bits_deBruijn64tab), ("internal/strconv.uint64pow10", laid_internal_strconv_uint64pow10), ("periscope/lens.words", laid_periscope_lens_words)] }
def BindErrorsSaid : Prop := bindErrorsRow.holds Tryz.pinned (OpenSpec.ofChange bindErrorsSpec)

/-- ITS FALSE NEIGHBOUR: 'it returns false'. Refute it at one input. -/
def bindErrorsWrong : ChangeSpec := { name := "bindErrors", fn := fun _ => fun
  | [d] => { results := [.lit (.bool false)], args := [d] }
  | _ => none }
def BindErrorsWrongFalsely : Prop := bindErrorsRow.holds Tryz.pinned (OpenSpec.ofChange bindErrorsWrong)

/-- 'periscopelaw16.BindGrows': WHATEVER THE INPUT: true; the input reads as it did. -/
def bindGrowsSpec : ChangeSpec := { name := "bindGrows", fn := fun _ => fun
  | [d1, d2] => { results := [.lit (.bool true)], args := [d1, d2] }
  | _ => none }
def bindGrowsRow : OpenClaim := { program := "ytgamknphlmcgnaagreatdoor", sum := "bc0fd560b4653e4cd858a2ae1abaed978b5d043ddc56bf78322265a03a7741cf", func := "periscope/periscopelaw16.BindGrows", spec := "bindGrows", inPlace := ["internal/bytealg.IndexByteString", "internal/abi.NoEscape", "internal/bytealg.MakeNoZero"], unfollowed := true, recurses := true, named := ["internal/strconv.uint64pow10", "math/bits.deBruijn32tab", "math/bits.deBruijn64tab", "periscope/lens.words"], apart := false, laid := [("math/bits.deBruijn32tab", laid_math_bits_deBruijn32tab), ("math/bits.deBruijn64tab", laid_math_bits_deBruijn64tab), ("internal/strconv.uint64pow10", laid_internal_strconv_uint64pow10), ("periscope/lens.words", laid_periscope_lens_words)] }
def BindGrowsSaid : Prop := bindGrowsRow.holds Tryz.pinned (OpenSpec.ofChange bindGrowsSpec)

/-- ITS FALSE NEIGHBOUR: 'it returns false'. Refute it at one input. -/
def bindGrowsWrong : ChangeSpec := { name := "bindGrows", fn := fun _ => fun
  | [d1, d2] => { results := [.lit (.bool false)], args := [d1, d2] }
  | _ => none }
def BindGrowsWrongFalsely : Prop := bindGrowsRow.holds Tryz.pinned (OpenSpec.ofChange bindGrowsWrong)

/-- 'periscopelaw16.BindNames': WHATEVER THE INPUT: true; the input reads as it did. -/
def bindNamesSpec : ChangeSpec := { name := "bindNames", fn := fun _ => fun
  | [d] => { results := [.lit (.bool true)], args := [d] }
  | _ => none }
def bindNamesRow : OpenClaim := { program := "ytgamknphlmcgnaagreatdoor", sum := "bc0fd560b4653e4cd858a2ae1abaed978b5d043ddc56bf78322265a03a7741cf", func := "periscope/periscopelaw16.BindNames", spec := "bindNames", inPlace := ["internal/bytealg.IndexByteString", "internal/abi.NoEscape", "internal/bytealg.MakeNoZero"], unfollowed := true, recurses := true, named := ["internal/strconv.uint64pow10", "math/bits.deBruijn32tab", "math/bits.deBruijn64tab", "periscope/lens.words"], loops := true, apart := false, laid := [("math/bits.deBruijn32tab", laid_math_bits_deBruijn32tab), ("math/bits.deBruijn64tab", laid_math_bits_deBruijn64tab), ("internal/strconv.uint64pow10", laid_internal_strconv_uint64pow10), ("periscope/lens.words", laid_periscope_lens_words)] }
def BindNamesSaid : Prop := bindNamesRow.holds Tryz.pinned (OpenSpec.ofChange bindNamesSpec)

/-- ITS FALSE NEIGHBOUR: 'it returns false'. Refute it at one input. -/
def bindNamesWrong : ChangeSpec := { name := "bindNames", fn := fun _ => fun
  | [d] => { results := [.lit (.bool false)], args := [d] }
  | _ => none }
def BindNamesWrongFalsely : Prop := bindNamesRow.holds Tryz.pinned (OpenSpec.ofChange bindNamesWrong)

/- THE SECOND FORM. 'bulk': how many values and letters a reading holds, each counted each time it is reached (what is shared counts as often as it is met; a slice's spare places count too). A statement '..UptoSaid' is the law's where the arguments, and the package variables that the reading takes, are together of bulk at most 1048576: NARROWER than '..Said'. Prove '..Said' where nothing that the law and all that it calls make is longer than what came in: it says more and counts as full. Else prove '..UptoSaid'. A law counts once. -/
mutual
def uptoBulk {H : Type} : DataW H → Nat
  | .lit (.string bytes) => bytes.length + 1
  | .lit _ => 1
  | .nil => 1
  | .ptr d => uptoBulk d + 1
  | .slice elems spare => uptoBulkAll elems + uptoBulkAll spare + 1
  | .agg parts => uptoBulkAll parts + 1
  | .iface _ d => uptoBulk d + 1
  | .map entries => uptoBulkEntries entries + 1
  | .held _ => 1
def uptoBulkAll {H : Type} : List (DataW H) → Nat
  | [] => 0
  | d :: r => uptoBulk d + uptoBulkAll r
def uptoBulkEntries {H : Type} : List (Lit × DataW H) → Nat
  | [] => 0
  | x :: r => uptoBulkEntry x + uptoBulkEntries r
def uptoBulkEntry {H : Type} : Lit × DataW H → Nat
  | (.string bytes, d) => bytes.length + uptoBulk d + 1
  | (_, d) => uptoBulk d + 1
 end
def uptoSmall : (H : Type) → List (DataW H) → Bool := fun _ ds => decide (uptoBulkAll ds ≤ 1048576)
def OpenSpec.upto (s : _root_.Go.ChangeSpec) : _root_.Go.OpenSpec := { _root_.Go.OpenSpec.ofChange s with cond := some uptoSmall }

/-- 'periscopelaw15.ParseExprs', WHERE WHAT IT READS IS OF BULK AT MOST 1048576: true; the input reads as it did. -/
def parseExprsUptoRow : OpenClaim := { program := "ytgamknphlmcgnaagreatdoor", sum := "bc0fd560b4653e4cd858a2ae1abaed978b5d043ddc56bf78322265a03a7741cf", func := "periscope/periscopelaw15.ParseExprs", spec := "parseExprs", inPlace := ["internal/bytealg.IndexByteString", "internal/abi.NoEscape", "internal/bytealg.MakeNoZero"], unfollowed := true, recurses := true, named := ["internal/strconv.uint64pow10", "math/bits.deBruijn32tab", "math/bits.deBruijn64tab", "periscope/lens.words"], apart := false, laid := [("math/bits.deBruijn32tab", laid_math_bits_deBruijn32tab), ("math/bits.deBruijn64tab", laid_math_bits_deBruijn64tab), ("internal/strconv.uint64pow10", laid_internal_strconv_uint64pow10), ("periscope/lens.words", laid_periscope_lens_words)], narrowed := true }
def ParseExprsUptoSaid : Prop := parseExprsUptoRow.holds Tryz.pinned (OpenSpec.upto parseExprsSpec)

/-- 'periscopelaw11.LexParts', WHERE WHAT IT READS IS OF BULK AT MOST 1048576: true; the input reads as it did. -/
def lexPartsUptoRow : OpenClaim := { program := "ytgamknphlmcgnaagreatdoor", sum := "bc0fd560b4653e4cd858a2ae1abaed978b5d043ddc56bf78322265a03a7741cf", func := "periscope/periscopelaw11.LexParts", spec := "lexParts", inPlace := ["internal/bytealg.IndexByteString", "internal/abi.NoEscape", "internal/bytealg.MakeNoZero"], unfollowed := true, recurses := true, named := ["internal/strconv.uint64pow10", "math/bits.deBruijn32tab", "math/bits.deBruijn64tab"], loops := true, apart := false, laid := [("math/bits.deBruijn32tab", laid_math_bits_deBruijn32tab), ("math/bits.deBruijn64tab", laid_math_bits_deBruijn64tab), ("internal/strconv.uint64pow10", laid_internal_strconv_uint64pow10)], narrowed := true }
def LexPartsUptoSaid : Prop := lexPartsUptoRow.holds Tryz.pinned (OpenSpec.upto lexPartsSpec)

/-- 'periscopelaw04.TextReads', WHERE WHAT IT READS IS OF BULK AT MOST 1048576: true; the input reads as it did. -/
def textReadsUptoRow : OpenClaim := { program := "ytgamknphlmcgnaagreatdoor", sum := "bc0fd560b4653e4cd858a2ae1abaed978b5d043ddc56bf78322265a03a7741cf", func := "periscope/periscopelaw04.TextReads", spec := "textReads", inPlace := ["internal/bytealg.IndexByteString", "internal/abi.NoEscape", "internal/bytealg.MakeNoZero"], unfollowed := true, recurses := true, named := ["internal/strconv.uint64pow10", "math/bits.deBruijn32tab", "math/bits.deBruijn64tab"], apart := false, laid := [("math/bits.deBruijn32tab", laid_math_bits_deBruijn32tab), ("math/bits.deBruijn64tab", laid_math_bits_deBruijn64tab), ("internal/strconv.uint64pow10", laid_internal_strconv_uint64pow10)], narrowed := true }
def TextReadsUptoSaid : Prop := textReadsUptoRow.holds Tryz.pinned (OpenSpec.upto textReadsSpec)

/-- 'periscopelaw10.LensSames', WHERE WHAT IT READS IS OF BULK AT MOST 1048576: true; the input reads as it did. -/
def lensSamesUptoRow : OpenClaim := { program := "ytgamknphlmcgnaagreatdoor", sum := "bc0fd560b4653e4cd858a2ae1abaed978b5d043ddc56bf78322265a03a7741cf", func := "periscope/periscopelaw10.LensSames", spec := "lensSames", inPlace := ["internal/abi.NoEscape", "internal/bytealg.MakeNoZero", "internal/bytealg.IndexByteString"], unfollowed := true, recurses := true, named := ["internal/strconv.uint64pow10", "math/bits.deBruijn32tab", "math/bits.deBruijn64tab", "periscope/lens.words"], loops := true, apart := false, laid := [("math/bits.deBruijn32tab", laid_math_bits_deBruijn32tab), ("math/bits.deBruijn64tab", laid_math_bits_deBruijn64tab), ("internal/strconv.uint64pow10", laid_internal_strconv_uint64pow10), ("periscope/lens.words", laid_periscope_lens_words)], narrowed := true }
def LensSamesUptoSaid : Prop := lensSamesUptoRow.holds Tryz.pinned (OpenSpec.upto lensSamesSpec)

/-- 'periscopelaw15.ParseLevels', WHERE WHAT IT READS IS OF BULK AT MOST 1048576: true; the input reads as it did. -/
def parseLevelsUptoRow : OpenClaim := { program := "ytgamknphlmcgnaagreatdoor", sum := "bc0fd560b4653e4cd858a2ae1abaed978b5d043ddc56bf78322265a03a7741cf", func := "periscope/periscopelaw15.ParseLevels", spec := "parseLevels", inPlace := ["internal/bytealg.IndexByteString", "internal/abi.NoEscape", "internal/bytealg.MakeNoZero"], unfollowed := true, recurses := true, named := ["internal/strconv.uint64pow10", "math/bits.deBruijn32tab", "math/bits.deBruijn64tab", "periscope/lens.words"], apart := false, laid := [("math/bits.deBruijn32tab", laid_math_bits_deBruijn32tab), ("math/bits.deBruijn64tab", laid_math_bits_deBruijn64tab), ("internal/strconv.uint64pow10", laid_internal_strconv_uint64pow10), ("periscope/lens.words", laid_periscope_lens_words)], narrowed := true }
def ParseLevelsUptoSaid : Prop := parseLevelsUptoRow.holds Tryz.pinned (OpenSpec.upto parseLevelsSpec)

/-- 'periscopelaw15.ParseGrammar', WHERE WHAT IT READS IS OF BULK AT MOST 1048576: true; the input reads as it did. -/
def parseGrammarUptoRow : OpenClaim := { program := "ytgamknphlmcgnaagreatdoor", sum := "bc0fd560b4653e4cd858a2ae1abaed978b5d043ddc56bf78322265a03a7741cf", func := "periscope/periscopelaw15.ParseGrammar", spec := "parseGrammar", inPlace := ["internal/bytealg.IndexByteString", "internal/abi.NoEscape", "internal/bytealg.MakeNoZero"], unfollowed := true, recurses := true, named := ["internal/strconv.uint64pow10", "math/bits.deBruijn32tab", "math/bits.deBruijn64tab", "periscope/lens.words"], loops := true, apart := false, laid := [("math/bits.deBruijn32tab", laid_math_bits_deBruijn32tab), ("math/bits.deBruijn64tab", laid_math_bits_deBruijn64tab), ("internal/strconv.uint64pow10", laid_internal_strconv_uint64pow10), ("periscope/lens.words", laid_periscope_lens_words)], narrowed := true }
def ParseGrammarUptoSaid : Prop := parseGrammarUptoRow.holds Tryz.pinned (OpenSpec.upto parseGrammarSpec)

/-- 'periscopelaw15.ParseReads', WHERE WHAT IT READS IS OF BULK AT MOST 1048576: true; the input reads as it did. -/
def parseReadsUptoRow : OpenClaim := { program := "ytgamknphlmcgnaagreatdoor", sum := "bc0fd560b4653e4cd858a2ae1abaed978b5d043ddc56bf78322265a03a7741cf", func := "periscope/periscopelaw15.ParseReads", spec := "parseReads", inPlace := ["internal/bytealg.IndexByteString", "internal/abi.NoEscape", "internal/bytealg.MakeNoZero"], unfollowed := true, recurses := true, named := ["internal/strconv.uint64pow10", "math/bits.deBruijn32tab", "math/bits.deBruijn64tab", "periscope/lens.words"], apart := false, laid := [("math/bits.deBruijn32tab", laid_math_bits_deBruijn32tab), ("math/bits.deBruijn64tab", laid_math_bits_deBruijn64tab), ("internal/strconv.uint64pow10", laid_internal_strconv_uint64pow10), ("periscope/lens.words", laid_periscope_lens_words)], narrowed := true }
def ParseReadsUptoSaid : Prop := parseReadsUptoRow.holds Tryz.pinned (OpenSpec.upto parseReadsSpec)

/-- 'periscopelaw15.ParseAgain', WHERE WHAT IT READS IS OF BULK AT MOST 1048576: true; the input reads as it did. -/
def parseAgainUptoRow : OpenClaim := { program := "ytgamknphlmcgnaagreatdoor", sum := "bc0fd560b4653e4cd858a2ae1abaed978b5d043ddc56bf78322265a03a7741cf", func := "periscope/periscopelaw15.ParseAgain", spec := "parseAgain", inPlace := ["internal/bytealg.IndexByteString", "internal/abi.NoEscape", "internal/bytealg.MakeNoZero"], unfollowed := true, recurses := true, named := ["internal/strconv.uint64pow10", "math/bits.deBruijn32tab", "math/bits.deBruijn64tab", "periscope/lens.words"], loops := true, apart := false, laid := [("math/bits.deBruijn32tab", laid_math_bits_deBruijn32tab), ("math/bits.deBruijn64tab", laid_math_bits_deBruijn64tab), ("internal/strconv.uint64pow10", laid_internal_strconv_uint64pow10), ("periscope/lens.words", laid_periscope_lens_words)], narrowed := true }
def ParseAgainUptoSaid : Prop := parseAgainUptoRow.holds Tryz.pinned (OpenSpec.upto parseAgainSpec)

/-- 'periscopelaw16.BindDeep', WHERE WHAT IT READS IS OF BULK AT MOST 1048576: true; the input reads as it did. -/
def bindDeepUptoRow : OpenClaim := { program := "ytgamknphlmcgnaagreatdoor", sum := "bc0fd560b4653e4cd858a2ae1abaed978b5d043ddc56bf78322265a03a7741cf", func := "periscope/periscopelaw16.BindDeep", spec := "bindDeep", inPlace := ["internal/bytealg.IndexByteString", "internal/abi.NoEscape", "internal/bytealg.MakeNoZero"], unfollowed := true, recurses := true, named := ["internal/strconv.uint64pow10", "math/bits.deBruijn32tab", "math/bits.deBruijn64tab", "periscope/lens.words"], apart := false, laid := [("math/bits.deBruijn32tab", laid_math_bits_deBruijn32tab), ("math/bits.deBruijn64tab", laid_math_bits_deBruijn64tab), ("internal/strconv.uint64pow10", laid_internal_strconv_uint64pow10), ("periscope/lens.words", laid_periscope_lens_words)], narrowed := true }
def BindDeepUptoSaid : Prop := bindDeepUptoRow.holds Tryz.pinned (OpenSpec.upto bindDeepSpec)

/-- 'periscopelaw16.BindErrors', WHERE WHAT IT READS IS OF BULK AT MOST 1048576: true; the input reads as it did. -/
def bindErrorsUptoRow : OpenClaim := { program := "ytgamknphlmcgnaagreatdoor", sum := "bc0fd560b4653e4cd858a2ae1abaed978b5d043ddc56bf78322265a03a7741cf", func := "periscope/periscopelaw16.BindErrors", spec := "bindErrors", inPlace := ["internal/bytealg.IndexByteString", "internal/abi.NoEscape", "internal/bytealg.MakeNoZero"], unfollowed := true, recurses := true, named := ["internal/strconv.uint64pow10", "math/bits.deBruijn32tab", "math/bits.deBruijn64tab", "periscope/lens.words"], apart := false, laid := [("math/bits.deBruijn32tab", laid_math_bits_deBruijn32tab), ("math/bits.deBruijn64tab", laid_math_bits_deBruijn64tab), ("internal/strconv.uint64pow10", laid_internal_strconv_uint64pow10), ("periscope/lens.words", laid_periscope_lens_words)], narrowed := true }
def BindErrorsUptoSaid : Prop := bindErrorsUptoRow.holds Tryz.pinned (OpenSpec.upto bindErrorsSpec)

/-- 'periscopelaw16.BindGrows', WHERE WHAT IT READS IS OF BULK AT MOST 1048576: true; the input reads as it did. -/
def bindGrowsUptoRow : OpenClaim := { program := "ytgamknphlmcgnaagreatdoor", sum := "bc0fd560b4653e4cd858a2ae1abaed978b5d043ddc56bf78322265a03a7741cf", func := "periscope/periscopelaw16.BindGrows", spec := "bindGrows", inPlace := ["internal/bytealg.IndexByteString", "internal/abi.NoEscape", "internal/bytealg.MakeNoZero"], unfollowed := true, recurses := true, named := ["internal/strconv.uint64pow10", "math/bits.deBruijn32tab", "math/bits.deBruijn64tab", "periscope/lens.words"], apart := false, laid := [("math/bits.deBruijn32tab", laid_math_bits_deBruijn32tab), ("math/bits.deBruijn64tab", laid_math_bits_deBruijn64tab), ("internal/strconv.uint64pow10", laid_internal_strconv_uint64pow10), ("periscope/lens.words", laid_periscope_lens_words)], narrowed := true }
def BindGrowsUptoSaid : Prop := bindGrowsUptoRow.holds Tryz.pinned (OpenSpec.upto bindGrowsSpec)

/-- 'periscopelaw16.BindNames', WHERE WHAT IT READS IS OF BULK AT MOST 1048576: true; the input reads as it did. -/
def bindNamesUptoRow : OpenClaim := { program := "ytgamknphlmcgnaagreatdoor", sum := "bc0fd560b4653e4cd858a2ae1abaed978b5d043ddc56bf78322265a03a7741cf", func := "periscope/periscopelaw16.BindNames", spec := "bindNames", inPlace := ["internal/bytealg.IndexByteString", "internal/abi.NoEscape", "internal/bytealg.MakeNoZero"], unfollowed := true, recurses := true, named := ["internal/strconv.uint64pow10", "math/bits.deBruijn32tab", "math/bits.deBruijn64tab", "periscope/lens.words"], loops := true, apart := false, laid := [("math/bits.deBruijn32tab", laid_math_bits_deBruijn32tab), ("math/bits.deBruijn64tab", laid_math_bits_deBruijn64tab), ("internal/strconv.uint64pow10", laid_internal_strconv_uint64pow10), ("periscope/lens.words", laid_periscope_lens_words)], narrowed := true }
def BindNamesUptoSaid : Prop := bindNamesUptoRow.holds Tryz.pinned (OpenSpec.upto bindNamesSpec)

end Rows
end Go.Proofs.YtgamknphlmcgnaaGreatDoor
