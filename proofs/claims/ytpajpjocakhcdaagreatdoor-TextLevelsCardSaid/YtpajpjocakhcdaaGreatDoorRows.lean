/-
  NARROWER THAN 'FOR EVERY INPUT', by the rows' own cells (each row's printed sentence says how): LensTexts: loops, laid · LensWalks: loops, laid · LensNests: loops, laid · LensSames: loops, laid · TextReads: laid · TextBytes: laid · TextLevels: laid · TextErrors: laid · TextAgain: loops, laid · TextDeep: laid.
  DERIVED. THE GIVEN ROWS OF THIS SEAT. 10 by the template 'for every input the law returns true; each argument reads behind the call as it read before'; 0 by the template 'total and deterministic' (their statements: YtpajpjocakhcdaaGreatDoorTotals.lean).
  GIVEN WITH THE SEED: the statements are not yours to turn. If you find one false, say at which input.
  Laid BY PROGRAM, IN A SANDBOX (cutbox-rows.mjs): the forced cells as the released guide's own fill.sh prints them over the translation 932bd6d70880f1a9… (all of the seat's roots in one cut). By AI agents, Wed Nov 11 2026. No macro, syntax, notation, axiom, sorry.
-/
import Derived.Test.YtpajpjocakhcdaaGreatDoorChecked
import GoSem.Claim
import GoSem.ClaimJoined
import GoSem.ClaimMapViews
import Derived.JoinedTies
import Derived.KernelRfl
namespace Go.Proofs.YtpajpjocakhcdaaGreatDoor
/- THE CELL 'sum', in the pinned program and in every row, IS THE sha256 OF THE DUMP (.gsa) THAT YtpajpjocakhcdaaGreatDoorProg.lean LOADS. Nothing in Lean hashes anything: it is a label: what it is worth is what the hold of that sum in a sandbox is worth. -/
noncomputable def Tryz.pinned : Pinned := { name := "ytpajpjocakhcdaagreatdoor", sum := "932bd6d70880f1a9c48512e89134ec921f0be670e6a099512477ba76e49cc790", checked := Tryz.checked }
namespace Rows
def none {H : Type} : Left H := { results := [], args := [] }

/- WHAT THE LISTED PACKAGE-LEVEL VARIABLES READ AS WHEN THE CALL BEGINS. Each datum BY PROGRAM (the guide's laid-datum.mjs) off the statement by which the dump's own 'gosem.cut.vars' lays the variable. In a bare row this is a premise. The card (YtpajpjocakhcdaaGreatDoorCards.lean) ties it to the program's text. -/
def laid_math_bits_deBruijn32tab {H : Type} : DataW H := .agg [.lit (.int .u8 0), .lit (.int .u8 1), .lit (.int .u8 28), .lit (.int .u8 2), .lit (.int .u8 29), .lit (.int .u8 14), .lit (.int .u8 24), .lit (.int .u8 3), .lit (.int .u8 30), .lit (.int .u8 22), .lit (.int .u8 20), .lit (.int .u8 15), .lit (.int .u8 25), .lit (.int .u8 17), .lit (.int .u8 4), .lit (.int .u8 8), .lit (.int .u8 31), .lit (.int .u8 27), .lit (.int .u8 13), .lit (.int .u8 23), .lit (.int .u8 21), .lit (.int .u8 19), .lit (.int .u8 16), .lit (.int .u8 7), .lit (.int .u8 26), .lit (.int .u8 12), .lit (.int .u8 18), .lit (.int .u8 6), .lit (.int .u8 11), .lit (.int .u8 5), .lit (.int .u8 10), .lit (.int .u8 9)]
def laid_math_bits_deBruijn64tab {H : Type} : DataW H := .agg [.lit (.int .u8 0), .lit (.int .u8 1), .lit (.int .u8 56), .lit (.int .u8 2), .lit (.int .u8 57), .lit (.int .u8 49), .lit (.int .u8 28), .lit (.int .u8 3), .lit (.int .u8 61), .lit (.int .u8 58), .lit (.int .u8 42), .lit (.int .u8 50), .lit (.int .u8 38), .lit (.int .u8 29), .lit (.int .u8 17), .lit (.int .u8 4), .lit (.int .u8 62), .lit (.int .u8 47), .lit (.int .u8 59), .lit (.int .u8 36), .lit (.int .u8 45), .lit (.int .u8 43), .lit (.int .u8 51), .lit (.int .u8 22), .lit (.int .u8 53), .lit (.int .u8 39), .lit (.int .u8 33), .lit (.int .u8 30), .lit (.int .u8 24), .lit (.int .u8 18), .lit (.int .u8 12), .lit (.int .u8 5), .lit (.int .u8 63), .lit (.int .u8 55), .lit (.int .u8 48), .lit (.int .u8 27), .lit (.int .u8 60), .lit (.int .u8 41), .lit (.int .u8 37), .lit (.int .u8 16), .lit (.int .u8 46), .lit (.int .u8 35), .lit (.int .u8 44), .lit (.int .u8 21), .lit (.int .u8 52), .lit (.int .u8 32), .lit (.int .u8 23), .lit (.int .u8 11), .lit (.int .u8 54), .lit (.int .u8 26), .lit (.int .u8 40), .lit (.int .u8 15), .lit (.int .u8 34), .lit (.int .u8 20), .lit (.int .u8 31), .lit (.int .u8 10), .lit (.int .u8 25), .lit (.int .u8 14), .lit (.int .u8 19), .lit (.int .u8 9), .lit (.int .u8 13), .lit (.int .u8 8), .lit (.int .u8 7), .lit (.int .u8 6)]
def laid_internal_strconv_uint64pow10 {H : Type} : DataW H := .agg [.lit (.int .u64 1), .lit (.int .u64 10), .lit (.int .u64 100), .lit (.int .u64 1000), .lit (.int .u64 10000), .lit (.int .u64 100000), .lit (.int .u64 1000000), .lit (.int .u64 10000000), .lit (.int .u64 100000000), .lit (.int .u64 1000000000), .lit (.int .u64 10000000000), .lit (.int .u64 100000000000), .lit (.int .u64 1000000000000), .lit (.int .u64 10000000000000), .lit (.int .u64 100000000000000), .lit (.int .u64 1000000000000000), .lit (.int .u64 10000000000000000), .lit (.int .u64 100000000000000000), .lit (.int .u64 1000000000000000000), .lit (.int .u64 10000000000000000000)]
def laid_periscope_lens_words {H : Type} : DataW H := .agg [.lit (.string [99, 111, 112, 121]), .lit (.string [107, 101, 121]), .lit (.string [99, 111, 110, 115, 116]), .lit (.string [100, 101, 108]), .lit (.string [105, 110, 115]), .lit (.string []), .lit (.string []), .lit (.string []), .lit (.string [115, 119, 97, 112]), .lit (.string []), .lit (.string [105, 110, 118]), .lit (.string [100, 105, 99, 116]), .lit (.string [108, 101, 102, 116]), .lit (.string [114, 105, 103, 104, 116]), .lit (.string [107, 101, 101, 112]), .lit (.string [110, 111, 114, 109])]

/-- 'periscopelaw10.LensTexts': WHATEVER THE INPUT: true; the input reads as it did. -/
def lensTextsSpec : ChangeSpec := { name := "lensTexts", fn := fun _ => fun
  | [d] => { results := [.lit (.bool true)], args := [d] }
  | _ => none }
def lensTextsRow : OpenClaim := { program := "ytpajpjocakhcdaagreatdoor", sum := "932bd6d70880f1a9c48512e89134ec921f0be670e6a099512477ba76e49cc790", func := "periscope/periscopelaw10.LensTexts", spec := "lensTexts", inPlace := ["internal/abi.NoEscape", "internal/bytealg.MakeNoZero", "internal/bytealg.IndexByteString"], unfollowed := true, recurses := true, named := ["internal/strconv.uint64pow10", "math/bits.deBruijn32tab", "math/bits.deBruijn64tab", "periscope/lens.words"], loops := true, apart := false, laid := [("math/bits.deBruijn32tab", laid_math_bits_deBruijn32tab), ("math/bits.deBruijn64tab", laid_math_bits_deBruijn64tab), ("internal/strconv.uint64pow10", laid_internal_strconv_uint64pow10), ("periscope/lens.words", laid_periscope_lens_words)] }
def LensTextsSaid : Prop := lensTextsRow.holds Tryz.pinned (OpenSpec.ofChange lensTextsSpec)

/-- ITS FALSE NEIGHBOUR: 'it returns false'. Refute it at one input. -/
def lensTextsWrong : ChangeSpec := { name := "lensTexts", fn := fun _ => fun
  | [d] => { results := [.lit (.bool false)], args := [d] }
  | _ => none }
def LensTextsWrongFalsely : Prop := lensTextsRow.holds Tryz.pinned (OpenSpec.ofChange lensTextsWrong)

/-- 'periscopelaw10.LensWalks': WHATEVER THE INPUT: true; the input reads as it did. -/
def lensWalksSpec : ChangeSpec := { name := "lensWalks", fn := fun _ => fun
  | [d1, d2] => { results := [.lit (.bool true)], args := [d1, d2] }
  | _ => none }
def lensWalksRow : OpenClaim := { program := "ytpajpjocakhcdaagreatdoor", sum := "932bd6d70880f1a9c48512e89134ec921f0be670e6a099512477ba76e49cc790", func := "periscope/periscopelaw10.LensWalks", spec := "lensWalks", inPlace := ["internal/abi.NoEscape", "internal/bytealg.MakeNoZero", "internal/bytealg.IndexByteString"], unfollowed := true, recurses := true, named := ["internal/strconv.uint64pow10", "math/bits.deBruijn32tab", "math/bits.deBruijn64tab", "periscope/lens.words"], loops := true, apart := false, laid := [("math/bits.deBruijn32tab", laid_math_bits_deBruijn32tab), ("math/bits.deBruijn64tab", laid_math_bits_deBruijn64tab), ("internal/strconv.uint64pow10", laid_internal_strconv_uint64pow10), ("periscope/lens.words", laid_periscope_lens_words)] }
def LensWalksSaid : Prop := lensWalksRow.holds Tryz.pinned (OpenSpec.ofChange lensWalksSpec)

/-- ITS FALSE NEIGHBOUR: 'it returns false'. Refute it at one input. -/
def lensWalksWrong : ChangeSpec := { name := "lensWalks", fn := fun _ => fun
  | [d1, d2] => { results := [.lit (.bool false)], args := [d1, d2] }
  | _ => none }
def LensWalksWrongFalsely : Prop := lensWalksRow.holds Tryz.pinned (OpenSpec.ofChange lensWalksWrong)

/-- 'periscopelaw10.LensNests': WHATEVER THE INPUT: true; the input reads as it did. -/
def lensNestsSpec : ChangeSpec := { name := "lensNests", fn := fun _ => fun
  | [d] => { results := [.lit (.bool true)], args := [d] }
  | _ => none }
def lensNestsRow : OpenClaim := { program := "ytpajpjocakhcdaagreatdoor", sum := "932bd6d70880f1a9c48512e89134ec921f0be670e6a099512477ba76e49cc790", func := "periscope/periscopelaw10.LensNests", spec := "lensNests", inPlace := ["internal/abi.NoEscape", "internal/bytealg.MakeNoZero", "internal/bytealg.IndexByteString"], unfollowed := true, recurses := true, named := ["internal/strconv.uint64pow10", "math/bits.deBruijn32tab", "math/bits.deBruijn64tab", "periscope/lens.words"], loops := true, apart := false, laid := [("math/bits.deBruijn32tab", laid_math_bits_deBruijn32tab), ("math/bits.deBruijn64tab", laid_math_bits_deBruijn64tab), ("internal/strconv.uint64pow10", laid_internal_strconv_uint64pow10), ("periscope/lens.words", laid_periscope_lens_words)] }
def LensNestsSaid : Prop := lensNestsRow.holds Tryz.pinned (OpenSpec.ofChange lensNestsSpec)

/-- ITS FALSE NEIGHBOUR: 'it returns false'. Refute it at one input. -/
def lensNestsWrong : ChangeSpec := { name := "lensNests", fn := fun _ => fun
  | [d] => { results := [.lit (.bool false)], args := [d] }
  | _ => none }
def LensNestsWrongFalsely : Prop := lensNestsRow.holds Tryz.pinned (OpenSpec.ofChange lensNestsWrong)

/-- 'periscopelaw10.LensSames': WHATEVER THE INPUT: true; the input reads as it did. -/
def lensSamesSpec : ChangeSpec := { name := "lensSames", fn := fun _ => fun
  | [d1, d2, d3] => { results := [.lit (.bool true)], args := [d1, d2, d3] }
  | _ => none }
def lensSamesRow : OpenClaim := { program := "ytpajpjocakhcdaagreatdoor", sum := "932bd6d70880f1a9c48512e89134ec921f0be670e6a099512477ba76e49cc790", func := "periscope/periscopelaw10.LensSames", spec := "lensSames", inPlace := ["internal/abi.NoEscape", "internal/bytealg.MakeNoZero", "internal/bytealg.IndexByteString"], unfollowed := true, recurses := true, named := ["internal/strconv.uint64pow10", "math/bits.deBruijn32tab", "math/bits.deBruijn64tab", "periscope/lens.words"], loops := true, apart := false, laid := [("math/bits.deBruijn32tab", laid_math_bits_deBruijn32tab), ("math/bits.deBruijn64tab", laid_math_bits_deBruijn64tab), ("internal/strconv.uint64pow10", laid_internal_strconv_uint64pow10), ("periscope/lens.words", laid_periscope_lens_words)] }
def LensSamesSaid : Prop := lensSamesRow.holds Tryz.pinned (OpenSpec.ofChange lensSamesSpec)

/-- ITS FALSE NEIGHBOUR: 'it returns false'. Refute it at one input. -/
def lensSamesWrong : ChangeSpec := { name := "lensSames", fn := fun _ => fun
  | [d1, d2, d3] => { results := [.lit (.bool false)], args := [d1, d2, d3] }
  | _ => none }
def LensSamesWrongFalsely : Prop := lensSamesRow.holds Tryz.pinned (OpenSpec.ofChange lensSamesWrong)

/-- 'periscopelaw04.TextReads': WHATEVER THE INPUT: true; the input reads as it did. -/
def textReadsSpec : ChangeSpec := { name := "textReads", fn := fun _ => fun
  | [d] => { results := [.lit (.bool true)], args := [d] }
  | _ => none }
def textReadsRow : OpenClaim := { program := "ytpajpjocakhcdaagreatdoor", sum := "932bd6d70880f1a9c48512e89134ec921f0be670e6a099512477ba76e49cc790", func := "periscope/periscopelaw04.TextReads", spec := "textReads", inPlace := ["internal/bytealg.IndexByteString", "internal/abi.NoEscape", "internal/bytealg.MakeNoZero"], unfollowed := true, recurses := true, named := ["internal/strconv.uint64pow10", "math/bits.deBruijn32tab", "math/bits.deBruijn64tab"], apart := false, laid := [("math/bits.deBruijn32tab", laid_math_bits_deBruijn32tab), ("math/bits.deBruijn64tab", laid_math_bits_deBruijn64tab), ("internal/strconv.uint64pow10", laid_internal_strconv_uint64pow10)] }
def TextReadsSaid : Prop := textReadsRow.holds Tryz.pinned (OpenSpec.ofChange textReadsSpec)

/-- ITS FALSE NEIGHBOUR: 'it returns false'. Refute it at one input. -/
def textReadsWrong : ChangeSpec := { name := "textReads", fn := fun _ => fun
  | [d] => { results := [.lit (.bool false)], args := [d] }
  | _ => none }
def TextReadsWrongFalsely : Prop := textReadsRow.holds Tryz.pinned (OpenSpec.ofChange textReadsWrong)

/-- 'periscopelaw04.TextBytes': WHATEVER THE INPUT: true; the input reads as it did. -/
def textBytesSpec : ChangeSpec := { name := "textBytes", fn := fun _ => fun
  | [d1, d2] => { results := [.lit (.bool true)], args := [d1, d2] }
  | _ => none }
def textBytesRow : OpenClaim := { program := "ytpajpjocakhcdaagreatdoor", sum := "932bd6d70880f1a9c48512e89134ec921f0be670e6a099512477ba76e49cc790", func := "periscope/periscopelaw04.TextBytes", spec := "textBytes", inPlace := ["internal/bytealg.IndexByteString", "internal/abi.NoEscape", "internal/bytealg.MakeNoZero"], unfollowed := true, recurses := true, named := ["internal/strconv.uint64pow10", "math/bits.deBruijn32tab", "math/bits.deBruijn64tab"], apart := false, laid := [("math/bits.deBruijn32tab", laid_math_bits_deBruijn32tab), ("math/bits.deBruijn64tab", laid_math_bits_deBruijn64tab), ("internal/strconv.uint64pow10", laid_internal_strconv_uint64pow10)] }
def TextBytesSaid : Prop := textBytesRow.holds Tryz.pinned (OpenSpec.ofChange textBytesSpec)

/-- ITS FALSE NEIGHBOUR: 'it returns false'. Refute it at one input. -/
def textBytesWrong : ChangeSpec := { name := "textBytes", fn := fun _ => fun
  | [d1, d2] => { results := [.lit (.bool false)], args := [d1, d2] }
  | _ => none }
def TextBytesWrongFalsely : Prop := textBytesRow.holds Tryz.pinned (OpenSpec.ofChange textBytesWrong)

/-- 'periscopelaw04.TextLevels': WHATEVER THE INPUT: true; the input reads as it did. -/
def textLevelsSpec : ChangeSpec := { name := "textLevels", fn := fun _ => fun
  | [d] => { results := [.lit (.bool true)], args := [d] }
  | _ => none }
def textLevelsRow : OpenClaim := { program := "ytpajpjocakhcdaagreatdoor", sum := "932bd6d70880f1a9c48512e89134ec921f0be670e6a099512477ba76e49cc790", func := "periscope/periscopelaw04.TextLevels", spec := "textLevels", inPlace := ["internal/bytealg.IndexByteString", "internal/abi.NoEscape", "internal/bytealg.MakeNoZero"], unfollowed := true, recurses := true, named := ["internal/strconv.uint64pow10", "math/bits.deBruijn32tab", "math/bits.deBruijn64tab"], apart := false, laid := [("math/bits.deBruijn32tab", laid_math_bits_deBruijn32tab), ("math/bits.deBruijn64tab", laid_math_bits_deBruijn64tab), ("internal/strconv.uint64pow10", laid_internal_strconv_uint64pow10)] }
def TextLevelsSaid : Prop := textLevelsRow.holds Tryz.pinned (OpenSpec.ofChange textLevelsSpec)

/-- ITS FALSE NEIGHBOUR: 'it returns false'. Refute it at one input. -/
def textLevelsWrong : ChangeSpec := { name := "textLevels", fn := fun _ => fun
  | [d] => { results := [.lit (.bool false)], args := [d] }
  | _ => none }
def TextLevelsWrongFalsely : Prop := textLevelsRow.holds Tryz.pinned (OpenSpec.ofChange textLevelsWrong)

/-- 'periscopelaw04.TextErrors': WHATEVER THE INPUT: true; the input reads as it did. -/
def textErrorsSpec : ChangeSpec := { name := "textErrors", fn := fun _ => fun
  | [d1, d2] => { results := [.lit (.bool true)], args := [d1, d2] }
  | _ => none }
def textErrorsRow : OpenClaim := { program := "ytpajpjocakhcdaagreatdoor", sum := "932bd6d70880f1a9c48512e89134ec921f0be670e6a099512477ba76e49cc790", func := "periscope/periscopelaw04.TextErrors", spec := "textErrors", inPlace := ["internal/bytealg.IndexByteString", "internal/abi.NoEscape", "internal/bytealg.MakeNoZero"], unfollowed := true, recurses := true, named := ["internal/strconv.uint64pow10", "math/bits.deBruijn32tab", "math/bits.deBruijn64tab"], apart := false, laid := [("math/bits.deBruijn32tab", laid_math_bits_deBruijn32tab), ("math/bits.deBruijn64tab", laid_math_bits_deBruijn64tab), ("internal/strconv.uint64pow10", laid_internal_strconv_uint64pow10)] }
def TextErrorsSaid : Prop := textErrorsRow.holds Tryz.pinned (OpenSpec.ofChange textErrorsSpec)

/-- ITS FALSE NEIGHBOUR: 'it returns false'. Refute it at one input. -/
def textErrorsWrong : ChangeSpec := { name := "textErrors", fn := fun _ => fun
  | [d1, d2] => { results := [.lit (.bool false)], args := [d1, d2] }
  | _ => none }
def TextErrorsWrongFalsely : Prop := textErrorsRow.holds Tryz.pinned (OpenSpec.ofChange textErrorsWrong)

/-- 'periscopelaw04.TextAgain': WHATEVER THE INPUT: true; the input reads as it did. -/
def textAgainSpec : ChangeSpec := { name := "textAgain", fn := fun _ => fun
  | [d] => { results := [.lit (.bool true)], args := [d] }
  | _ => none }
def textAgainRow : OpenClaim := { program := "ytpajpjocakhcdaagreatdoor", sum := "932bd6d70880f1a9c48512e89134ec921f0be670e6a099512477ba76e49cc790", func := "periscope/periscopelaw04.TextAgain", spec := "textAgain", inPlace := ["internal/bytealg.IndexByteString", "internal/abi.NoEscape", "internal/bytealg.MakeNoZero"], unfollowed := true, recurses := true, named := ["internal/strconv.uint64pow10", "math/bits.deBruijn32tab", "math/bits.deBruijn64tab"], loops := true, apart := false, laid := [("math/bits.deBruijn32tab", laid_math_bits_deBruijn32tab), ("math/bits.deBruijn64tab", laid_math_bits_deBruijn64tab), ("internal/strconv.uint64pow10", laid_internal_strconv_uint64pow10)] }
def TextAgainSaid : Prop := textAgainRow.holds Tryz.pinned (OpenSpec.ofChange textAgainSpec)

/-- ITS FALSE NEIGHBOUR: 'it returns false'. Refute it at one input. -/
def textAgainWrong : ChangeSpec := { name := "textAgain", fn := fun _ => fun
  | [d] => { results := [.lit (.bool false)], args := [d] }
  | _ => none }
def TextAgainWrongFalsely : Prop := textAgainRow.holds Tryz.pinned (OpenSpec.ofChange textAgainWrong)

/-- 'periscopelaw04.TextDeep': WHATEVER THE INPUT: true; the input reads as it did. -/
def textDeepSpec : ChangeSpec := { name := "textDeep", fn := fun _ => fun
  | [d1, d2] => { results := [.lit (.bool true)], args := [d1, d2] }
  | _ => none }
def textDeepRow : OpenClaim := { program := "ytpajpjocakhcdaagreatdoor", sum := "932bd6d70880f1a9c48512e89134ec921f0be670e6a099512477ba76e49cc790", func := "periscope/periscopelaw04.TextDeep", spec := "textDeep", inPlace := ["internal/bytealg.IndexByteString", "internal/abi.NoEscape", "internal/bytealg.MakeNoZero"], unfollowed := true, recurses := true, named := ["internal/strconv.uint64pow10", "math/bits.deBruijn32tab", "math/bits.deBruijn64tab"], apart := false, laid := [("math/bits.deBruijn32tab", laid_math_bits_deBruijn32tab), ("math/bits.deBruijn64tab", laid_math_bits_deBruijn64tab), ("internal/strconv.uint64pow10", laid_internal_strconv_uint64pow10)] }
def TextDeepSaid : Prop := textDeepRow.holds Tryz.pinned (OpenSpec.ofChange textDeepSpec)

/-- ITS FALSE NEIGHBOUR: 'it returns false'. Refute it at one input. -/
def textDeepWrong : ChangeSpec := { name := "textDeep", fn := fun _ => fun
  | [d1, d2] => { results := [.lit (.bool false)], args := [d1, d2] }
  | _ => none }
def TextDeepWrongFalsely : Prop := textDeepRow.holds Tryz.pinned (OpenSpec.ofChange textDeepWrong)

/- THE SECOND FORM. 'bulk': how many values and letters a reading holds, each counted each time it is reached (what is shared counts as often as it is met; a slice's spare places count too). A statement '..UptoSaid' is the law's where the arguments, and the package variables that the reading takes, are together of bulk at most 1048576: NARROWER than '..Said'. Prove '..Said' where nothing that the law and all that it calls make is longer than what came in: it says more and counts as full. Else prove '..UptoSaid'. A law counts once. -/
mutual
def uptoBulk {H : Type} : DataW H → Nat
  | .lit (.string bytes) => bytes.length + 1
  | .lit _ => 1
  | .nil => 1
  | .ptr d => uptoBulk d + 1
  | .slice elems spare => uptoBulkAll elems + uptoBulkAll spare + 1
  | .agg parts => uptoBulkAll parts + 1
  | .iface _ d => uptoBulk d + 1
  | .map entries => uptoBulkEntries entries + 1
  | .held _ => 1
def uptoBulkAll {H : Type} : List (DataW H) → Nat
  | [] => 0
  | d :: r => uptoBulk d + uptoBulkAll r
def uptoBulkEntries {H : Type} : List (Lit × DataW H) → Nat
  | [] => 0
  | x :: r => uptoBulkEntry x + uptoBulkEntries r
def uptoBulkEntry {H : Type} : Lit × DataW H → Nat
  | (.string bytes, d) => bytes.length + uptoBulk d + 1
  | (_, d) => uptoBulk d + 1
 end
def uptoSmall : (H : Type) → List (DataW H) → Bool := fun _ ds => decide (uptoBulkAll ds ≤ 1048576)
def OpenSpec.upto (s : _root_.Go.ChangeSpec) : _root_.Go.OpenSpec := { _root_.Go.OpenSpec.ofChange s with cond := some uptoSmall }

/-- 'periscopelaw10.LensTexts', WHERE WHAT IT READS IS OF BULK AT MOST 1048576: true; the input reads as it did. -/
def lensTextsUptoRow : OpenClaim := { program := "ytpajpjocakhcdaagreatdoor", sum := "932bd6d70880f1a9c48512e89134ec921f0be670e6a099512477ba76e49cc790", func := "periscope/periscopelaw10.LensTexts", spec := "lensTexts", inPlace := ["internal/abi.NoEscape", "internal/bytealg.MakeNoZero", "internal/bytealg.IndexByteString"], unfollowed := true, recurses := true, named := ["internal/strconv.uint64pow10", "math/bits.deBruijn32tab", "math/bits.deBruijn64tab", "periscope/lens.words"], loops := true, apart := false, laid := [("math/bits.deBruijn32tab", laid_math_bits_deBruijn32tab), ("math/bits.deBruijn64tab", laid_math_bits_deBruijn64tab), ("internal/strconv.uint64pow10", laid_internal_strconv_uint64pow10), ("periscope/lens.words", laid_periscope_lens_words)], narrowed := true }
def LensTextsUptoSaid : Prop := lensTextsUptoRow.holds Tryz.pinned (OpenSpec.upto lensTextsSpec)

/-- 'periscopelaw10.LensWalks', WHERE WHAT IT READS IS OF BULK AT MOST 1048576: true; the input reads as it did. -/
def lensWalksUptoRow : OpenClaim := { program := "ytpajpjocakhcdaagreatdoor", sum := "932bd6d70880f1a9c48512e89134ec921f0be670e6a099512477ba76e49cc790", func := "periscope/periscopelaw10.LensWalks", spec := "lensWalks", inPlace := ["internal/abi.NoEscape", "internal/bytealg.MakeNoZero", "internal/bytealg.IndexByteString"], unfollowed := true, recurses := true, named := ["internal/strconv.uint64pow10", "math/bits.deBruijn32tab", "math/bits.deBruijn64tab", "periscope/lens.words"], loops := true, apart := false, laid := [("math/bits.deBruijn32tab", laid_math_bits_deBruijn32tab), ("math/bits.deBruijn64tab", laid_math_bits_deBruijn64tab), ("internal/strconv.uint64pow10", laid_internal_strconv_uint64pow10), ("periscope/lens.words", laid_periscope_lens_words)], narrowed := true }
def LensWalksUptoSaid : Prop := lensWalksUptoRow.holds Tryz.pinned (OpenSpec.upto lensWalksSpec)

/-- 'periscopelaw10.LensNests', WHERE WHAT IT READS IS OF BULK AT MOST 1048576: true; the input reads as it did. -/
def lensNestsUptoRow : OpenClaim := { program := "ytpajpjocakhcdaagreatdoor", sum := "932bd6d70880f1a9c48512e89134ec921f0be670e6a099512477ba76e49cc790", func := "periscope/periscopelaw10.LensNests", spec := "lensNests", inPlace := ["internal/abi.NoEscape", "internal/bytealg.MakeNoZero", "internal/bytealg.IndexByteString"], unfollowed := true, recurses := true, named := ["internal/strconv.uint64pow10", "math/bits.deBruijn32tab", "math/bits.deBruijn64tab", "periscope/lens.words"], loops := true, apart := false, laid := [("math/bits.deBruijn32tab", laid_math_bits_deBruijn32tab), ("math/bits.deBruijn64tab", laid_math_bits_deBruijn64tab), ("internal/strconv.uint64pow10", laid_internal_strconv_uint64pow10), ("periscope/lens.words", laid_periscope_lens_words)], narrowed := true }
def LensNestsUptoSaid : Prop := lensNestsUptoRow.holds Tryz.pinned (OpenSpec.upto lensNestsSpec)

/-- 'periscopelaw10.LensSames', WHERE WHAT IT READS IS OF BULK AT MOST 1048576: true; the input reads as it did. -/
def lensSamesUptoRow : OpenClaim := { program := "ytpajpjocakhcdaagreatdoor", sum := "932bd6d70880f1a9c48512e89134ec921f0be670e6a099512477ba76e49cc790", func := "periscope/periscopelaw10.LensSames", spec := "lensSames", inPlace := ["internal/abi.NoEscape", "internal/bytealg.MakeNoZero", "internal/bytealg.IndexByteString"], unfollowed := true, recurses := true, named := ["internal/strconv.uint64pow10", "math/bits.deBruijn32tab", "math/bits.deBruijn64tab", "periscope/lens.words"], loops := true, apart := false, laid := [("math/bits.deBruijn32tab", laid_math_bits_deBruijn32tab), ("math/bits.deBruijn64tab", laid_math_bits_deBruijn64tab), ("internal/strconv.uint64pow10", laid_internal_strconv_uint64pow10), ("periscope/lens.words", laid_periscope_lens_words)], narrowed := true }
def LensSamesUptoSaid : Prop := lensSamesUptoRow.holds Tryz.pinned (OpenSpec.upto lensSamesSpec)

/-- 'periscopelaw04.TextReads', WHERE WHAT IT READS IS OF BULK AT MOST 1048576: true; the input reads as it did. -/
def textReadsUptoRow : OpenClaim := { program := "ytpajpjocakhcdaagreatdoor", sum := "932bd6d70880f1a9c48512e89134ec921f0be670e6a099512477ba76e49cc790", func := "periscope/periscopelaw04.TextReads", spec := "textReads", inPlace := ["internal/bytealg.IndexByteString", "internal/abi.NoEscape", "internal/bytealg.MakeNoZero"], unfollowed := true, recurses := true, named := ["internal/strconv.uint64pow10", "math/bits.deBruijn32tab", "math/bits.deBruijn64tab"], apart := false, laid := [("math/bits.deBruijn32tab", laid_math_bits_deBruijn32tab), ("math/bits.deBruijn64tab", laid_math_bits_deBruijn64tab), ("internal/strconv.uint64pow10", laid_internal_strconv_uint64pow10)], narrowed := true }
def TextReadsUptoSaid : Prop := textReadsUptoRow.holds Tryz.pinned (OpenSpec.upto textReadsSpec)

/-- 'periscopelaw04.TextBytes', WHERE WHAT IT READS IS OF BULK AT MOST 1048576: true; the input reads as it did. -/
def textBytesUptoRow : OpenClaim := { program := "ytpajpjocakhcdaagreatdoor", sum := "932bd6d70880f1a9c48512e89134ec921f0be670e6a099512477ba76e49cc790", func := "periscope/periscopelaw04.TextBytes", spec := "textBytes", inPlace := ["internal/bytealg.IndexByteString", "internal/abi.NoEscape", "internal/bytealg.MakeNoZero"], unfollowed := true, recurses := true, named := ["internal/strconv.uint64pow10", "math/bits.deBruijn32tab", "math/bits.deBruijn64tab"], apart := false, laid := [("math/bits.deBruijn32tab", laid_math_bits_deBruijn32tab), ("math/bits.deBruijn64tab", laid_math_bits_deBruijn64tab), ("internal/strconv.uint64pow10", laid_internal_strconv_uint64pow10)], narrowed := true }
def TextBytesUptoSaid : Prop := textBytesUptoRow.holds Tryz.pinned (OpenSpec.upto textBytesSpec)

/-- 'periscopelaw04.TextLevels', WHERE WHAT IT READS IS OF BULK AT MOST 1048576: true; the input reads as it did. -/
def textLevelsUptoRow : OpenClaim := { program := "ytpajpjocakhcdaagreatdoor", sum := "932bd6d70880f1a9c48512e89134ec921f0be670e6a099512477ba76e49cc790", func := "periscope/periscopelaw04.TextLevels", spec := "textLevels", inPlace := ["internal/bytealg.IndexByteString", "internal/abi.NoEscape", "internal/bytealg.MakeNoZero"], unfollowed := true, recurses := true, named := ["internal/strconv.uint64pow10", "math/bits.deBruijn32tab", "math/bits.deBruijn64tab"], apart := false, laid := [("math/bits.deBruijn32tab", laid_math_bits_deBruijn32tab), ("math/bits.deBruijn64tab", laid_math_bits_deBruijn64tab), ("internal/strconv.uint64pow10", laid_internal_strconv_uint64pow10)], narrowed := true }
def TextLevelsUptoSaid : Prop := textLevelsUptoRow.holds Tryz.pinned (OpenSpec.upto textLevelsSpec)

/-- 'periscopelaw04.TextErrors', WHERE WHAT IT READS IS OF BULK AT MOST 1048576: true; the input reads as it did. -/
def textErrorsUptoRow : OpenClaim := { program := "ytpajpjocakhcdaagreatdoor", sum := "932bd6d70880f1a9c48512e89134ec921f0be670e6a099512477ba76e49cc790", func := "periscope/periscopelaw04.TextErrors", spec := "textErrors", inPlace := ["internal/bytealg.IndexByteString", "internal/abi.NoEscape", "internal/bytealg.MakeNoZero"], unfollowed := true, recurses := true, named := ["internal/strconv.uint64pow10", "math/bits.deBruijn32tab", "math/bits.deBruijn64tab"], apart := false, laid := [("math/bits.deBruijn32tab", laid_math_bits_deBruijn32tab), ("math/bits.deBruijn64tab", laid_math_bits_deBruijn64tab), ("internal/strconv.uint64pow10", laid_internal_strconv_uint64pow10)], narrowed := true }
def TextErrorsUptoSaid : Prop := textErrorsUptoRow.holds Tryz.pinned (OpenSpec.upto textErrorsSpec)

/-- 'periscopelaw04.TextAgain', WHERE WHAT IT READS IS OF BULK AT MOST 1048576: true; the input reads as it did. -/
def textAgainUptoRow : OpenClaim := { program := "ytpajpjocakhcdaagreatdoor", sum := "932bd6d70880f1a9c48512e89134ec921f0be670e6a099512477ba76e49cc790", func := "periscope/periscopelaw04.TextAgain", spec := "textAgain", inPlace := ["internal/bytealg.IndexByteString", "internal/abi.NoEscape", "internal/bytealg.MakeNoZero"], unfollowed := true, recurses := true, named := ["internal/strconv.uint64pow10", "math/bits.deBruijn32tab", "math/bits.deBruijn64tab"], loops := true, apart := false, laid := [("math/bits.deBruijn32tab", laid_math_bits_deBruijn32tab), ("math/bits.deBruijn64tab", laid_math_bits_deBruijn64tab), ("internal/strconv.uint64pow10", laid_internal_strconv_uint64pow10)], narrowed := true }
def TextAgainUptoSaid : Prop := textAgainUptoRow.holds Tryz.pinned (OpenSpec.upto textAgainSpec)

/-- 'periscopelaw04.TextDeep', WHERE WHAT IT READS IS OF BULK AT MOST 1048576: true; the input reads as it did. -/
def textDeepUptoRow : OpenClaim := { program := "ytpajpjocakhcdaagreatdoor", sum := "932bd6d70880f1a9c48512e89134ec921f0be670e6a099512477ba76e49cc790", func := "periscope/periscopelaw04.TextDeep", spec := "textDeep", inPlace := ["internal/bytealg.IndexByteString", "internal/abi.NoEscape", "internal/bytealg.MakeNoZero"], unfollowed := true, recurses := true, named := ["internal/strconv.uint64pow10", "math/bits.deBruijn32tab", "math/bits.deBruijn64tab"], apart := false, laid := [("math/bits.deBruijn32tab", laid_math_bits_deBruijn32tab), ("math/bits.deBruijn64tab", laid_math_bits_deBruijn64tab), ("internal/strconv.uint64pow10", laid_internal_strconv_uint64pow10)], narrowed := true }
def TextDeepUptoSaid : Prop := textDeepUptoRow.holds Tryz.pinned (OpenSpec.upto textDeepSpec)

end Rows
end Go.Proofs.YtpajpjocakhcdaaGreatDoor
