/-
  NARROWER THAN 'FOR EVERY INPUT', by the rows' own cells (each row's printed sentence says how): DeduceTells: loops, laid · DeduceTold: loops, laid · DeduceShares: laid · DeduceFresh: loops, laid · DeduceKept: loops, laid · DeduceAtoms: loops, laid · DeduceChains: laid · DeduceData: loops, laid · DeduceMore: loops, laid · DeduceClosed: loops, laid · DeduceWithin: loops, laid.
  DERIVED. THE GIVEN ROWS OF THIS SEAT. 11 by the template 'for every input the law returns true; each argument reads behind the call as it read before'; 0 by the template 'total and deterministic' (their statements: YtakehleacibfiaaDoorTotals.lean).
  GIVEN WITH THE SEED: the statements are not yours to turn. If you find one false, say at which input.
  Laid BY PROGRAM, IN A SANDBOX (cutbox-rows.mjs): the forced cells as the released guide's own fill.sh prints them over the translation 36adb70729c9ece8… (all of the seat's roots in one cut). By AI agents, Wed Nov 11 2026. No macro, syntax, notation, axiom, sorry.
-/
import Derived.Test.YtakehleacibfiaaDoorChecked
import GoSem.Claim
import GoSem.ClaimJoined
import GoSem.ClaimMapViews
import Derived.JoinedTies
import Derived.KernelRfl
namespace Go.Proofs.YtakehleacibfiaaDoor
/- THE CELL 'sum', in the pinned program and in every row, IS THE sha256 OF THE DUMP (.gsa) THAT YtakehleacibfiaaDoorProg.lean LOADS. Nothing in Lean hashes anything: it is a label: what it is worth is what the hold of that sum in a sandbox is worth. -/
noncomputable def Tryd.pinned : Pinned := { name := "ytakehleacibfiaadoor", sum := "36adb70729c9ece80545b91850abd794d3239fd0020c08e7048d8f528b786f9a", checked := Tryd.checked }
namespace Rows
def none {H : Type} : Left H := { results := [], args := [] }

/- WHAT THE LISTED PACKAGE-LEVEL VARIABLES READ AS WHEN THE CALL BEGINS. Each datum BY PROGRAM (the guide's laid-datum.mjs) off the statement by which the dump's own 'gosem.cut.vars' lays the variable. In a bare row this is a premise. The card (YtakehleacibfiaaDoorCards.lean) ties it to the program's text. -/
def laid_math_bits_deBruijn32tab {H : Type} : DataW H := .agg [.lit (.int .u8 0), .lit (.int .u8 1), .lit (.int .u8 28), .lit (.int .u8 2), .lit (.int .u8 29), .lit (.int .u8 14), .lit (.int .u8 24), .lit (.int .u8 3), .lit (.int .u8 30), .lit (.int .u8 22), .lit (.int .u8 20), .lit (.int .u8 15), .lit (.int .u8 25), .lit (.int .u8 17), .lit (.int .u8 4), .lit (.int .u8 8), .lit (.int .u8 31), .lit (.int .u8 27), .lit (.int .u8 13), .lit (.int .u8 23), .lit (.int .u8 21), .lit (.int .u8 19), .lit (.int .u8 16), .lit (.int .u8 7), .lit (.int .u8 26), .lit (.int .u8 12), .lit (.int .u8 18), .lit (.int .u8 6), .lit (.int .u8 11), .lit (.int .u8 5), .lit (.int .u8 10), .lit (.int .u8 9)]
def laid_math_bits_deBruijn64tab {H : Type} : DataW H := .agg [.lit (.int .u8 0), .lit (.int .u8 1), .lit (.int .u8 56), .lit (.int .u8 2), .lit (.int .u8 57), .lit (.int .u8 49), .lit (.int .u8 28), .lit (.int .u8 3), .lit (.int .u8 61), .lit (.int .u8 58), .lit (.int .u8 42), .lit (.int .u8 50), .lit (.int .u8 38), .lit (.int .u8 29), .lit (.int .u8 17), .lit (.int .u8 4), .lit (.int .u8 62), .lit (.int .u8 47), .lit (.int .u8 59), .lit (.int .u8 36), .lit (.int .u8 45), .lit (.int .u8 43), .lit (.int .u8 51), .lit (.int .u8 22), .lit (.int .u8 53), .lit (.int .u8 39), .lit (.int .u8 33), .lit (.int .u8 30), .lit (.int .u8 24), .lit (.int .u8 18), .lit (.int .u8 12), .lit (.int .u8 5), .lit (.int .u8 63), .lit (.int .u8 55), .lit (.int .u8 48), .lit (.int .u8 27), .lit (.int .u8 60), .lit (.int .u8 41), .lit (.int .u8 37), .lit (.int .u8 16), .lit (.int .u8 46), .lit (.int .u8 35), .lit (.int .u8 44), .lit (.int .u8 21), .lit (.int .u8 52), .lit (.int .u8 32), .lit (.int .u8 23), .lit (.int .u8 11), .lit (.int .u8 54), .lit (.int .u8 26), .lit (.int .u8 40), .lit (.int .u8 15), .lit (.int .u8 34), .lit (.int .u8 20), .lit (.int .u8 31), .lit (.int .u8 10), .lit (.int .u8 25), .lit (.int .u8 14), .lit (.int .u8 19), .lit (.int .u8 9), .lit (.int .u8 13), .lit (.int .u8 8), .lit (.int .u8 7), .lit (.int .u8 6)]
def laid_internal_strconv_uint64pow10 {H : Type} : DataW H := .agg [.lit (.int .u64 1), .lit (.int .u64 10), .lit (.int .u64 100), .lit (.int .u64 1000), .lit (.int .u64 10000), .lit (.int .u64 100000), .lit (.int .u64 1000000), .lit (.int .u64 10000000), .lit (.int .u64 100000000), .lit (.int .u64 1000000000), .lit (.int .u64 10000000000), .lit (.int .u64 100000000000), .lit (.int .u64 1000000000000), .lit (.int .u64 10000000000000), .lit (.int .u64 100000000000000), .lit (.int .u64 1000000000000000), .lit (.int .u64 10000000000000000), .lit (.int .u64 100000000000000000), .lit (.int .u64 1000000000000000000), .lit (.int .u64 10000000000000000000)]
def laid_sluiceway_term_kinds {H : Type} : DataW H := .agg [.agg [.lit (.string []), .lit (.int .i64 0), .lit (.bool false)], .agg [.lit (.string [100]), .lit (.int .i64 0), .lit (.bool true)], .agg [.lit (.string [97]), .lit (.int .i64 0), .lit (.bool true)], .agg [.lit (.string [112]), .lit (.int .i64 (-1)), .lit (.bool false)], .agg [.lit (.string [101]), .lit (.int .i64 2), .lit (.bool false)], .agg [.lit (.string [109]), .lit (.int .i64 2), .lit (.bool false)], .agg [.lit (.string [104]), .lit (.int .i64 1), .lit (.bool false)], .agg [.lit (.string [107]), .lit (.int .i64 1), .lit (.bool true)], .agg [.lit (.string [117]), .lit (.int .i64 1), .lit (.bool false)], .agg [.lit (.string [115]), .lit (.int .i64 2), .lit (.bool false)], .agg [.lit (.string [120]), .lit (.int .i64 2), .lit (.bool false)]]

/-- 'sluicewaylaw08.DeduceTells': WHATEVER THE INPUT: true; the input reads as it did. -/
def deduceTellsSpec : ChangeSpec := { name := "deduceTells", fn := fun _ => fun
  | [d1, d2] => { results := [.lit (.bool true)], args := [d1, d2] }
  | _ => none }
def deduceTellsRow : OpenClaim := { program := "ytakehleacibfiaadoor", sum := "36adb70729c9ece80545b91850abd794d3239fd0020c08e7048d8f528b786f9a", func := "sluiceway/sluicewaylaw08.DeduceTells", spec := "deduceTells", inPlace := ["internal/abi.NoEscape", "internal/bytealg.MakeNoZero"], unfollowed := true, recurses := true, named := ["sluiceway/term.kinds", "internal/strconv.uint64pow10", "math/bits.deBruijn32tab", "math/bits.deBruijn64tab"], loops := true, apart := false, laid := [("math/bits.deBruijn32tab", laid_math_bits_deBruijn32tab), ("math/bits.deBruijn64tab", laid_math_bits_deBruijn64tab), ("internal/strconv.uint64pow10", laid_internal_strconv_uint64pow10), ("sluiceway/term.kinds", laid_sluiceway_term_kinds)] }
def DeduceTellsSaid : Prop := deduceTellsRow.holds Tryd.pinned (OpenSpec.ofChange deduceTellsSpec)

/-- ITS FALSE NEIGHBOUR: 'it returns false'. Refute it at one input. -/
def deduceTellsWrong : ChangeSpec := { name := "deduceTells", fn := fun _ => fun
  | [d1, d2] => { results := [.lit (.bool false)], args := [d1, d2] }
  | _ => none }
def DeduceTellsWrongFalsely : Prop := deduceTellsRow.holds Tryd.pinned (OpenSpec.ofChange deduceTellsWrong)

/-- 'sluicewaylaw08.DeduceTold': WHATEVER THE INPUT: true; the input reads as it did. -/
def deduceToldSpec : ChangeSpec := { name := "deduceTold", fn := fun _ => fun
  | [d1, d2, d3] => { results := [.lit (.bool true)], args := [d1, d2, d3] }
  | _ => none }
def deduceToldRow : OpenClaim := { program := "ytakehleacibfiaadoor", sum := "36adb70729c9ece80545b91850abd794d3239fd0020c08e7048d8f528b786f9a", func := "sluiceway/sluicewaylaw08.DeduceTold", spec := "deduceTold", inPlace := ["internal/abi.NoEscape", "internal/bytealg.MakeNoZero"], unfollowed := true, recurses := true, named := ["sluiceway/term.kinds", "internal/strconv.uint64pow10", "math/bits.deBruijn32tab", "math/bits.deBruijn64tab"], loops := true, apart := false, laid := [("math/bits.deBruijn32tab", laid_math_bits_deBruijn32tab), ("math/bits.deBruijn64tab", laid_math_bits_deBruijn64tab), ("internal/strconv.uint64pow10", laid_internal_strconv_uint64pow10), ("sluiceway/term.kinds", laid_sluiceway_term_kinds)] }
def DeduceToldSaid : Prop := deduceToldRow.holds Tryd.pinned (OpenSpec.ofChange deduceToldSpec)

/-- ITS FALSE NEIGHBOUR: 'it returns false'. Refute it at one input. -/
def deduceToldWrong : ChangeSpec := { name := "deduceTold", fn := fun _ => fun
  | [d1, d2, d3] => { results := [.lit (.bool false)], args := [d1, d2, d3] }
  | _ => none }
def DeduceToldWrongFalsely : Prop := deduceToldRow.holds Tryd.pinned (OpenSpec.ofChange deduceToldWrong)

/-- 'sluicewaylaw08.DeduceShares': WHATEVER THE INPUT: true; the input reads as it did. -/
def deduceSharesSpec : ChangeSpec := { name := "deduceShares", fn := fun _ => fun
  | [d1, d2, d3] => { results := [.lit (.bool true)], args := [d1, d2, d3] }
  | _ => none }
def deduceSharesRow : OpenClaim := { program := "ytakehleacibfiaadoor", sum := "36adb70729c9ece80545b91850abd794d3239fd0020c08e7048d8f528b786f9a", func := "sluiceway/sluicewaylaw08.DeduceShares", spec := "deduceShares", inPlace := ["internal/abi.NoEscape", "internal/bytealg.MakeNoZero"], unfollowed := true, recurses := true, named := ["sluiceway/term.kinds", "internal/strconv.uint64pow10", "math/bits.deBruijn32tab", "math/bits.deBruijn64tab"], apart := false, laid := [("math/bits.deBruijn32tab", laid_math_bits_deBruijn32tab), ("math/bits.deBruijn64tab", laid_math_bits_deBruijn64tab), ("internal/strconv.uint64pow10", laid_internal_strconv_uint64pow10), ("sluiceway/term.kinds", laid_sluiceway_term_kinds)] }
def DeduceSharesSaid : Prop := deduceSharesRow.holds Tryd.pinned (OpenSpec.ofChange deduceSharesSpec)

/-- ITS FALSE NEIGHBOUR: 'it returns false'. Refute it at one input. -/
def deduceSharesWrong : ChangeSpec := { name := "deduceShares", fn := fun _ => fun
  | [d1, d2, d3] => { results := [.lit (.bool false)], args := [d1, d2, d3] }
  | _ => none }
def DeduceSharesWrongFalsely : Prop := deduceSharesRow.holds Tryd.pinned (OpenSpec.ofChange deduceSharesWrong)

/-- 'sluicewaylaw08.DeduceFresh': WHATEVER THE INPUT: true; the input reads as it did. -/
def deduceFreshSpec : ChangeSpec := { name := "deduceFresh", fn := fun _ => fun
  | [d1, d2, d3] => { results := [.lit (.bool true)], args := [d1, d2, d3] }
  | _ => none }
def deduceFreshRow : OpenClaim := { program := "ytakehleacibfiaadoor", sum := "36adb70729c9ece80545b91850abd794d3239fd0020c08e7048d8f528b786f9a", func := "sluiceway/sluicewaylaw08.DeduceFresh", spec := "deduceFresh", inPlace := ["internal/abi.NoEscape", "internal/bytealg.MakeNoZero"], unfollowed := true, recurses := true, named := ["sluiceway/term.kinds", "internal/strconv.uint64pow10", "math/bits.deBruijn32tab", "math/bits.deBruijn64tab"], loops := true, apart := false, laid := [("math/bits.deBruijn32tab", laid_math_bits_deBruijn32tab), ("math/bits.deBruijn64tab", laid_math_bits_deBruijn64tab), ("internal/strconv.uint64pow10", laid_internal_strconv_uint64pow10), ("sluiceway/term.kinds", laid_sluiceway_term_kinds)] }
def DeduceFreshSaid : Prop := deduceFreshRow.holds Tryd.pinned (OpenSpec.ofChange deduceFreshSpec)

/-- ITS FALSE NEIGHBOUR: 'it returns false'. Refute it at one input. -/
def deduceFreshWrong : ChangeSpec := { name := "deduceFresh", fn := fun _ => fun
  | [d1, d2, d3] => { results := [.lit (.bool false)], args := [d1, d2, d3] }
  | _ => none }
def DeduceFreshWrongFalsely : Prop := deduceFreshRow.holds Tryd.pinned (OpenSpec.ofChange deduceFreshWrong)

/-- 'sluicewaylaw08.DeduceKept': WHATEVER THE INPUT: true; the input reads as it did. -/
def deduceKeptSpec : ChangeSpec := { name := "deduceKept", fn := fun _ => fun
  | [d1, d2] => { results := [.lit (.bool true)], args := [d1, d2] }
  | _ => none }
def deduceKeptRow : OpenClaim := { program := "ytakehleacibfiaadoor", sum := "36adb70729c9ece80545b91850abd794d3239fd0020c08e7048d8f528b786f9a", func := "sluiceway/sluicewaylaw08.DeduceKept", spec := "deduceKept", inPlace := ["internal/abi.NoEscape", "internal/bytealg.MakeNoZero"], unfollowed := true, recurses := true, named := ["sluiceway/term.kinds", "internal/strconv.uint64pow10", "math/bits.deBruijn32tab", "math/bits.deBruijn64tab"], loops := true, apart := false, laid := [("math/bits.deBruijn32tab", laid_math_bits_deBruijn32tab), ("math/bits.deBruijn64tab", laid_math_bits_deBruijn64tab), ("internal/strconv.uint64pow10", laid_internal_strconv_uint64pow10), ("sluiceway/term.kinds", laid_sluiceway_term_kinds)] }
def DeduceKeptSaid : Prop := deduceKeptRow.holds Tryd.pinned (OpenSpec.ofChange deduceKeptSpec)

/-- ITS FALSE NEIGHBOUR: 'it returns false'. Refute it at one input. -/
def deduceKeptWrong : ChangeSpec := { name := "deduceKept", fn := fun _ => fun
  | [d1, d2] => { results := [.lit (.bool false)], args := [d1, d2] }
  | _ => none }
def DeduceKeptWrongFalsely : Prop := deduceKeptRow.holds Tryd.pinned (OpenSpec.ofChange deduceKeptWrong)

/-- 'sluicewaylaw08.DeduceAtoms': WHATEVER THE INPUT: true; the input reads as it did. -/
def deduceAtomsSpec : ChangeSpec := { name := "deduceAtoms", fn := fun _ => fun
  | [d1, d2] => { results := [.lit (.bool true)], args := [d1, d2] }
  | _ => none }
def deduceAtomsRow : OpenClaim := { program := "ytakehleacibfiaadoor", sum := "36adb70729c9ece80545b91850abd794d3239fd0020c08e7048d8f528b786f9a", func := "sluiceway/sluicewaylaw08.DeduceAtoms", spec := "deduceAtoms", inPlace := ["internal/abi.NoEscape", "internal/bytealg.MakeNoZero"], unfollowed := true, recurses := true, named := ["sluiceway/term.kinds", "internal/strconv.uint64pow10", "math/bits.deBruijn32tab", "math/bits.deBruijn64tab"], loops := true, apart := false, laid := [("math/bits.deBruijn32tab", laid_math_bits_deBruijn32tab), ("math/bits.deBruijn64tab", laid_math_bits_deBruijn64tab), ("internal/strconv.uint64pow10", laid_internal_strconv_uint64pow10), ("sluiceway/term.kinds", laid_sluiceway_term_kinds)] }
def DeduceAtomsSaid : Prop := deduceAtomsRow.holds Tryd.pinned (OpenSpec.ofChange deduceAtomsSpec)

/-- ITS FALSE NEIGHBOUR: 'it returns false'. Refute it at one input. -/
def deduceAtomsWrong : ChangeSpec := { name := "deduceAtoms", fn := fun _ => fun
  | [d1, d2] => { results := [.lit (.bool false)], args := [d1, d2] }
  | _ => none }
def DeduceAtomsWrongFalsely : Prop := deduceAtomsRow.holds Tryd.pinned (OpenSpec.ofChange deduceAtomsWrong)

/-- 'sluicewaylaw08.DeduceChains': WHATEVER THE INPUT: true; the input reads as it did. -/
def deduceChainsSpec : ChangeSpec := { name := "deduceChains", fn := fun _ => fun
  | [d1, d2, d3] => { results := [.lit (.bool true)], args := [d1, d2, d3] }
  | _ => none }
def deduceChainsRow : OpenClaim := { program := "ytakehleacibfiaadoor", sum := "36adb70729c9ece80545b91850abd794d3239fd0020c08e7048d8f528b786f9a", func := "sluiceway/sluicewaylaw08.DeduceChains", spec := "deduceChains", inPlace := ["internal/abi.NoEscape", "internal/bytealg.MakeNoZero"], unfollowed := true, recurses := true, named := ["sluiceway/term.kinds", "internal/strconv.uint64pow10", "math/bits.deBruijn32tab", "math/bits.deBruijn64tab"], apart := false, laid := [("math/bits.deBruijn32tab", laid_math_bits_deBruijn32tab), ("math/bits.deBruijn64tab", laid_math_bits_deBruijn64tab), ("internal/strconv.uint64pow10", laid_internal_strconv_uint64pow10), ("sluiceway/term.kinds", laid_sluiceway_term_kinds)] }
def DeduceChainsSaid : Prop := deduceChainsRow.holds Tryd.pinned (OpenSpec.ofChange deduceChainsSpec)

/-- ITS FALSE NEIGHBOUR: 'it returns false'. Refute it at one input. -/
def deduceChainsWrong : ChangeSpec := { name := "deduceChains", fn := fun _ => fun
  | [d1, d2, d3] => { results := [.lit (.bool false)], args := [d1, d2, d3] }
  | _ => none }
def DeduceChainsWrongFalsely : Prop := deduceChainsRow.holds Tryd.pinned (OpenSpec.ofChange deduceChainsWrong)

/-- 'sluicewaylaw08.DeduceData': WHATEVER THE INPUT: true; the input reads as it did. -/
def deduceDataSpec : ChangeSpec := { name := "deduceData", fn := fun _ => fun
  | [d1, d2, d3] => { results := [.lit (.bool true)], args := [d1, d2, d3] }
  | _ => none }
def deduceDataRow : OpenClaim := { program := "ytakehleacibfiaadoor", sum := "36adb70729c9ece80545b91850abd794d3239fd0020c08e7048d8f528b786f9a", func := "sluiceway/sluicewaylaw08.DeduceData", spec := "deduceData", inPlace := ["internal/abi.NoEscape", "internal/bytealg.MakeNoZero"], unfollowed := true, recurses := true, named := ["sluiceway/term.kinds", "internal/strconv.uint64pow10", "math/bits.deBruijn32tab", "math/bits.deBruijn64tab"], loops := true, apart := false, laid := [("math/bits.deBruijn32tab", laid_math_bits_deBruijn32tab), ("math/bits.deBruijn64tab", laid_math_bits_deBruijn64tab), ("internal/strconv.uint64pow10", laid_internal_strconv_uint64pow10), ("sluiceway/term.kinds", laid_sluiceway_term_kinds)] }
def DeduceDataSaid : Prop := deduceDataRow.holds Tryd.pinned (OpenSpec.ofChange deduceDataSpec)

/-- ITS FALSE NEIGHBOUR: 'it returns false'. Refute it at one input. -/
def deduceDataWrong : ChangeSpec := { name := "deduceData", fn := fun _ => fun
  | [d1, d2, d3] => { results := [.lit (.bool false)], args := [d1, d2, d3] }
  | _ => none }
def DeduceDataWrongFalsely : Prop := deduceDataRow.holds Tryd.pinned (OpenSpec.ofChange deduceDataWrong)

/-- 'sluicewaylaw08.DeduceMore': WHATEVER THE INPUT: true; the input reads as it did. -/
def deduceMoreSpec : ChangeSpec := { name := "deduceMore", fn := fun _ => fun
  | [d1, d2, d3] => { results := [.lit (.bool true)], args := [d1, d2, d3] }
  | _ => none }
def deduceMoreRow : OpenClaim := { program := "ytakehleacibfiaadoor", sum := "36adb70729c9ece80545b91850abd794d3239fd0020c08e7048d8f528b786f9a", func := "sluiceway/sluicewaylaw08.DeduceMore", spec := "deduceMore", inPlace := ["internal/abi.NoEscape", "internal/bytealg.MakeNoZero"], unfollowed := true, recurses := true, named := ["sluiceway/term.kinds", "internal/strconv.uint64pow10", "math/bits.deBruijn32tab", "math/bits.deBruijn64tab"], loops := true, apart := false, laid := [("math/bits.deBruijn32tab", laid_math_bits_deBruijn32tab), ("math/bits.deBruijn64tab", laid_math_bits_deBruijn64tab), ("internal/strconv.uint64pow10", laid_internal_strconv_uint64pow10), ("sluiceway/term.kinds", laid_sluiceway_term_kinds)] }
def DeduceMoreSaid : Prop := deduceMoreRow.holds Tryd.pinned (OpenSpec.ofChange deduceMoreSpec)

/-- ITS FALSE NEIGHBOUR: 'it returns false'. Refute it at one input. -/
def deduceMoreWrong : ChangeSpec := { name := "deduceMore", fn := fun _ => fun
  | [d1, d2, d3] => { results := [.lit (.bool false)], args := [d1, d2, d3] }
  | _ => none }
def DeduceMoreWrongFalsely : Prop := deduceMoreRow.holds Tryd.pinned (OpenSpec.ofChange deduceMoreWrong)

/-- 'sluicewaylaw08.DeduceClosed': WHATEVER THE INPUT: true; the input reads as it did. -/
def deduceClosedSpec : ChangeSpec := { name := "deduceClosed", fn := fun _ => fun
  | [d] => { results := [.lit (.bool true)], args := [d] }
  | _ => none }
def deduceClosedRow : OpenClaim := { program := "ytakehleacibfiaadoor", sum := "36adb70729c9ece80545b91850abd794d3239fd0020c08e7048d8f528b786f9a", func := "sluiceway/sluicewaylaw08.DeduceClosed", spec := "deduceClosed", inPlace := ["internal/abi.NoEscape", "internal/bytealg.MakeNoZero"], unfollowed := true, recurses := true, named := ["sluiceway/term.kinds", "internal/strconv.uint64pow10", "math/bits.deBruijn32tab", "math/bits.deBruijn64tab"], loops := true, apart := false, laid := [("math/bits.deBruijn32tab", laid_math_bits_deBruijn32tab), ("math/bits.deBruijn64tab", laid_math_bits_deBruijn64tab), ("internal/strconv.uint64pow10", laid_internal_strconv_uint64pow10), ("sluiceway/term.kinds", laid_sluiceway_term_kinds)] }
def DeduceClosedSaid : Prop := deduceClosedRow.holds Tryd.pinned (OpenSpec.ofChange deduceClosedSpec)

/-- ITS FALSE NEIGHBOUR: 'it returns false'. Refute it at one input. -/
def deduceClosedWrong : ChangeSpec := { name := "deduceClosed", fn := fun _ => fun
  | [d] => { results := [.lit (.bool false)], args := [d] }
  | _ => none }
def DeduceClosedWrongFalsely : Prop := deduceClosedRow.holds Tryd.pinned (OpenSpec.ofChange deduceClosedWrong)

/-- 'sluicewaylaw08.DeduceWithin': WHATEVER THE INPUT: true; the input reads as it did. -/
def deduceWithinSpec : ChangeSpec := { name := "deduceWithin", fn := fun _ => fun
  | [d] => { results := [.lit (.bool true)], args := [d] }
  | _ => none }
def deduceWithinRow : OpenClaim := { program := "ytakehleacibfiaadoor", sum := "36adb70729c9ece80545b91850abd794d3239fd0020c08e7048d8f528b786f9a", func := "sluiceway/sluicewaylaw08.DeduceWithin", spec := "deduceWithin", inPlace := ["internal/abi.NoEscape", "internal/bytealg.MakeNoZero"], unfollowed := true, recurses := true, named := ["sluiceway/term.kinds", "internal/strconv.uint64pow10", "math/bits.deBruijn32tab", "math/bits.deBruijn64tab"], loops := true, apart := false, laid := [("math/bits.deBruijn32tab", laid_math_bits_deBruijn32tab), ("math/bits.deBruijn64tab", laid_math_bits_deBruijn64tab), ("internal/strconv.uint64pow10", laid_internal_strconv_uint64pow10), ("sluiceway/term.kinds", laid_sluiceway_term_kinds)] }
def DeduceWithinSaid : Prop := deduceWithinRow.holds Tryd.pinned (OpenSpec.ofChange deduceWithinSpec)

/-- ITS FALSE NEIGHBOUR: 'it returns false'. Refute it at one input. -/
def deduceWithinWrong : ChangeSpec := { name := "deduceWithin", fn := fun _ => fun
  | [d] => { results := [.lit (.bool false)], args := [d] }
  | _ => none }
def DeduceWithinWrongFalsely : Prop := deduceWithinRow.holds Tryd.pinned (OpenSpec.ofChange deduceWithinWrong)

/- THE SECOND FORM. 'bulk': how many values and letters a reading holds, each counted each time it is reached (what is shared counts as often as it is met; a slice's spare places count too). A statement '..UptoSaid' is the law's where the arguments, and the package variables that the reading takes, are together of bulk at most 1048576: NARROWER than '..Said'. Prove '..Said' where nothing that the law and all that it calls make is longer than what came in: it says more and counts as full. Else prove '..UptoSaid'. A law counts once. -/
mutual
def uptoBulk {H : Type} : DataW H → Nat
  | .lit (.string bytes) => bytes.length + 1
  | .lit _ => 1
  | .nil => 1
  | .ptr d => uptoBulk d + 1
  | .slice elems spare => uptoBulkAll elems + uptoBulkAll spare + 1
  | .agg parts => uptoBulkAll parts + 1
  | .iface _ d => uptoBulk d + 1
  | .map entries => uptoBulkEntries entries + 1
  | .held _ => 1
def uptoBulkAll {H : Type} : List (DataW H) → Nat
  | [] => 0
  | d :: r => uptoBulk d + uptoBulkAll r
def uptoBulkEntries {H : Type} : List (Lit × DataW H) → Nat
  | [] => 0
  | x :: r => uptoBulkEntry x + uptoBulkEntries r
def uptoBulkEntry {H : Type} : Lit × DataW H → Nat
  | (.string bytes, d) => bytes.length + uptoBulk d + 1
  | (_, d) => uptoBulk d + 1
 end
def uptoSmall : (H : Type) → List (DataW H) → Bool := fun _ ds => decide (uptoBulkAll ds ≤ 1048576)
def OpenSpec.upto (s : _root_.Go.ChangeSpec) : _root_.Go.OpenSpec := { _root_.Go.OpenSpec.ofChange s with cond := some uptoSmall }

/-- 'sluicewaylaw08.DeduceTells', WHERE WHAT IT READS IS OF BULK AT MOST 1048576: true; the input reads as it did. -/
def deduceTellsUptoRow : OpenClaim := { program := "ytakehleacibfiaadoor", sum := "36adb70729c9ece80545b91850abd794d3239fd0020c08e7048d8f528b786f9a", func := "sluiceway/sluicewaylaw08.DeduceTells", spec := "deduceTells", inPlace := ["internal/abi.NoEscape", "internal/bytealg.MakeNoZero"], unfollowed := true, recurses := true, named := ["sluiceway/term.kinds", "internal/strconv.uint64pow10", "math/bits.deBruijn32tab", "math/bits.deBruijn64tab"], loops := true, apart := false, laid := [("math/bits.deBruijn32tab", laid_math_bits_deBruijn32tab), ("math/bits.deBruijn64tab", laid_math_bits_deBruijn64tab), ("internal/strconv.uint64pow10", laid_internal_strconv_uint64pow10), ("sluiceway/term.kinds", laid_sluiceway_term_kinds)], narrowed := true }
def DeduceTellsUptoSaid : Prop := deduceTellsUptoRow.holds Tryd.pinned (OpenSpec.upto deduceTellsSpec)

/-- 'sluicewaylaw08.DeduceTold', WHERE WHAT IT READS IS OF BULK AT MOST 1048576: true; the input reads as it did. -/
def deduceToldUptoRow : OpenClaim := { program := "ytakehleacibfiaadoor", sum := "36adb70729c9ece80545b91850abd794d3239fd0020c08e7048d8f528b786f9a", func := "sluiceway/sluicewaylaw08.DeduceTold", spec := "deduceTold", inPlace := ["internal/abi.NoEscape", "internal/bytealg.MakeNoZero"], unfollowed := true, recurses := true, named := ["sluiceway/term.kinds", "internal/strconv.uint64pow10", "math/bits.deBruijn32tab", "math/bits.deBruijn64tab"], loops := true, apart := false, laid := [("math/bits.deBruijn32tab", laid_math_bits_deBruijn32tab), ("math/bits.deBruijn64tab", laid_math_bits_deBruijn64tab), ("internal/strconv.uint64pow10", laid_internal_strconv_uint64pow10), ("sluiceway/term.kinds", laid_sluiceway_term_kinds)], narrowed := true }
def DeduceToldUptoSaid : Prop := deduceToldUptoRow.holds Tryd.pinned (OpenSpec.upto deduceToldSpec)

/-- 'sluicewaylaw08.DeduceShares', WHERE WHAT IT READS IS OF BULK AT MOST 1048576: true; the input reads as it did. -/
def deduceSharesUptoRow : OpenClaim := { program := "ytakehleacibfiaadoor", sum := "36adb70729c9ece80545b91850abd794d3239fd0020c08e7048d8f528b786f9a", func := "sluiceway/sluicewaylaw08.DeduceShares", spec := "deduceShares", inPlace := ["internal/abi.NoEscape", "internal/bytealg.MakeNoZero"], unfollowed := true, recurses := true, named := ["sluiceway/term.kinds", "internal/strconv.uint64pow10", "math/bits.deBruijn32tab", "math/bits.deBruijn64tab"], apart := false, laid := [("math/bits.deBruijn32tab", laid_math_bits_deBruijn32tab), ("math/bits.deBruijn64tab", laid_math_bits_deBruijn64tab), ("internal/strconv.uint64pow10", laid_internal_strconv_uint64pow10), ("sluiceway/term.kinds", laid_sluiceway_term_kinds)], narrowed := true }
def DeduceSharesUptoSaid : Prop := deduceSharesUptoRow.holds Tryd.pinned (OpenSpec.upto deduceSharesSpec)

/-- 'sluicewaylaw08.DeduceFresh', WHERE WHAT IT READS IS OF BULK AT MOST 1048576: true; the input reads as it did. -/
def deduceFreshUptoRow : OpenClaim := { program := "ytakehleacibfiaadoor", sum := "36adb70729c9ece80545b91850abd794d3239fd0020c08e7048d8f528b786f9a", func := "sluiceway/sluicewaylaw08.DeduceFresh", spec := "deduceFresh", inPlace := ["internal/abi.NoEscape", "internal/bytealg.MakeNoZero"], unfollowed := true, recurses := true, named := ["sluiceway/term.kinds", "internal/strconv.uint64pow10", "math/bits.deBruijn32tab", "math/bits.deBruijn64tab"], loops := true, apart := false, laid := [("math/bits.deBruijn32tab", laid_math_bits_deBruijn32tab), ("math/bits.deBruijn64tab", laid_math_bits_deBruijn64tab), ("internal/strconv.uint64pow10", laid_internal_strconv_uint64pow10), ("sluiceway/term.kinds", laid_sluiceway_term_kinds)], narrowed := true }
def DeduceFreshUptoSaid : Prop := deduceFreshUptoRow.holds Tryd.pinned (OpenSpec.upto deduceFreshSpec)

/-- 'sluicewaylaw08.DeduceKept', WHERE WHAT IT READS IS OF BULK AT MOST 1048576: true; the input reads as it did. -/
def deduceKeptUptoRow : OpenClaim := { program := "ytakehleacibfiaadoor", sum := "36adb70729c9ece80545b91850abd794d3239fd0020c08e7048d8f528b786f9a", func := "sluiceway/sluicewaylaw08.DeduceKept", spec := "deduceKept", inPlace := ["internal/abi.NoEscape", "internal/bytealg.MakeNoZero"], unfollowed := true, recurses := true, named := ["sluiceway/term.kinds", "internal/strconv.uint64pow10", "math/bits.deBruijn32tab", "math/bits.deBruijn64tab"], loops := true, apart := false, laid := [("math/bits.deBruijn32tab", laid_math_bits_deBruijn32tab), ("math/bits.deBruijn64tab", laid_math_bits_deBruijn64tab), ("internal/strconv.uint64pow10", laid_internal_strconv_uint64pow10), ("sluiceway/term.kinds", laid_sluiceway_term_kinds)], narrowed := true }
def DeduceKeptUptoSaid : Prop := deduceKeptUptoRow.holds Tryd.pinned (OpenSpec.upto deduceKeptSpec)

/-- 'sluicewaylaw08.DeduceAtoms', WHERE WHAT IT READS IS OF BULK AT MOST 1048576: true; the input reads as it did. -/
def deduceAtomsUptoRow : OpenClaim := { program := "ytakehleacibfiaadoor", sum := "36adb70729c9ece80545b91850abd794d3239fd0020c08e7048d8f528b786f9a", func := "sluiceway/sluicewaylaw08.DeduceAtoms", spec := "deduceAtoms", inPlace := ["internal/abi.NoEscape", "internal/bytealg.MakeNoZero"], unfollowed := true, recurses := true, named := ["sluiceway/term.kinds", "internal/strconv.uint64pow10", "math/bits.deBruijn32tab", "math/bits.deBruijn64tab"], loops := true, apart := false, laid := [("math/bits.deBruijn32tab", laid_math_bits_deBruijn32tab), ("math/bits.deBruijn64tab", laid_math_bits_deBruijn64tab), ("internal/strconv.uint64pow10", laid_internal_strconv_uint64pow10), ("sluiceway/term.kinds", laid_sluiceway_term_kinds)], narrowed := true }
def DeduceAtomsUptoSaid : Prop := deduceAtomsUptoRow.holds Tryd.pinned (OpenSpec.upto deduceAtomsSpec)

/-- 'sluicewaylaw08.DeduceChains', WHERE WHAT IT READS IS OF BULK AT MOST 1048576: true; the input reads as it did. -/
def deduceChainsUptoRow : OpenClaim := { program := "ytakehleacibfiaadoor", sum := "36adb70729c9ece80545b91850abd794d3239fd0020c08e7048d8f528b786f9a", func := "sluiceway/sluicewaylaw08.DeduceChains", spec := "deduceChains", inPlace := ["internal/abi.NoEscape", "internal/bytealg.MakeNoZero"], unfollowed := true, recurses := true, named := ["sluiceway/term.kinds", "internal/strconv.uint64pow10", "math/bits.deBruijn32tab", "math/bits.deBruijn64tab"], apart := false, laid := [("math/bits.deBruijn32tab", laid_math_bits_deBruijn32tab), ("math/bits.deBruijn64tab", laid_math_bits_deBruijn64tab), ("internal/strconv.uint64pow10", laid_internal_strconv_uint64pow10), ("sluiceway/term.kinds", laid_sluiceway_term_kinds)], narrowed := true }
def DeduceChainsUptoSaid : Prop := deduceChainsUptoRow.holds Tryd.pinned (OpenSpec.upto deduceChainsSpec)

/-- 'sluicewaylaw08.DeduceData', WHERE WHAT IT READS IS OF BULK AT MOST 1048576: true; the input reads as it did. -/
def deduceDataUptoRow : OpenClaim := { program := "ytakehleacibfiaadoor", sum := "36adb70729c9ece80545b91850abd794d3239fd0020c08e7048d8f528b786f9a", func := "sluiceway/sluicewaylaw08.DeduceData", spec := "deduceData", inPlace := ["internal/abi.NoEscape", "internal/bytealg.MakeNoZero"], unfollowed := true, recurses := true, named := ["sluiceway/term.kinds", "internal/strconv.uint64pow10", "math/bits.deBruijn32tab", "math/bits.deBruijn64tab"], loops := true, apart := false, laid := [("math/bits.deBruijn32tab", laid_math_bits_deBruijn32tab), ("math/bits.deBruijn64tab", laid_math_bits_deBruijn64tab), ("internal/strconv.uint64pow10", laid_internal_strconv_uint64pow10), ("sluiceway/term.kinds", laid_sluiceway_term_kinds)], narrowed := true }
def DeduceDataUptoSaid : Prop := deduceDataUptoRow.holds Tryd.pinned (OpenSpec.upto deduceDataSpec)

/-- 'sluicewaylaw08.DeduceMore', WHERE WHAT IT READS IS OF BULK AT MOST 1048576: true; the input reads as it did. -/
def deduceMoreUptoRow : OpenClaim := { program := "ytakehleacibfiaadoor", sum := "36adb70729c9ece80545b91850abd794d3239fd0020c08e7048d8f528b786f9a", func := "sluiceway/sluicewaylaw08.DeduceMore", spec := "deduceMore", inPlace := ["internal/abi.NoEscape", "internal/bytealg.MakeNoZero"], unfollowed := true, recurses := true, named := ["sluiceway/term.kinds", "internal/strconv.uint64pow10", "math/bits.deBruijn32tab", "math/bits.deBruijn64tab"], loops := true, apart := false, laid := [("math/bits.deBruijn32tab", laid_math_bits_deBruijn32tab), ("math/bits.deBruijn64tab", laid_math_bits_deBruijn64tab), ("internal/strconv.uint64pow10", laid_internal_strconv_uint64pow10), ("sluiceway/term.kinds", laid_sluiceway_term_kinds)], narrowed := true }
def DeduceMoreUptoSaid : Prop := deduceMoreUptoRow.holds Tryd.pinned (OpenSpec.upto deduceMoreSpec)

/-- 'sluicewaylaw08.DeduceClosed', WHERE WHAT IT READS IS OF BULK AT MOST 1048576: true; the input reads as it did. -/
def deduceClosedUptoRow : OpenClaim := { program := "ytakehleacibfiaadoor", sum := "36adb70729c9ece80545b91850abd794d3239fd0020c08e7048d8f528b786f9a", func := "sluiceway/sluicewaylaw08.DeduceClosed", spec := "deduceClosed", inPlace := ["internal/abi.NoEscape", "internal/bytealg.MakeNoZero"], unfollowed := true, recurses := true, named := ["sluiceway/term.kinds", "internal/strconv.uint64pow10", "math/bits.deBruijn32tab", "math/bits.deBruijn64tab"], loops := true, apart := false, laid := [("math/bits.deBruijn32tab", laid_math_bits_deBruijn32tab), ("math/bits.deBruijn64tab", laid_math_bits_deBruijn64tab), ("internal/strconv.uint64pow10", laid_internal_strconv_uint64pow10), ("sluiceway/term.kinds", laid_sluiceway_term_kinds)], narrowed := true }
def DeduceClosedUptoSaid : Prop := deduceClosedUptoRow.holds Tryd.pinned (OpenSpec.upto deduceClosedSpec)

/-- 'sluicewaylaw08.DeduceWithin', WHERE WHAT IT READS IS OF BULK AT MOST 1048576: true; the input reads as it did. -/
def deduceWithinUptoRow : OpenClaim := { program := "ytakehleacibfiaadoor", sum := "36adb70729c9ece80545b91850abd794d3239fd0020c08e7048d8f528b786f9a", func := "sluiceway/sluicewaylaw08.DeduceWithin", spec := "deduceWithin", inPlace := ["internal/abi.NoEscape", "internal/bytealg.MakeNoZero"], unfollowed := true, recurses := true, named := ["sluiceway/term.kinds", "internal/strconv.uint64pow10", "math/bits.deBruijn32tab", "math/bits.deBruijn64tab"], loops := true, apart := false, laid := [("math/bits.deBruijn32tab", laid_math_bits_deBruijn32tab), ("math/bits.deBruijn64tab", laid_math_bits_deBruijn64tab), ("internal/strconv.uint64pow10", laid_internal_strconv_uint64pow10), ("sluiceway/term.kinds", laid_sluiceway_term_kinds)], narrowed := true }
def DeduceWithinUptoSaid : Prop := deduceWithinUptoRow.holds Tryd.pinned (OpenSpec.upto deduceWithinSpec)

end Rows
end Go.Proofs.YtakehleacibfiaaDoor
