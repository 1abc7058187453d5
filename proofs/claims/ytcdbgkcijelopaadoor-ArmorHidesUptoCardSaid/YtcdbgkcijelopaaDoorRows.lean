/-
  NARROWER THAN 'FOR EVERY INPUT', by the rows' own cells (each row's printed sentence says how): ArmorMakes: loops, laid · ArmorReads: loops, laid · ArmorBack: loops, laid · ArmorApart: laid · TermDepths: loops, laid · TermWithin: loops, laid · TermPairs: loops, laid · TermNames: laid · TermShares: loops, laid · KeysHide: laid · ArmorHides: laid.
  DERIVED. THE GIVEN ROWS OF THIS SEAT. 11 by the template 'for every input the law returns true; each argument reads behind the call as it read before'; 0 by the template 'total and deterministic' (their statements: YtcdbgkcijelopaaDoorTotals.lean).
  GIVEN WITH THE SEED: the statements are not yours to turn. If you find one false, say at which input.
  Laid BY PROGRAM, IN A SANDBOX (cutbox-rows.mjs): the forced cells as the released guide's own fill.sh prints them over the translation 01fc5c838251a63d… (all of the seat's roots in one cut). By AI agents, Wed Nov 11 2026. No macro, syntax, notation, axiom, sorry.
-/
import Derived.Test.YtcdbgkcijelopaaDoorChecked
import GoSem.Claim
import GoSem.ClaimJoined
import GoSem.ClaimMapViews
import Derived.JoinedTies
import Derived.KernelRfl
namespace Go.Proofs.YtcdbgkcijelopaaDoor
/- THE CELL 'sum', in the pinned program and in every row, IS THE sha256 OF THE DUMP (.gsa) THAT YtcdbgkcijelopaaDoorProg.lean LOADS. Nothing in Lean hashes anything: it is a label: what it is worth is what the hold of that sum in a sandbox is worth. -/
noncomputable def Tryd.pinned : Pinned := { name := "ytcdbgkcijelopaadoor", sum := "01fc5c838251a63d78acb163d172105a8cee564b9cdaab0f2ffa0a6209470d56", checked := Tryd.checked }
namespace Rows
def none {H : Type} : Left H := { results := [], args := [] }

/- WHAT THE LISTED PACKAGE-LEVEL VARIABLES READ AS WHEN THE CALL BEGINS. Each datum BY PROGRAM (the guide's laid-datum.mjs) off the statement by which the dump's own 'gosem.cut.vars' lays the variable. In a bare row this is a premise. The card (YtcdbgkcijelopaaDoorCards.lean) ties it to the program's text. -/
def laid_math_bits_deBruijn32tab {H : Type} : DataW H := .agg [.lit (.int .u8 0), .lit (.int .u8 1), .lit (.int .u8 28), .lit (.int .u8 2), .lit (.int .u8 29), .lit (.int .u8 14), .lit (.int .u8 24), .lit (.int .u8 3), .lit (.int .u8 30), .lit (.int .u8 22), .lit (.int .u8 20), .lit (.int .u8 15), .lit (.int .u8 25), .lit (.int .u8 17), .lit (.int .u8 4), .lit (.int .u8 8), .lit (.int .u8 31), .lit (.int .u8 27), .lit (.int .u8 13), .lit (.int .u8 23), .lit (.int .u8 21), .lit (.int .u8 19), .lit (.int .u8 16), .lit (.int .u8 7), .lit (.int .u8 26), .lit (.int .u8 12), .lit (.int .u8 18), .lit (.int .u8 6), .lit (.int .u8 11), .lit (.int .u8 5), .lit (.int .u8 10), .lit (.int .u8 9)]
def laid_math_bits_deBruijn64tab {H : Type} : DataW H := .agg [.lit (.int .u8 0), .lit (.int .u8 1), .lit (.int .u8 56), .lit (.int .u8 2), .lit (.int .u8 57), .lit (.int .u8 49), .lit (.int .u8 28), .lit (.int .u8 3), .lit (.int .u8 61), .lit (.int .u8 58), .lit (.int .u8 42), .lit (.int .u8 50), .lit (.int .u8 38), .lit (.int .u8 29), .lit (.int .u8 17), .lit (.int .u8 4), .lit (.int .u8 62), .lit (.int .u8 47), .lit (.int .u8 59), .lit (.int .u8 36), .lit (.int .u8 45), .lit (.int .u8 43), .lit (.int .u8 51), .lit (.int .u8 22), .lit (.int .u8 53), .lit (.int .u8 39), .lit (.int .u8 33), .lit (.int .u8 30), .lit (.int .u8 24), .lit (.int .u8 18), .lit (.int .u8 12), .lit (.int .u8 5), .lit (.int .u8 63), .lit (.int .u8 55), .lit (.int .u8 48), .lit (.int .u8 27), .lit (.int .u8 60), .lit (.int .u8 41), .lit (.int .u8 37), .lit (.int .u8 16), .lit (.int .u8 46), .lit (.int .u8 35), .lit (.int .u8 44), .lit (.int .u8 21), .lit (.int .u8 52), .lit (.int .u8 32), .lit (.int .u8 23), .lit (.int .u8 11), .lit (.int .u8 54), .lit (.int .u8 26), .lit (.int .u8 40), .lit (.int .u8 15), .lit (.int .u8 34), .lit (.int .u8 20), .lit (.int .u8 31), .lit (.int .u8 10), .lit (.int .u8 25), .lit (.int .u8 14), .lit (.int .u8 19), .lit (.int .u8 9), .lit (.int .u8 13), .lit (.int .u8 8), .lit (.int .u8 7), .lit (.int .u8 6)]
def laid_internal_strconv_uint64pow10 {H : Type} : DataW H := .agg [.lit (.int .u64 1), .lit (.int .u64 10), .lit (.int .u64 100), .lit (.int .u64 1000), .lit (.int .u64 10000), .lit (.int .u64 100000), .lit (.int .u64 1000000), .lit (.int .u64 10000000), .lit (.int .u64 100000000), .lit (.int .u64 1000000000), .lit (.int .u64 10000000000), .lit (.int .u64 100000000000), .lit (.int .u64 1000000000000), .lit (.int .u64 10000000000000), .lit (.int .u64 100000000000000), .lit (.int .u64 1000000000000000), .lit (.int .u64 10000000000000000), .lit (.int .u64 100000000000000000), .lit (.int .u64 1000000000000000000), .lit (.int .u64 10000000000000000000)]
def laid_sluiceway_term_kinds {H : Type} : DataW H := .agg [.agg [.lit (.string []), .lit (.int .i64 0), .lit (.bool false)], .agg [.lit (.string [100]), .lit (.int .i64 0), .lit (.bool true)], .agg [.lit (.string [97]), .lit (.int .i64 0), .lit (.bool true)], .agg [.lit (.string [112]), .lit (.int .i64 (-1)), .lit (.bool false)], .agg [.lit (.string [101]), .lit (.int .i64 2), .lit (.bool false)], .agg [.lit (.string [109]), .lit (.int .i64 2), .lit (.bool false)], .agg [.lit (.string [104]), .lit (.int .i64 1), .lit (.bool false)], .agg [.lit (.string [107]), .lit (.int .i64 1), .lit (.bool true)], .agg [.lit (.string [117]), .lit (.int .i64 1), .lit (.bool false)], .agg [.lit (.string [115]), .lit (.int .i64 2), .lit (.bool false)], .agg [.lit (.string [120]), .lit (.int .i64 2), .lit (.bool false)]]

/-- 'sluicewaylaw16.ArmorMakes': WHATEVER THE INPUT: true; the input reads as it did. -/
def armorMakesSpec : ChangeSpec := { name := "armorMakes", fn := fun _ => fun
  | [d1, d2, d3] => { results := [.lit (.bool true)], args := [d1, d2, d3] }
  | _ => none }
def armorMakesRow : OpenClaim := { program := "ytcdbgkcijelopaadoor", sum := "01fc5c838251a63d78acb163d172105a8cee564b9cdaab0f2ffa0a6209470d56", func := "sluiceway/sluicewaylaw16.ArmorMakes", spec := "armorMakes", unfollowed := true, recurses := true, named := ["internal/strconv.uint64pow10", "math/bits.deBruijn32tab", "math/bits.deBruijn64tab"], loops := true, apart := false, laid := [("math/bits.deBruijn32tab", laid_math_bits_deBruijn32tab), ("math/bits.deBruijn64tab", laid_math_bits_deBruijn64tab), ("internal/strconv.uint64pow10", laid_internal_strconv_uint64pow10)] }
def ArmorMakesSaid : Prop := armorMakesRow.holds Tryd.pinned (OpenSpec.ofChange armorMakesSpec)

/-- ITS FALSE NEIGHBOUR: 'it returns false'. Refute it at one input. -/
def armorMakesWrong : ChangeSpec := { name := "armorMakes", fn := fun _ => fun
  | [d1, d2, d3] => { results := [.lit (.bool false)], args := [d1, d2, d3] }
  | _ => none }
def ArmorMakesWrongFalsely : Prop := armorMakesRow.holds Tryd.pinned (OpenSpec.ofChange armorMakesWrong)

/-- 'sluicewaylaw16.ArmorReads': WHATEVER THE INPUT: true; the input reads as it did. -/
def armorReadsSpec : ChangeSpec := { name := "armorReads", fn := fun _ => fun
  | [d1, d2, d3, d4, d5] => { results := [.lit (.bool true)], args := [d1, d2, d3, d4, d5] }
  | _ => none }
def armorReadsRow : OpenClaim := { program := "ytcdbgkcijelopaadoor", sum := "01fc5c838251a63d78acb163d172105a8cee564b9cdaab0f2ffa0a6209470d56", func := "sluiceway/sluicewaylaw16.ArmorReads", spec := "armorReads", unfollowed := true, recurses := true, named := ["internal/strconv.uint64pow10", "math/bits.deBruijn32tab", "math/bits.deBruijn64tab"], loops := true, apart := false, laid := [("math/bits.deBruijn32tab", laid_math_bits_deBruijn32tab), ("math/bits.deBruijn64tab", laid_math_bits_deBruijn64tab), ("internal/strconv.uint64pow10", laid_internal_strconv_uint64pow10)] }
def ArmorReadsSaid : Prop := armorReadsRow.holds Tryd.pinned (OpenSpec.ofChange armorReadsSpec)

/-- ITS FALSE NEIGHBOUR: 'it returns false'. Refute it at one input. -/
def armorReadsWrong : ChangeSpec := { name := "armorReads", fn := fun _ => fun
  | [d1, d2, d3, d4, d5] => { results := [.lit (.bool false)], args := [d1, d2, d3, d4, d5] }
  | _ => none }
def ArmorReadsWrongFalsely : Prop := armorReadsRow.holds Tryd.pinned (OpenSpec.ofChange armorReadsWrong)

/-- 'sluicewaylaw16.ArmorBack': WHATEVER THE INPUT: true; the input reads as it did. -/
def armorBackSpec : ChangeSpec := { name := "armorBack", fn := fun _ => fun
  | [d1, d2, d3, d4, d5] => { results := [.lit (.bool true)], args := [d1, d2, d3, d4, d5] }
  | _ => none }
def armorBackRow : OpenClaim := { program := "ytcdbgkcijelopaadoor", sum := "01fc5c838251a63d78acb163d172105a8cee564b9cdaab0f2ffa0a6209470d56", func := "sluiceway/sluicewaylaw16.ArmorBack", spec := "armorBack", unfollowed := true, recurses := true, named := ["internal/strconv.uint64pow10", "math/bits.deBruijn32tab", "math/bits.deBruijn64tab"], loops := true, apart := false, laid := [("math/bits.deBruijn32tab", laid_math_bits_deBruijn32tab), ("math/bits.deBruijn64tab", laid_math_bits_deBruijn64tab), ("internal/strconv.uint64pow10", laid_internal_strconv_uint64pow10)] }
def ArmorBackSaid : Prop := armorBackRow.holds Tryd.pinned (OpenSpec.ofChange armorBackSpec)

/-- ITS FALSE NEIGHBOUR: 'it returns false'. Refute it at one input. -/
def armorBackWrong : ChangeSpec := { name := "armorBack", fn := fun _ => fun
  | [d1, d2, d3, d4, d5] => { results := [.lit (.bool false)], args := [d1, d2, d3, d4, d5] }
  | _ => none }
def ArmorBackWrongFalsely : Prop := armorBackRow.holds Tryd.pinned (OpenSpec.ofChange armorBackWrong)

/-- 'sluicewaylaw16.ArmorApart': WHATEVER THE INPUT: true; the input reads as it did. -/
def armorApartSpec : ChangeSpec := { name := "armorApart", fn := fun _ => fun
  | [d1, d2, d3, d4] => { results := [.lit (.bool true)], args := [d1, d2, d3, d4] }
  | _ => none }
def armorApartRow : OpenClaim := { program := "ytcdbgkcijelopaadoor", sum := "01fc5c838251a63d78acb163d172105a8cee564b9cdaab0f2ffa0a6209470d56", func := "sluiceway/sluicewaylaw16.ArmorApart", spec := "armorApart", unfollowed := true, recurses := true, named := ["internal/strconv.uint64pow10", "math/bits.deBruijn32tab", "math/bits.deBruijn64tab"], apart := false, laid := [("math/bits.deBruijn32tab", laid_math_bits_deBruijn32tab), ("math/bits.deBruijn64tab", laid_math_bits_deBruijn64tab), ("internal/strconv.uint64pow10", laid_internal_strconv_uint64pow10)] }
def ArmorApartSaid : Prop := armorApartRow.holds Tryd.pinned (OpenSpec.ofChange armorApartSpec)

/-- ITS FALSE NEIGHBOUR: 'it returns false'. Refute it at one input. -/
def armorApartWrong : ChangeSpec := { name := "armorApart", fn := fun _ => fun
  | [d1, d2, d3, d4] => { results := [.lit (.bool false)], args := [d1, d2, d3, d4] }
  | _ => none }
def ArmorApartWrongFalsely : Prop := armorApartRow.holds Tryd.pinned (OpenSpec.ofChange armorApartWrong)

/-- 'sluicewaylaw07.TermDepths': WHATEVER THE INPUT: true; the input reads as it did. -/
def termDepthsSpec : ChangeSpec := { name := "termDepths", fn := fun _ => fun
  | [d] => { results := [.lit (.bool true)], args := [d] }
  | _ => none }
def termDepthsRow : OpenClaim := { program := "ytcdbgkcijelopaadoor", sum := "01fc5c838251a63d78acb163d172105a8cee564b9cdaab0f2ffa0a6209470d56", func := "sluiceway/sluicewaylaw07.TermDepths", spec := "termDepths", inPlace := ["internal/abi.NoEscape", "internal/bytealg.MakeNoZero"], unfollowed := true, recurses := true, named := ["sluiceway/term.kinds", "internal/strconv.uint64pow10", "math/bits.deBruijn32tab", "math/bits.deBruijn64tab"], loops := true, apart := false, laid := [("math/bits.deBruijn32tab", laid_math_bits_deBruijn32tab), ("math/bits.deBruijn64tab", laid_math_bits_deBruijn64tab), ("internal/strconv.uint64pow10", laid_internal_strconv_uint64pow10), ("sluiceway/term.kinds", laid_sluiceway_term_kinds)] }
def TermDepthsSaid : Prop := termDepthsRow.holds Tryd.pinned (OpenSpec.ofChange termDepthsSpec)

/-- ITS FALSE NEIGHBOUR: 'it returns false'. Refute it at one input. -/
def termDepthsWrong : ChangeSpec := { name := "termDepths", fn := fun _ => fun
  | [d] => { results := [.lit (.bool false)], args := [d] }
  | _ => none }
def TermDepthsWrongFalsely : Prop := termDepthsRow.holds Tryd.pinned (OpenSpec.ofChange termDepthsWrong)

/-- 'sluicewaylaw07.TermWithin': WHATEVER THE INPUT: true; the input reads as it did. -/
def termWithinSpec : ChangeSpec := { name := "termWithin", fn := fun _ => fun
  | [d] => { results := [.lit (.bool true)], args := [d] }
  | _ => none }
def termWithinRow : OpenClaim := { program := "ytcdbgkcijelopaadoor", sum := "01fc5c838251a63d78acb163d172105a8cee564b9cdaab0f2ffa0a6209470d56", func := "sluiceway/sluicewaylaw07.TermWithin", spec := "termWithin", inPlace := ["internal/abi.NoEscape", "internal/bytealg.MakeNoZero"], unfollowed := true, recurses := true, named := ["sluiceway/term.kinds", "internal/strconv.uint64pow10", "math/bits.deBruijn32tab", "math/bits.deBruijn64tab"], loops := true, apart := false, laid := [("math/bits.deBruijn32tab", laid_math_bits_deBruijn32tab), ("math/bits.deBruijn64tab", laid_math_bits_deBruijn64tab), ("internal/strconv.uint64pow10", laid_internal_strconv_uint64pow10), ("sluiceway/term.kinds", laid_sluiceway_term_kinds)] }
def TermWithinSaid : Prop := termWithinRow.holds Tryd.pinned (OpenSpec.ofChange termWithinSpec)

/-- ITS FALSE NEIGHBOUR: 'it returns false'. Refute it at one input. -/
def termWithinWrong : ChangeSpec := { name := "termWithin", fn := fun _ => fun
  | [d] => { results := [.lit (.bool false)], args := [d] }
  | _ => none }
def TermWithinWrongFalsely : Prop := termWithinRow.holds Tryd.pinned (OpenSpec.ofChange termWithinWrong)

/-- 'sluicewaylaw07.TermPairs': WHATEVER THE INPUT: true; the input reads as it did. -/
def termPairsSpec : ChangeSpec := { name := "termPairs", fn := fun _ => fun
  | [d1, d2, d3] => { results := [.lit (.bool true)], args := [d1, d2, d3] }
  | _ => none }
def termPairsRow : OpenClaim := { program := "ytcdbgkcijelopaadoor", sum := "01fc5c838251a63d78acb163d172105a8cee564b9cdaab0f2ffa0a6209470d56", func := "sluiceway/sluicewaylaw07.TermPairs", spec := "termPairs", inPlace := ["internal/abi.NoEscape", "internal/bytealg.MakeNoZero"], unfollowed := true, recurses := true, named := ["sluiceway/term.kinds", "internal/strconv.uint64pow10", "math/bits.deBruijn32tab", "math/bits.deBruijn64tab"], loops := true, apart := false, laid := [("math/bits.deBruijn32tab", laid_math_bits_deBruijn32tab), ("math/bits.deBruijn64tab", laid_math_bits_deBruijn64tab), ("internal/strconv.uint64pow10", laid_internal_strconv_uint64pow10), ("sluiceway/term.kinds", laid_sluiceway_term_kinds)] }
def TermPairsSaid : Prop := termPairsRow.holds Tryd.pinned (OpenSpec.ofChange termPairsSpec)

/-- ITS FALSE NEIGHBOUR: 'it returns false'. Refute it at one input. -/
def termPairsWrong : ChangeSpec := { name := "termPairs", fn := fun _ => fun
  | [d1, d2, d3] => { results := [.lit (.bool false)], args := [d1, d2, d3] }
  | _ => none }
def TermPairsWrongFalsely : Prop := termPairsRow.holds Tryd.pinned (OpenSpec.ofChange termPairsWrong)

/-- 'sluicewaylaw07.TermNames': WHATEVER THE INPUT: true; the input reads as it did. -/
def termNamesSpec : ChangeSpec := { name := "termNames", fn := fun _ => fun
  | [d1, d2] => { results := [.lit (.bool true)], args := [d1, d2] }
  | _ => none }
def termNamesRow : OpenClaim := { program := "ytcdbgkcijelopaadoor", sum := "01fc5c838251a63d78acb163d172105a8cee564b9cdaab0f2ffa0a6209470d56", func := "sluiceway/sluicewaylaw07.TermNames", spec := "termNames", inPlace := ["internal/abi.NoEscape", "internal/bytealg.MakeNoZero"], unfollowed := true, recurses := true, named := ["sluiceway/term.kinds", "internal/strconv.uint64pow10", "math/bits.deBruijn32tab", "math/bits.deBruijn64tab"], apart := false, laid := [("math/bits.deBruijn32tab", laid_math_bits_deBruijn32tab), ("math/bits.deBruijn64tab", laid_math_bits_deBruijn64tab), ("internal/strconv.uint64pow10", laid_internal_strconv_uint64pow10), ("sluiceway/term.kinds", laid_sluiceway_term_kinds)] }
def TermNamesSaid : Prop := termNamesRow.holds Tryd.pinned (OpenSpec.ofChange termNamesSpec)

/-- ITS FALSE NEIGHBOUR: 'it returns false'. Refute it at one input. -/
def termNamesWrong : ChangeSpec := { name := "termNames", fn := fun _ => fun
  | [d1, d2] => { results := [.lit (.bool false)], args := [d1, d2] }
  | _ => none }
def TermNamesWrongFalsely : Prop := termNamesRow.holds Tryd.pinned (OpenSpec.ofChange termNamesWrong)

/-- 'sluicewaylaw07.TermShares': WHATEVER THE INPUT: true; the input reads as it did. -/
def termSharesSpec : ChangeSpec := { name := "termShares", fn := fun _ => fun
  | [d1, d2, d3] => { results := [.lit (.bool true)], args := [d1, d2, d3] }
  | _ => none }
def termSharesRow : OpenClaim := { program := "ytcdbgkcijelopaadoor", sum := "01fc5c838251a63d78acb163d172105a8cee564b9cdaab0f2ffa0a6209470d56", func := "sluiceway/sluicewaylaw07.TermShares", spec := "termShares", inPlace := ["internal/abi.NoEscape", "internal/bytealg.MakeNoZero"], unfollowed := true, recurses := true, named := ["sluiceway/term.kinds", "internal/strconv.uint64pow10", "math/bits.deBruijn32tab", "math/bits.deBruijn64tab"], loops := true, apart := false, laid := [("math/bits.deBruijn32tab", laid_math_bits_deBruijn32tab), ("math/bits.deBruijn64tab", laid_math_bits_deBruijn64tab), ("internal/strconv.uint64pow10", laid_internal_strconv_uint64pow10), ("sluiceway/term.kinds", laid_sluiceway_term_kinds)] }
def TermSharesSaid : Prop := termSharesRow.holds Tryd.pinned (OpenSpec.ofChange termSharesSpec)

/-- ITS FALSE NEIGHBOUR: 'it returns false'. Refute it at one input. -/
def termSharesWrong : ChangeSpec := { name := "termShares", fn := fun _ => fun
  | [d1, d2, d3] => { results := [.lit (.bool false)], args := [d1, d2, d3] }
  | _ => none }
def TermSharesWrongFalsely : Prop := termSharesRow.holds Tryd.pinned (OpenSpec.ofChange termSharesWrong)

/-- 'sluicewaylaw10.KeysHide': WHATEVER THE INPUT: true; the input reads as it did. -/
def keysHideSpec : ChangeSpec := { name := "keysHide", fn := fun _ => fun
  | [d1, d2] => { results := [.lit (.bool true)], args := [d1, d2] }
  | _ => none }
def keysHideRow : OpenClaim := { program := "ytcdbgkcijelopaadoor", sum := "01fc5c838251a63d78acb163d172105a8cee564b9cdaab0f2ffa0a6209470d56", func := "sluiceway/sluicewaylaw10.KeysHide", spec := "keysHide", inPlace := ["internal/abi.NoEscape", "internal/bytealg.MakeNoZero"], unfollowed := true, recurses := true, named := ["internal/strconv.uint64pow10", "math/bits.deBruijn32tab", "math/bits.deBruijn64tab", "sluiceway/term.kinds"], apart := false, laid := [("math/bits.deBruijn32tab", laid_math_bits_deBruijn32tab), ("math/bits.deBruijn64tab", laid_math_bits_deBruijn64tab), ("internal/strconv.uint64pow10", laid_internal_strconv_uint64pow10), ("sluiceway/term.kinds", laid_sluiceway_term_kinds)] }
def KeysHideSaid : Prop := keysHideRow.holds Tryd.pinned (OpenSpec.ofChange keysHideSpec)

/-- ITS FALSE NEIGHBOUR: 'it returns false'. Refute it at one input. -/
def keysHideWrong : ChangeSpec := { name := "keysHide", fn := fun _ => fun
  | [d1, d2] => { results := [.lit (.bool false)], args := [d1, d2] }
  | _ => none }
def KeysHideWrongFalsely : Prop := keysHideRow.holds Tryd.pinned (OpenSpec.ofChange keysHideWrong)

/-- 'sluicewaylaw16.ArmorHides': WHATEVER THE INPUT: true; the input reads as it did. -/
def armorHidesSpec : ChangeSpec := { name := "armorHides", fn := fun _ => fun
  | [d1, d2] => { results := [.lit (.bool true)], args := [d1, d2] }
  | _ => none }
def armorHidesRow : OpenClaim := { program := "ytcdbgkcijelopaadoor", sum := "01fc5c838251a63d78acb163d172105a8cee564b9cdaab0f2ffa0a6209470d56", func := "sluiceway/sluicewaylaw16.ArmorHides", spec := "armorHides", inPlace := ["internal/abi.NoEscape", "internal/bytealg.MakeNoZero"], unfollowed := true, recurses := true, named := ["internal/strconv.uint64pow10", "math/bits.deBruijn32tab", "math/bits.deBruijn64tab", "sluiceway/term.kinds"], apart := false, laid := [("math/bits.deBruijn32tab", laid_math_bits_deBruijn32tab), ("math/bits.deBruijn64tab", laid_math_bits_deBruijn64tab), ("internal/strconv.uint64pow10", laid_internal_strconv_uint64pow10), ("sluiceway/term.kinds", laid_sluiceway_term_kinds)] }
def ArmorHidesSaid : Prop := armorHidesRow.holds Tryd.pinned (OpenSpec.ofChange armorHidesSpec)

/-- ITS FALSE NEIGHBOUR: 'it returns false'. Refute it at one input. -/
def armorHidesWrong : ChangeSpec := { name := "armorHides", fn := fun _ => fun
  | [d1, d2] => { results := [.lit (.bool false)], args := [d1, d2] }
  | _ => none }
def ArmorHidesWrongFalsely : Prop := armorHidesRow.holds Tryd.pinned (OpenSpec.ofChange armorHidesWrong)

/- THE SECOND FORM. 'bulk': how many values and letters a reading holds, each counted each time it is reached (what is shared counts as often as it is met; a slice's spare places count too). A statement '..UptoSaid' is the law's where the arguments, and the package variables that the reading takes, are together of bulk at most 1048576: NARROWER than '..Said'. Prove '..Said' where nothing that the law and all that it calls make is longer than what came in: it says more and counts as full. Else prove '..UptoSaid'. A law counts once. -/
mutual
def uptoBulk {H : Type} : DataW H → Nat
  | .lit (.string bytes) => bytes.length + 1
  | .lit _ => 1
  | .nil => 1
  | .ptr d => uptoBulk d + 1
  | .slice elems spare => uptoBulkAll elems + uptoBulkAll spare + 1
  | .agg parts => uptoBulkAll parts + 1
  | .iface _ d => uptoBulk d + 1
  | .map entries => uptoBulkEntries entries + 1
  | .held _ => 1
def uptoBulkAll {H : Type} : List (DataW H) → Nat
  | [] => 0
  | d :: r => uptoBulk d + uptoBulkAll r
def uptoBulkEntries {H : Type} : List (Lit × DataW H) → Nat
  | [] => 0
  | x :: r => uptoBulkEntry x + uptoBulkEntries r
def uptoBulkEntry {H : Type} : Lit × DataW H → Nat
  | (.string bytes, d) => bytes.length + uptoBulk d + 1
  | (_, d) => uptoBulk d + 1
 end
def uptoSmall : (H : Type) → List (DataW H) → Bool := fun _ ds => decide (uptoBulkAll ds ≤ 1048576)
def OpenSpec.upto (s : _root_.Go.ChangeSpec) : _root_.Go.OpenSpec := { _root_.Go.OpenSpec.ofChange s with cond := some uptoSmall }

/-- 'sluicewaylaw16.ArmorMakes', WHERE WHAT IT READS IS OF BULK AT MOST 1048576: true; the input reads as it did. -/
def armorMakesUptoRow : OpenClaim := { program := "ytcdbgkcijelopaadoor", sum := "01fc5c838251a63d78acb163d172105a8cee564b9cdaab0f2ffa0a6209470d56", func := "sluiceway/sluicewaylaw16.ArmorMakes", spec := "armorMakes", unfollowed := true, recurses := true, named := ["internal/strconv.uint64pow10", "math/bits.deBruijn32tab", "math/bits.deBruijn64tab"], loops := true, apart := false, laid := [("math/bits.deBruijn32tab", laid_math_bits_deBruijn32tab), ("math/bits.deBruijn64tab", laid_math_bits_deBruijn64tab), ("internal/strconv.uint64pow10", laid_internal_strconv_uint64pow10)], narrowed := true }
def ArmorMakesUptoSaid : Prop := armorMakesUptoRow.holds Tryd.pinned (OpenSpec.upto armorMakesSpec)

/-- 'sluicewaylaw16.ArmorReads', WHERE WHAT IT READS IS OF BULK AT MOST 1048576: true; the input reads as it did. -/
def armorReadsUptoRow : OpenClaim := { program := "ytcdbgkcijelopaadoor", sum := "01fc5c838251a63d78acb163d172105a8cee564b9cdaab0f2ffa0a6209470d56", func := "sluiceway/sluicewaylaw16.ArmorReads", spec := "armorReads", unfollowed := true, recurses := true, named := ["internal/strconv.uint64pow10", "math/bits.deBruijn32tab", "math/bits.deBruijn64tab"], loops := true, apart := false, laid := [("math/bits.deBruijn32tab", laid_math_bits_deBruijn32tab), ("math/bits.deBruijn64tab", laid_math_bits_deBruijn64tab), ("internal/strconv.uint64pow10", laid_internal_strconv_uint64pow10)], narrowed := true }
def ArmorReadsUptoSaid : Prop := armorReadsUptoRow.holds Tryd.pinned (OpenSpec.upto armorReadsSpec)

/-- 'sluicewaylaw16.ArmorBack', WHERE WHAT IT READS IS OF BULK AT MOST 1048576: true; the input reads as it did. -/
def armorBackUptoRow : OpenClaim := { program := "ytcdbgkcijelopaadoor", sum := "01fc5c838251a63d78acb163d172105a8cee564b9cdaab0f2ffa0a6209470d56", func := "sluiceway/sluicewaylaw16.ArmorBack", spec := "armorBack", unfollowed := true, recurses := true, named := ["internal/strconv.uint64pow10", "math/bits.deBruijn32tab", "math/bits.deBruijn64tab"], loops := true, apart := false, laid := [("math/bits.deBruijn32tab", laid_math_bits_deBruijn32tab), ("math/bits.deBruijn64tab", laid_math_bits_deBruijn64tab), ("internal/strconv.uint64pow10", laid_internal_strconv_uint64pow10)], narrowed := true }
def ArmorBackUptoSaid : Prop := armorBackUptoRow.holds Tryd.pinned (OpenSpec.upto armorBackSpec)

/-- 'sluicewaylaw16.ArmorApart', WHERE WHAT IT READS IS OF BULK AT MOST 1048576: true; the input reads as it did. -/
def armorApartUptoRow : OpenClaim := { program := "ytcdbgkcijelopaadoor", sum := "01fc5c838251a63d78acb163d172105a8cee564b9cdaab0f2ffa0a6209470d56", func := "sluiceway/sluicewaylaw16.ArmorApart", spec := "armorApart", unfollowed := true, recurses := true, named := ["internal/strconv.uint64pow10", "math/bits.deBruijn32tab", "math/bits.deBruijn64tab"], apart := false, laid := [("math/bits.deBruijn32tab", laid_math_bits_deBruijn32tab), ("math/bits.deBruijn64tab", laid_math_bits_deBruijn64tab), ("internal/strconv.uint64pow10", laid_internal_strconv_uint64pow10)], narrowed := true }
def ArmorApartUptoSaid : Prop := armorApartUptoRow.holds Tryd.pinned (OpenSpec.upto armorApartSpec)

/-- 'sluicewaylaw07.TermDepths', WHERE WHAT IT READS IS OF BULK AT MOST 1048576: true; the input reads as it did. -/
def termDepthsUptoRow : OpenClaim := { program := "ytcdbgkcijelopaadoor", sum := "01fc5c838251a63d78acb163d172105a8cee564b9cdaab0f2ffa0a6209470d56", func := "sluiceway/sluicewaylaw07.TermDepths", spec := "termDepths", inPlace := ["internal/abi.NoEscape", "internal/bytealg.MakeNoZero"], unfollowed := true, recurses := true, named := ["sluiceway/term.kinds", "internal/strconv.uint64pow10", "math/bits.deBruijn32tab", "math/bits.deBruijn64tab"], loops := true, apart := false, laid := [("math/bits.deBruijn32tab", laid_math_bits_deBruijn32tab), ("math/bits.deBruijn64tab", laid_math_bits_deBruijn64tab), ("internal/strconv.uint64pow10", laid_internal_strconv_uint64pow10), ("sluiceway/term.kinds", laid_sluiceway_term_kinds)], narrowed := true }
def TermDepthsUptoSaid : Prop := termDepthsUptoRow.holds Tryd.pinned (OpenSpec.upto termDepthsSpec)

/-- 'sluicewaylaw07.TermWithin', WHERE WHAT IT READS IS OF BULK AT MOST 1048576: true; the input reads as it did. -/
def termWithinUptoRow : OpenClaim := { program := "ytcdbgkcijelopaadoor", sum := "01fc5c838251a63d78acb163d172105a8cee564b9cdaab0f2ffa0a6209470d56", func := "sluiceway/sluicewaylaw07.TermWithin", spec := "termWithin", inPlace := ["internal/abi.NoEscape", "internal/bytealg.MakeNoZero"], unfollowed := true, recurses := true, named := ["sluiceway/term.kinds", "internal/strconv.uint64pow10", "math/bits.deBruijn32tab", "math/bits.deBruijn64tab"], loops := true, apart := false, laid := [("math/bits.deBruijn32tab", laid_math_bits_deBruijn32tab), ("math/bits.deBruijn64tab", laid_math_bits_deBruijn64tab), ("internal/strconv.uint64pow10", laid_internal_strconv_uint64pow10), ("sluiceway/term.kinds", laid_sluiceway_term_kinds)], narrowed := true }
def TermWithinUptoSaid : Prop := termWithinUptoRow.holds Tryd.pinned (OpenSpec.upto termWithinSpec)

/-- 'sluicewaylaw07.TermPairs', WHERE WHAT IT READS IS OF BULK AT MOST 1048576: true; the input reads as it did. -/
def termPairsUptoRow : OpenClaim := { program := "ytcdbgkcijelopaadoor", sum := "01fc5c838251a63d78acb163d172105a8cee564b9cdaab0f2ffa0a6209470d56", func := "sluiceway/sluicewaylaw07.TermPairs", spec := "termPairs", inPlace := ["internal/abi.NoEscape", "internal/bytealg.MakeNoZero"], unfollowed := true, recurses := true, named := ["sluiceway/term.kinds", "internal/strconv.uint64pow10", "math/bits.deBruijn32tab", "math/bits.deBruijn64tab"], loops := true, apart := false, laid := [("math/bits.deBruijn32tab", laid_math_bits_deBruijn32tab), ("math/bits.deBruijn64tab", laid_math_bits_deBruijn64tab), ("internal/strconv.uint64pow10", laid_internal_strconv_uint64pow10), ("sluiceway/term.kinds", laid_sluiceway_term_kinds)], narrowed := true }
def TermPairsUptoSaid : Prop := termPairsUptoRow.holds Tryd.pinned (OpenSpec.upto termPairsSpec)

/-- 'sluicewaylaw07.TermNames', WHERE WHAT IT READS IS OF BULK AT MOST 1048576: true; the input reads as it did. -/
def termNamesUptoRow : OpenClaim := { program := "ytcdbgkcijelopaadoor", sum := "01fc5c838251a63d78acb163d172105a8cee564b9cdaab0f2ffa0a6209470d56", func := "sluiceway/sluicewaylaw07.TermNames", spec := "termNames", inPlace := ["internal/abi.NoEscape", "internal/bytealg.MakeNoZero"], unfollowed := true, recurses := true, named := ["sluiceway/term.kinds", "internal/strconv.uint64pow10", "math/bits.deBruijn32tab", "math/bits.deBruijn64tab"], apart := false, laid := [("math/bits.deBruijn32tab", laid_math_bits_deBruijn32tab), ("math/bits.deBruijn64tab", laid_math_bits_deBruijn64tab), ("internal/strconv.uint64pow10", laid_internal_strconv_uint64pow10), ("sluiceway/term.kinds", laid_sluiceway_term_kinds)], narrowed := true }
def TermNamesUptoSaid : Prop := termNamesUptoRow.holds Tryd.pinned (OpenSpec.upto termNamesSpec)

/-- 'sluicewaylaw07.TermShares', WHERE WHAT IT READS IS OF BULK AT MOST 1048576: true; the input reads as it did. -/
def termSharesUptoRow : OpenClaim := { program := "ytcdbgkcijelopaadoor", sum := "01fc5c838251a63d78acb163d172105a8cee564b9cdaab0f2ffa0a6209470d56", func := "sluiceway/sluicewaylaw07.TermShares", spec := "termShares", inPlace := ["internal/abi.NoEscape", "internal/bytealg.MakeNoZero"], unfollowed := true, recurses := true, named := ["sluiceway/term.kinds", "internal/strconv.uint64pow10", "math/bits.deBruijn32tab", "math/bits.deBruijn64tab"], loops := true, apart := false, laid := [("math/bits.deBruijn32tab", laid_math_bits_deBruijn32tab), ("math/bits.deBruijn64tab", laid_math_bits_deBruijn64tab), ("internal/strconv.uint64pow10", laid_internal_strconv_uint64pow10), ("sluiceway/term.kinds", laid_sluiceway_term_kinds)], narrowed := true }
def TermSharesUptoSaid : Prop := termSharesUptoRow.holds Tryd.pinned (OpenSpec.upto termSharesSpec)

/-- 'sluicewaylaw10.KeysHide', WHERE WHAT IT READS IS OF BULK AT MOST 1048576: true; the input reads as it did. -/
def keysHideUptoRow : OpenClaim := { program := "ytcdbgkcijelopaadoor", sum := "01fc5c838251a63d78acb163d172105a8cee564b9cdaab0f2ffa0a6209470d56", func := "sluiceway/sluicewaylaw10.KeysHide", spec := "keysHide", inPlace := ["internal/abi.NoEscape", "internal/bytealg.MakeNoZero"], unfollowed := true, recurses := true, named := ["internal/strconv.uint64pow10", "math/bits.deBruijn32tab", "math/bits.deBruijn64tab", "sluiceway/term.kinds"], apart := false, laid := [("math/bits.deBruijn32tab", laid_math_bits_deBruijn32tab), ("math/bits.deBruijn64tab", laid_math_bits_deBruijn64tab), ("internal/strconv.uint64pow10", laid_internal_strconv_uint64pow10), ("sluiceway/term.kinds", laid_sluiceway_term_kinds)], narrowed := true }
def KeysHideUptoSaid : Prop := keysHideUptoRow.holds Tryd.pinned (OpenSpec.upto keysHideSpec)

/-- 'sluicewaylaw16.ArmorHides', WHERE WHAT IT READS IS OF BULK AT MOST 1048576: true; the input reads as it did. -/
def armorHidesUptoRow : OpenClaim := { program := "ytcdbgkcijelopaadoor", sum := "01fc5c838251a63d78acb163d172105a8cee564b9cdaab0f2ffa0a6209470d56", func := "sluiceway/sluicewaylaw16.ArmorHides", spec := "armorHides", inPlace := ["internal/abi.NoEscape", "internal/bytealg.MakeNoZero"], unfollowed := true, recurses := true, named := ["internal/strconv.uint64pow10", "math/bits.deBruijn32tab", "math/bits.deBruijn64tab", "sluiceway/term.kinds"], apart := false, laid := [("math/bits.deBruijn32tab", laid_math_bits_deBruijn32tab), ("math/bits.deBruijn64tab", laid_math_bits_deBruijn64tab), ("internal/strconv.uint64pow10", laid_internal_strconv_uint64pow10), ("sluiceway/term.kinds", laid_sluiceway_term_kinds)], narrowed := true }
def ArmorHidesUptoSaid : Prop := armorHidesUptoRow.holds Tryd.pinned (OpenSpec.upto armorHidesSpec)

end Rows
end Go.Proofs.YtcdbgkcijelopaaDoor
