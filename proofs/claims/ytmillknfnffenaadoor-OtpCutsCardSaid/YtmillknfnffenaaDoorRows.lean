/-
  NARROWER THAN 'FOR EVERY INPUT', by the rows' own cells (each row's printed sentence says how): OtpCodes: laid · OtpTruncates: laid · OtpKnown: laid · OtpTexts: laid · OtpBack: laid · OtpCuts: laid · OtpSteps: laid.
  DERIVED. THE GIVEN ROWS OF THIS SEAT. 7 by the template 'for every input the law returns true; each argument reads behind the call as it read before'; 0 by the template 'total and deterministic' (their statements: YtmillknfnffenaaDoorTotals.lean).
  GIVEN WITH THE SEED: the statements are not yours to turn. If you find one false, say at which input.
  Laid BY PROGRAM, IN A SANDBOX (cutbox-rows.mjs): the forced cells as the released guide's own fill.sh prints them over the translation e42271880c5cd560… (all of the seat's roots in one cut). By AI agents, Wed Nov 11 2026. No macro, syntax, notation, axiom, sorry.
-/
import Derived.Test.YtmillknfnffenaaDoorChecked
import GoSem.Claim
import GoSem.ClaimJoined
import GoSem.ClaimMapViews
import Derived.JoinedTies
import Derived.KernelRfl
namespace Go.Proofs.YtmillknfnffenaaDoor
/- THE CELL 'sum', in the pinned program and in every row, IS THE sha256 OF THE DUMP (.gsa) THAT YtmillknfnffenaaDoorProg.lean LOADS. Nothing in Lean hashes anything: it is a label: what it is worth is what the hold of that sum in a sandbox is worth. -/
noncomputable def Tryd.pinned : Pinned := { name := "ytmillknfnffenaadoor", sum := "e42271880c5cd560e841dd2e6c7af8c723208ec4e3a13aedc77eec04124584e1", checked := Tryd.checked }
namespace Rows
def none {H : Type} : Left H := { results := [], args := [] }

/- WHAT THE LISTED PACKAGE-LEVEL VARIABLES READ AS WHEN THE CALL BEGINS. Each datum BY PROGRAM (the guide's laid-datum.mjs) off the statement by which the dump's own 'gosem.cut.vars' lays the variable. In a bare row this is a premise. The card (YtmillknfnffenaaDoorCards.lean) ties it to the program's text. -/
def laid_math_bits_deBruijn32tab {H : Type} : DataW H := .agg [.lit (.int .u8 0), .lit (.int .u8 1), .lit (.int .u8 28), .lit (.int .u8 2), .lit (.int .u8 29), .lit (.int .u8 14), .lit (.int .u8 24), .lit (.int .u8 3), .lit (.int .u8 30), .lit (.int .u8 22), .lit (.int .u8 20), .lit (.int .u8 15), .lit (.int .u8 25), .lit (.int .u8 17), .lit (.int .u8 4), .lit (.int .u8 8), .lit (.int .u8 31), .lit (.int .u8 27), .lit (.int .u8 13), .lit (.int .u8 23), .lit (.int .u8 21), .lit (.int .u8 19), .lit (.int .u8 16), .lit (.int .u8 7), .lit (.int .u8 26), .lit (.int .u8 12), .lit (.int .u8 18), .lit (.int .u8 6), .lit (.int .u8 11), .lit (.int .u8 5), .lit (.int .u8 10), .lit (.int .u8 9)]
def laid_math_bits_deBruijn64tab {H : Type} : DataW H := .agg [.lit (.int .u8 0), .lit (.int .u8 1), .lit (.int .u8 56), .lit (.int .u8 2), .lit (.int .u8 57), .lit (.int .u8 49), .lit (.int .u8 28), .lit (.int .u8 3), .lit (.int .u8 61), .lit (.int .u8 58), .lit (.int .u8 42), .lit (.int .u8 50), .lit (.int .u8 38), .lit (.int .u8 29), .lit (.int .u8 17), .lit (.int .u8 4), .lit (.int .u8 62), .lit (.int .u8 47), .lit (.int .u8 59), .lit (.int .u8 36), .lit (.int .u8 45), .lit (.int .u8 43), .lit (.int .u8 51), .lit (.int .u8 22), .lit (.int .u8 53), .lit (.int .u8 39), .lit (.int .u8 33), .lit (.int .u8 30), .lit (.int .u8 24), .lit (.int .u8 18), .lit (.int .u8 12), .lit (.int .u8 5), .lit (.int .u8 63), .lit (.int .u8 55), .lit (.int .u8 48), .lit (.int .u8 27), .lit (.int .u8 60), .lit (.int .u8 41), .lit (.int .u8 37), .lit (.int .u8 16), .lit (.int .u8 46), .lit (.int .u8 35), .lit (.int .u8 44), .lit (.int .u8 21), .lit (.int .u8 52), .lit (.int .u8 32), .lit (.int .u8 23), .lit (.int .u8 11), .lit (.int .u8 54), .lit (.int .u8 26), .lit (.int .u8 40), .lit (.int .u8 15), .lit (.int .u8 34), .lit (.int .u8 20), .lit (.int .u8 31), .lit (.int .u8 10), .lit (.int .u8 25), .lit (.int .u8 14), .lit (.int .u8 19), .lit (.int .u8 9), .lit (.int .u8 13), .lit (.int .u8 8), .lit (.int .u8 7), .lit (.int .u8 6)]
def laid_internal_strconv_uint64pow10 {H : Type} : DataW H := .agg [.lit (.int .u64 1), .lit (.int .u64 10), .lit (.int .u64 100), .lit (.int .u64 1000), .lit (.int .u64 10000), .lit (.int .u64 100000), .lit (.int .u64 1000000), .lit (.int .u64 10000000), .lit (.int .u64 100000000), .lit (.int .u64 1000000000), .lit (.int .u64 10000000000), .lit (.int .u64 100000000000), .lit (.int .u64 1000000000000), .lit (.int .u64 10000000000000), .lit (.int .u64 100000000000000), .lit (.int .u64 1000000000000000), .lit (.int .u64 10000000000000000), .lit (.int .u64 100000000000000000), .lit (.int .u64 1000000000000000000), .lit (.int .u64 10000000000000000000)]

/-- 'sluicewaylaw04.OtpCodes': WHATEVER THE INPUT: true; the input reads as it did. -/
def otpCodesSpec : ChangeSpec := { name := "otpCodes", fn := fun _ => fun
  | [d1, d2, d3] => { results := [.lit (.bool true)], args := [d1, d2, d3] }
  | _ => none }
def otpCodesRow : OpenClaim := { program := "ytmillknfnffenaadoor", sum := "e42271880c5cd560e841dd2e6c7af8c723208ec4e3a13aedc77eec04124584e1", func := "sluiceway/sluicewaylaw04.OtpCodes", spec := "otpCodes", inPlace := ["internal/abi.NoEscape", "internal/bytealg.MakeNoZero"], unfollowed := true, recurses := true, named := ["internal/strconv.uint64pow10", "math/bits.deBruijn32tab", "math/bits.deBruijn64tab"], apart := false, laid := [("math/bits.deBruijn32tab", laid_math_bits_deBruijn32tab), ("math/bits.deBruijn64tab", laid_math_bits_deBruijn64tab), ("internal/strconv.uint64pow10", laid_internal_strconv_uint64pow10)] }
def OtpCodesSaid : Prop := otpCodesRow.holds Tryd.pinned (OpenSpec.ofChange otpCodesSpec)

/-- ITS FALSE NEIGHBOUR: 'it returns false'. Refute it at one input. -/
def otpCodesWrong : ChangeSpec := { name := "otpCodes", fn := fun _ => fun
  | [d1, d2, d3] => { results := [.lit (.bool false)], args := [d1, d2, d3] }
  | _ => none }
def OtpCodesWrongFalsely : Prop := otpCodesRow.holds Tryd.pinned (OpenSpec.ofChange otpCodesWrong)

/-- 'sluicewaylaw04.OtpTruncates': WHATEVER THE INPUT: true; the input reads as it did. -/
def otpTruncatesSpec : ChangeSpec := { name := "otpTruncates", fn := fun _ => fun
  | [d1, d2] => { results := [.lit (.bool true)], args := [d1, d2] }
  | _ => none }
def otpTruncatesRow : OpenClaim := { program := "ytmillknfnffenaadoor", sum := "e42271880c5cd560e841dd2e6c7af8c723208ec4e3a13aedc77eec04124584e1", func := "sluiceway/sluicewaylaw04.OtpTruncates", spec := "otpTruncates", inPlace := ["internal/abi.NoEscape", "internal/bytealg.MakeNoZero"], unfollowed := true, recurses := true, named := ["internal/strconv.uint64pow10", "math/bits.deBruijn32tab", "math/bits.deBruijn64tab"], apart := false, laid := [("math/bits.deBruijn32tab", laid_math_bits_deBruijn32tab), ("math/bits.deBruijn64tab", laid_math_bits_deBruijn64tab), ("internal/strconv.uint64pow10", laid_internal_strconv_uint64pow10)] }
def OtpTruncatesSaid : Prop := otpTruncatesRow.holds Tryd.pinned (OpenSpec.ofChange otpTruncatesSpec)

/-- ITS FALSE NEIGHBOUR: 'it returns false'. Refute it at one input. -/
def otpTruncatesWrong : ChangeSpec := { name := "otpTruncates", fn := fun _ => fun
  | [d1, d2] => { results := [.lit (.bool false)], args := [d1, d2] }
  | _ => none }
def OtpTruncatesWrongFalsely : Prop := otpTruncatesRow.holds Tryd.pinned (OpenSpec.ofChange otpTruncatesWrong)

/-- 'sluicewaylaw04.OtpKnown': WHATEVER THE INPUT: true; the input reads as it did. -/
def otpKnownSpec : ChangeSpec := { name := "otpKnown", fn := fun _ => fun
  | [d] => { results := [.lit (.bool true)], args := [d] }
  | _ => none }
def otpKnownRow : OpenClaim := { program := "ytmillknfnffenaadoor", sum := "e42271880c5cd560e841dd2e6c7af8c723208ec4e3a13aedc77eec04124584e1", func := "sluiceway/sluicewaylaw04.OtpKnown", spec := "otpKnown", inPlace := ["internal/abi.NoEscape", "internal/bytealg.MakeNoZero"], unfollowed := true, recurses := true, named := ["internal/strconv.uint64pow10", "math/bits.deBruijn32tab", "math/bits.deBruijn64tab"], apart := false, laid := [("math/bits.deBruijn32tab", laid_math_bits_deBruijn32tab), ("math/bits.deBruijn64tab", laid_math_bits_deBruijn64tab), ("internal/strconv.uint64pow10", laid_internal_strconv_uint64pow10)] }
def OtpKnownSaid : Prop := otpKnownRow.holds Tryd.pinned (OpenSpec.ofChange otpKnownSpec)

/-- ITS FALSE NEIGHBOUR: 'it returns false'. Refute it at one input. -/
def otpKnownWrong : ChangeSpec := { name := "otpKnown", fn := fun _ => fun
  | [d] => { results := [.lit (.bool false)], args := [d] }
  | _ => none }
def OtpKnownWrongFalsely : Prop := otpKnownRow.holds Tryd.pinned (OpenSpec.ofChange otpKnownWrong)

/-- 'sluicewaylaw04.OtpTexts': WHATEVER THE INPUT: true; the input reads as it did. -/
def otpTextsSpec : ChangeSpec := { name := "otpTexts", fn := fun _ => fun
  | [d1, d2, d3] => { results := [.lit (.bool true)], args := [d1, d2, d3] }
  | _ => none }
def otpTextsRow : OpenClaim := { program := "ytmillknfnffenaadoor", sum := "e42271880c5cd560e841dd2e6c7af8c723208ec4e3a13aedc77eec04124584e1", func := "sluiceway/sluicewaylaw04.OtpTexts", spec := "otpTexts", inPlace := ["internal/abi.NoEscape", "internal/bytealg.MakeNoZero"], unfollowed := true, recurses := true, named := ["internal/strconv.uint64pow10", "math/bits.deBruijn32tab", "math/bits.deBruijn64tab"], apart := false, laid := [("math/bits.deBruijn32tab", laid_math_bits_deBruijn32tab), ("math/bits.deBruijn64tab", laid_math_bits_deBruijn64tab), ("internal/strconv.uint64pow10", laid_internal_strconv_uint64pow10)] }
def OtpTextsSaid : Prop := otpTextsRow.holds Tryd.pinned (OpenSpec.ofChange otpTextsSpec)

/-- ITS FALSE NEIGHBOUR: 'it returns false'. Refute it at one input. -/
def otpTextsWrong : ChangeSpec := { name := "otpTexts", fn := fun _ => fun
  | [d1, d2, d3] => { results := [.lit (.bool false)], args := [d1, d2, d3] }
  | _ => none }
def OtpTextsWrongFalsely : Prop := otpTextsRow.holds Tryd.pinned (OpenSpec.ofChange otpTextsWrong)

/-- 'sluicewaylaw04.OtpBack': WHATEVER THE INPUT: true; the input reads as it did. -/
def otpBackSpec : ChangeSpec := { name := "otpBack", fn := fun _ => fun
  | [d1, d2, d3] => { results := [.lit (.bool true)], args := [d1, d2, d3] }
  | _ => none }
def otpBackRow : OpenClaim := { program := "ytmillknfnffenaadoor", sum := "e42271880c5cd560e841dd2e6c7af8c723208ec4e3a13aedc77eec04124584e1", func := "sluiceway/sluicewaylaw04.OtpBack", spec := "otpBack", inPlace := ["internal/abi.NoEscape", "internal/bytealg.MakeNoZero"], unfollowed := true, recurses := true, named := ["internal/strconv.uint64pow10", "math/bits.deBruijn32tab", "math/bits.deBruijn64tab"], apart := false, laid := [("math/bits.deBruijn32tab", laid_math_bits_deBruijn32tab), ("math/bits.deBruijn64tab", laid_math_bits_deBruijn64tab), ("internal/strconv.uint64pow10", laid_internal_strconv_uint64pow10)] }
def OtpBackSaid : Prop := otpBackRow.holds Tryd.pinned (OpenSpec.ofChange otpBackSpec)

/-- ITS FALSE NEIGHBOUR: 'it returns false'. Refute it at one input. -/
def otpBackWrong : ChangeSpec := { name := "otpBack", fn := fun _ => fun
  | [d1, d2, d3] => { results := [.lit (.bool false)], args := [d1, d2, d3] }
  | _ => none }
def OtpBackWrongFalsely : Prop := otpBackRow.holds Tryd.pinned (OpenSpec.ofChange otpBackWrong)

/-- 'sluicewaylaw04.OtpCuts': WHATEVER THE INPUT: true; the input reads as it did. -/
def otpCutsSpec : ChangeSpec := { name := "otpCuts", fn := fun _ => fun
  | [d1, d2, d3] => { results := [.lit (.bool true)], args := [d1, d2, d3] }
  | _ => none }
def otpCutsRow : OpenClaim := { program := "ytmillknfnffenaadoor", sum := "e42271880c5cd560e841dd2e6c7af8c723208ec4e3a13aedc77eec04124584e1", func := "sluiceway/sluicewaylaw04.OtpCuts", spec := "otpCuts", inPlace := ["internal/abi.NoEscape", "internal/bytealg.MakeNoZero"], unfollowed := true, recurses := true, named := ["internal/strconv.uint64pow10", "math/bits.deBruijn32tab", "math/bits.deBruijn64tab"], apart := false, laid := [("math/bits.deBruijn32tab", laid_math_bits_deBruijn32tab), ("math/bits.deBruijn64tab", laid_math_bits_deBruijn64tab), ("internal/strconv.uint64pow10", laid_internal_strconv_uint64pow10)] }
def OtpCutsSaid : Prop := otpCutsRow.holds Tryd.pinned (OpenSpec.ofChange otpCutsSpec)

/-- ITS FALSE NEIGHBOUR: 'it returns false'. Refute it at one input. -/
def otpCutsWrong : ChangeSpec := { name := "otpCuts", fn := fun _ => fun
  | [d1, d2, d3] => { results := [.lit (.bool false)], args := [d1, d2, d3] }
  | _ => none }
def OtpCutsWrongFalsely : Prop := otpCutsRow.holds Tryd.pinned (OpenSpec.ofChange otpCutsWrong)

/-- 'sluicewaylaw04.OtpSteps': WHATEVER THE INPUT: true; the input reads as it did. -/
def otpStepsSpec : ChangeSpec := { name := "otpSteps", fn := fun _ => fun
  | [d1, d2] => { results := [.lit (.bool true)], args := [d1, d2] }
  | _ => none }
def otpStepsRow : OpenClaim := { program := "ytmillknfnffenaadoor", sum := "e42271880c5cd560e841dd2e6c7af8c723208ec4e3a13aedc77eec04124584e1", func := "sluiceway/sluicewaylaw04.OtpSteps", spec := "otpSteps", inPlace := ["internal/abi.NoEscape", "internal/bytealg.MakeNoZero"], unfollowed := true, recurses := true, named := ["internal/strconv.uint64pow10", "math/bits.deBruijn32tab", "math/bits.deBruijn64tab"], apart := false, laid := [("math/bits.deBruijn32tab", laid_math_bits_deBruijn32tab), ("math/bits.deBruijn64tab", laid_math_bits_deBruijn64tab), ("internal/strconv.uint64pow10", laid_internal_strconv_uint64pow10)] }
def OtpStepsSaid : Prop := otpStepsRow.holds Tryd.pinned (OpenSpec.ofChange otpStepsSpec)

/-- ITS FALSE NEIGHBOUR: 'it returns false'. Refute it at one input. -/
def otpStepsWrong : ChangeSpec := { name := "otpSteps", fn := fun _ => fun
  | [d1, d2] => { results := [.lit (.bool false)], args := [d1, d2] }
  | _ => none }
def OtpStepsWrongFalsely : Prop := otpStepsRow.holds Tryd.pinned (OpenSpec.ofChange otpStepsWrong)

/- THE SECOND FORM. 'bulk': how many values and letters a reading holds, each counted each time it is reached (what is shared counts as often as it is met; a slice's spare places count too). A statement '..UptoSaid' is the law's where the arguments, and the package variables that the reading takes, are together of bulk at most 1048576: NARROWER than '..Said'. Prove '..Said' where nothing that the law and all that it calls make is longer than what came in: it says more and counts as full. Else prove '..UptoSaid'. A law counts once. -/
mutual
def uptoBulk {H : Type} : DataW H → Nat
  | .lit (.string bytes) => bytes.length + 1
  | .lit _ => 1
  | .nil => 1
  | .ptr d => uptoBulk d + 1
  | .slice elems spare => uptoBulkAll elems + uptoBulkAll spare + 1
  | .agg parts => uptoBulkAll parts + 1
  | .iface _ d => uptoBulk d + 1
  | .map entries => uptoBulkEntries entries + 1
  | .held _ => 1
def uptoBulkAll {H : Type} : List (DataW H) → Nat
  | [] => 0
  | d :: r => uptoBulk d + uptoBulkAll r
def uptoBulkEntries {H : Type} : List (Lit × DataW H) → Nat
  | [] => 0
  | x :: r => uptoBulkEntry x + uptoBulkEntries r
def uptoBulkEntry {H : Type} : Lit × DataW H → Nat
  | (.string bytes, d) => bytes.length + uptoBulk d + 1
  | (_, d) => uptoBulk d + 1
 end
def uptoSmall : (H : Type) → List (DataW H) → Bool := fun _ ds => decide (uptoBulkAll ds ≤ 1048576)
def OpenSpec.upto (s : _root_.Go.ChangeSpec) : _root_.Go.OpenSpec := { _root_.Go.OpenSpec.ofChange s with cond := some uptoSmall }

/-- 'sluicewaylaw04.OtpCodes', WHERE WHAT IT READS IS OF BULK AT MOST 1048576: true; the input reads as it did. -/
def otpCodesUptoRow : OpenClaim := { program := "ytmillknfnffenaadoor", sum := "e42271880c5cd560e841dd2e6c7af8c723208ec4e3a13aedc77eec04124584e1", func := "sluiceway/sluicewaylaw04.OtpCodes", spec := "otpCodes", inPlace := ["internal/abi.NoEscape", "internal/bytealg.MakeNoZero"], unfollowed := true, recurses := true, named := ["internal/strconv.uint64pow10", "math/bits.deBruijn32tab", "math/bits.deBruijn64tab"], apart := false, laid := [("math/bits.deBruijn32tab", laid_math_bits_deBruijn32tab), ("math/bits.deBruijn64tab", laid_math_bits_deBruijn64tab), ("internal/strconv.uint64pow10", laid_internal_strconv_uint64pow10)], narrowed := true }
def OtpCodesUptoSaid : Prop := otpCodesUptoRow.holds Tryd.pinned (OpenSpec.upto otpCodesSpec)

/-- 'sluicewaylaw04.OtpTruncates', WHERE WHAT IT READS IS OF BULK AT MOST 1048576: true; the input reads as it did. -/
def otpTruncatesUptoRow : OpenClaim := { program := "ytmillknfnffenaadoor", sum := "e42271880c5cd560e841dd2e6c7af8c723208ec4e3a13aedc77eec04124584e1", func := "sluiceway/sluicewaylaw04.OtpTruncates", spec := "otpTruncates", inPlace := ["internal/abi.NoEscape", "internal/bytealg.MakeNoZero"], unfollowed := true, recurses := true, named := ["internal/strconv.uint64pow10", "math/bits.deBruijn32tab", "math/bits.deBruijn64tab"], apart := false, laid := [("math/bits.deBruijn32tab", laid_math_bits_deBruijn32tab), ("math/bits.deBruijn64tab", laid_math_bits_deBruijn64tab), ("internal/strconv.uint64pow10", laid_internal_strconv_uint64pow10)], narrowed := true }
def OtpTruncatesUptoSaid : Prop := otpTruncatesUptoRow.holds Tryd.pinned (OpenSpec.upto otpTruncatesSpec)

/-- 'sluicewaylaw04.OtpKnown', WHERE WHAT IT READS IS OF BULK AT MOST 1048576: true; the input reads as it did. -/
def otpKnownUptoRow : OpenClaim := { program := "ytmillknfnffenaadoor", sum := "e42271880c5cd560e841dd2e6c7af8c723208ec4e3a13aedc77eec04124584e1", func := "sluiceway/sluicewaylaw04.OtpKnown", spec := "otpKnown", inPlace := ["internal/abi.NoEscape", "internal/bytealg.MakeNoZero"], unfollowed := true, recurses := true, named := ["internal/strconv.uint64pow10", "math/bits.deBruijn32tab", "math/bits.deBruijn64tab"], apart := false, laid := [("math/bits.deBruijn32tab", laid_math_bits_deBruijn32tab), ("math/bits.deBruijn64tab", laid_math_bits_deBruijn64tab), ("internal/strconv.uint64pow10", laid_internal_strconv_uint64pow10)], narrowed := true }
def OtpKnownUptoSaid : Prop := otpKnownUptoRow.holds Tryd.pinned (OpenSpec.upto otpKnownSpec)

/-- 'sluicewaylaw04.OtpTexts', WHERE WHAT IT READS IS OF BULK AT MOST 1048576: true; the input reads as it did. -/
def otpTextsUptoRow : OpenClaim := { program := "ytmillknfnffenaadoor", sum := "e42271880c5cd560e841dd2e6c7af8c723208ec4e3a13aedc77eec04124584e1", func := "sluiceway/sluicewaylaw04.OtpTexts", spec := "otpTexts", inPlace := ["internal/abi.NoEscape", "internal/bytealg.MakeNoZero"], unfollowed := true, recurses := true, named := ["internal/strconv.uint64pow10", "math/bits.deBruijn32tab", "math/bits.deBruijn64tab"], apart := false, laid := [("math/bits.deBruijn32tab", laid_math_bits_deBruijn32tab), ("math/bits.deBruijn64tab", laid_math_bits_deBruijn64tab), ("internal/strconv.uint64pow10", laid_internal_strconv_uint64pow10)], narrowed := true }
def OtpTextsUptoSaid : Prop := otpTextsUptoRow.holds Tryd.pinned (OpenSpec.upto otpTextsSpec)

/-- 'sluicewaylaw04.OtpBack', WHERE WHAT IT READS IS OF BULK AT MOST 1048576: true; the input reads as it did. -/
def otpBackUptoRow : OpenClaim := { program := "ytmillknfnffenaadoor", sum := "e42271880c5cd560e841dd2e6c7af8c723208ec4e3a13aedc77eec04124584e1", func := "sluiceway/sluicewaylaw04.OtpBack", spec := "otpBack", inPlace := ["internal/abi.NoEscape", "internal/bytealg.MakeNoZero"], unfollowed := true, recurses := true, named := ["internal/strconv.uint64pow10", "math/bits.deBruijn32tab", "math/bits.deBruijn64tab"], apart := false, laid := [("math/bits.deBruijn32tab", laid_math_bits_deBruijn32tab), ("math/bits.deBruijn64tab", laid_math_bits_deBruijn64tab), ("internal/strconv.uint64pow10", laid_internal_strconv_uint64pow10)], narrowed := true }
def OtpBackUptoSaid : Prop := otpBackUptoRow.holds Tryd.pinned (OpenSpec.upto otpBackSpec)

/-- 'sluicewaylaw04.OtpCuts', WHERE WHAT IT READS IS OF BULK AT MOST 1048576: true; the input reads as it did. -/
def otpCutsUptoRow : OpenClaim := { program := "ytmillknfnffenaadoor", sum := "e42271880c5cd560e841dd2e6c7af8c723208ec4e3a13aedc77eec04124584e1", func := "sluiceway/sluicewaylaw04.OtpCuts", spec := "otpCuts", inPlace := ["internal/abi.NoEscape", "internal/bytealg.MakeNoZero"], unfollowed := true, recurses := true, named := ["internal/strconv.uint64pow10", "math/bits.deBruijn32tab", "math/bits.deBruijn64tab"], apart := false, laid := [("math/bits.deBruijn32tab", laid_math_bits_deBruijn32tab), ("math/bits.deBruijn64tab", laid_math_bits_deBruijn64tab), ("internal/strconv.uint64pow10", laid_internal_strconv_uint64pow10)], narrowed := true }
def OtpCutsUptoSaid : Prop := otpCutsUptoRow.holds Tryd.pinned (OpenSpec.upto otpCutsSpec)

/-- 'sluicewaylaw04.OtpSteps', WHERE WHAT IT READS IS OF BULK AT MOST 1048576: true; the input reads as it did. -/
def otpStepsUptoRow : OpenClaim := { program := "ytmillknfnffenaadoor", sum := "e42271880c5cd560e841dd2e6c7af8c723208ec4e3a13aedc77eec04124584e1", func := "sluiceway/sluicewaylaw04.OtpSteps", spec := "otpSteps", inPlace := ["internal/abi.NoEscape", "internal/bytealg.MakeNoZero"], unfollowed := true, recurses := true, named := ["internal/strconv.uint64pow10", "math/bits.deBruijn32tab", "math/bits.deBruijn64tab"], apart := false, laid := [("math/bits.deBruijn32tab", laid_math_bits_deBruijn32tab), ("math/bits.deBruijn64tab", laid_math_bits_deBruijn64tab), ("internal/strconv.uint64pow10", laid_internal_strconv_uint64pow10)], narrowed := true }
def OtpStepsUptoSaid : Prop := otpStepsUptoRow.holds Tryd.pinned (OpenSpec.upto otpStepsSpec)

end Rows
end Go.Proofs.YtmillknfnffenaaDoor
