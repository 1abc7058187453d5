/-
  NARROWER THAN 'FOR EVERY INPUT', by the rows' own cells (each row's printed sentence says how): OfflineTells: loops, laid · OfflineOrder: loops, laid · OfflineKnown: loops, laid · OfflineTests: loops, laid · OfflinePlain: laid · OfflineFresh: loops, laid · OfflineWeak: loops, laid · OfflineShut: loops, laid.
  DERIVED. THE GIVEN ROWS OF THIS SEAT. 8 by the template 'for every input the law returns true; each argument reads behind the call as it read before'; 0 by the template 'total and deterministic' (their statements: YtjabfkeppaoegaaDoorTotals.lean).
  GIVEN WITH THE SEED: the statements are not yours to turn. If you find one false, say at which input.
  Laid BY PROGRAM, IN A SANDBOX (cutbox-rows.mjs): the forced cells as the released guide's own fill.sh prints them over the translation 3d7ae4bb0bdc5a32… (all of the seat's roots in one cut). By AI agents, Wed Nov 11 2026. No macro, syntax, notation, axiom, sorry.
-/
import Derived.Test.YtjabfkeppaoegaaDoorChecked
import GoSem.Claim
import GoSem.ClaimJoined
import GoSem.ClaimMapViews
import Derived.JoinedTies
import Derived.KernelRfl
namespace Go.Proofs.YtjabfkeppaoegaaDoor
/- THE CELL 'sum', in the pinned program and in every row, IS THE sha256 OF THE DUMP (.gsa) THAT YtjabfkeppaoegaaDoorProg.lean LOADS. Nothing in Lean hashes anything: it is a label: what it is worth is what the hold of that sum in a sandbox is worth. -/
noncomputable def Tryd.pinned : Pinned := { name := "ytjabfkeppaoegaadoor", sum := "3d7ae4bb0bdc5a322bd7f6faab7f689eff69a958369ad002b7bb8def764a06fa", checked := Tryd.checked }
namespace Rows
def none {H : Type} : Left H := { results := [], args := [] }

/- WHAT THE LISTED PACKAGE-LEVEL VARIABLES READ AS WHEN THE CALL BEGINS. Each datum BY PROGRAM (the guide's laid-datum.mjs) off the statement by which the dump's own 'gosem.cut.vars' lays the variable. In a bare row this is a premise. The card (YtjabfkeppaoegaaDoorCards.lean) ties it to the program's text. -/
def laid_math_bits_deBruijn32tab {H : Type} : DataW H := .agg [.lit (.int .u8 0), .lit (.int .u8 1), .lit (.int .u8 28), .lit (.int .u8 2), .lit (.int .u8 29), .lit (.int .u8 14), .lit (.int .u8 24), .lit (.int .u8 3), .lit (.int .u8 30), .lit (.int .u8 22), .lit (.int .u8 20), .lit (.int .u8 15), .lit (.int .u8 25), .lit (.int .u8 17), .lit (.int .u8 4), .lit (.int .u8 8), .lit (.int .u8 31), .lit (.int .u8 27), .lit (.int .u8 13), .lit (.int .u8 23), .lit (.int .u8 21), .lit (.int .u8 19), .lit (.int .u8 16), .lit (.int .u8 7), .lit (.int .u8 26), .lit (.int .u8 12), .lit (.int .u8 18), .lit (.int .u8 6), .lit (.int .u8 11), .lit (.int .u8 5), .lit (.int .u8 10), .lit (.int .u8 9)]
def laid_math_bits_deBruijn64tab {H : Type} : DataW H := .agg [.lit (.int .u8 0), .lit (.int .u8 1), .lit (.int .u8 56), .lit (.int .u8 2), .lit (.int .u8 57), .lit (.int .u8 49), .lit (.int .u8 28), .lit (.int .u8 3), .lit (.int .u8 61), .lit (.int .u8 58), .lit (.int .u8 42), .lit (.int .u8 50), .lit (.int .u8 38), .lit (.int .u8 29), .lit (.int .u8 17), .lit (.int .u8 4), .lit (.int .u8 62), .lit (.int .u8 47), .lit (.int .u8 59), .lit (.int .u8 36), .lit (.int .u8 45), .lit (.int .u8 43), .lit (.int .u8 51), .lit (.int .u8 22), .lit (.int .u8 53), .lit (.int .u8 39), .lit (.int .u8 33), .lit (.int .u8 30), .lit (.int .u8 24), .lit (.int .u8 18), .lit (.int .u8 12), .lit (.int .u8 5), .lit (.int .u8 63), .lit (.int .u8 55), .lit (.int .u8 48), .lit (.int .u8 27), .lit (.int .u8 60), .lit (.int .u8 41), .lit (.int .u8 37), .lit (.int .u8 16), .lit (.int .u8 46), .lit (.int .u8 35), .lit (.int .u8 44), .lit (.int .u8 21), .lit (.int .u8 52), .lit (.int .u8 32), .lit (.int .u8 23), .lit (.int .u8 11), .lit (.int .u8 54), .lit (.int .u8 26), .lit (.int .u8 40), .lit (.int .u8 15), .lit (.int .u8 34), .lit (.int .u8 20), .lit (.int .u8 31), .lit (.int .u8 10), .lit (.int .u8 25), .lit (.int .u8 14), .lit (.int .u8 19), .lit (.int .u8 9), .lit (.int .u8 13), .lit (.int .u8 8), .lit (.int .u8 7), .lit (.int .u8 6)]
def laid_internal_strconv_uint64pow10 {H : Type} : DataW H := .agg [.lit (.int .u64 1), .lit (.int .u64 10), .lit (.int .u64 100), .lit (.int .u64 1000), .lit (.int .u64 10000), .lit (.int .u64 100000), .lit (.int .u64 1000000), .lit (.int .u64 10000000), .lit (.int .u64 100000000), .lit (.int .u64 1000000000), .lit (.int .u64 10000000000), .lit (.int .u64 100000000000), .lit (.int .u64 1000000000000), .lit (.int .u64 10000000000000), .lit (.int .u64 100000000000000), .lit (.int .u64 1000000000000000), .lit (.int .u64 10000000000000000), .lit (.int .u64 100000000000000000), .lit (.int .u64 1000000000000000000), .lit (.int .u64 10000000000000000000)]
def laid_sluiceway_term_kinds {H : Type} : DataW H := .agg [.agg [.lit (.string []), .lit (.int .i64 0), .lit (.bool false)], .agg [.lit (.string [100]), .lit (.int .i64 0), .lit (.bool true)], .agg [.lit (.string [97]), .lit (.int .i64 0), .lit (.bool true)], .agg [.lit (.string [112]), .lit (.int .i64 (-1)), .lit (.bool false)], .agg [.lit (.string [101]), .lit (.int .i64 2), .lit (.bool false)], .agg [.lit (.string [109]), .lit (.int .i64 2), .lit (.bool false)], .agg [.lit (.string [104]), .lit (.int .i64 1), .lit (.bool false)], .agg [.lit (.string [107]), .lit (.int .i64 1), .lit (.bool true)], .agg [.lit (.string [117]), .lit (.int .i64 1), .lit (.bool false)], .agg [.lit (.string [115]), .lit (.int .i64 2), .lit (.bool false)], .agg [.lit (.string [120]), .lit (.int .i64 2), .lit (.bool false)]]

/-- 'sluicewaylaw09.OfflineTells': WHATEVER THE INPUT: true; the input reads as it did. -/
def offlineTellsSpec : ChangeSpec := { name := "offlineTells", fn := fun _ => fun
  | [d1, d2] => { results := [.lit (.bool true)], args := [d1, d2] }
  | _ => none }
def offlineTellsRow : OpenClaim := { program := "ytjabfkeppaoegaadoor", sum := "3d7ae4bb0bdc5a322bd7f6faab7f689eff69a958369ad002b7bb8def764a06fa", func := "sluiceway/sluicewaylaw09.OfflineTells", spec := "offlineTells", inPlace := ["internal/abi.NoEscape", "internal/bytealg.MakeNoZero"], unfollowed := true, recurses := true, named := ["sluiceway/term.kinds", "internal/strconv.uint64pow10", "math/bits.deBruijn32tab", "math/bits.deBruijn64tab"], loops := true, apart := false, laid := [("math/bits.deBruijn32tab", laid_math_bits_deBruijn32tab), ("math/bits.deBruijn64tab", laid_math_bits_deBruijn64tab), ("internal/strconv.uint64pow10", laid_internal_strconv_uint64pow10), ("sluiceway/term.kinds", laid_sluiceway_term_kinds)] }
def OfflineTellsSaid : Prop := offlineTellsRow.holds Tryd.pinned (OpenSpec.ofChange offlineTellsSpec)

/-- ITS FALSE NEIGHBOUR: 'it returns false'. Refute it at one input. -/
def offlineTellsWrong : ChangeSpec := { name := "offlineTells", fn := fun _ => fun
  | [d1, d2] => { results := [.lit (.bool false)], args := [d1, d2] }
  | _ => none }
def OfflineTellsWrongFalsely : Prop := offlineTellsRow.holds Tryd.pinned (OpenSpec.ofChange offlineTellsWrong)

/-- 'sluicewaylaw09.OfflineOrder': WHATEVER THE INPUT: true; the input reads as it did. -/
def offlineOrderSpec : ChangeSpec := { name := "offlineOrder", fn := fun _ => fun
  | [d1, d2] => { results := [.lit (.bool true)], args := [d1, d2] }
  | _ => none }
def offlineOrderRow : OpenClaim := { program := "ytjabfkeppaoegaadoor", sum := "3d7ae4bb0bdc5a322bd7f6faab7f689eff69a958369ad002b7bb8def764a06fa", func := "sluiceway/sluicewaylaw09.OfflineOrder", spec := "offlineOrder", inPlace := ["internal/abi.NoEscape", "internal/bytealg.MakeNoZero"], unfollowed := true, recurses := true, named := ["sluiceway/term.kinds", "internal/strconv.uint64pow10", "math/bits.deBruijn32tab", "math/bits.deBruijn64tab"], loops := true, apart := false, laid := [("math/bits.deBruijn32tab", laid_math_bits_deBruijn32tab), ("math/bits.deBruijn64tab", laid_math_bits_deBruijn64tab), ("internal/strconv.uint64pow10", laid_internal_strconv_uint64pow10), ("sluiceway/term.kinds", laid_sluiceway_term_kinds)] }
def OfflineOrderSaid : Prop := offlineOrderRow.holds Tryd.pinned (OpenSpec.ofChange offlineOrderSpec)

/-- ITS FALSE NEIGHBOUR: 'it returns false'. Refute it at one input. -/
def offlineOrderWrong : ChangeSpec := { name := "offlineOrder", fn := fun _ => fun
  | [d1, d2] => { results := [.lit (.bool false)], args := [d1, d2] }
  | _ => none }
def OfflineOrderWrongFalsely : Prop := offlineOrderRow.holds Tryd.pinned (OpenSpec.ofChange offlineOrderWrong)

/-- 'sluicewaylaw09.OfflineKnown': WHATEVER THE INPUT: true; the input reads as it did. -/
def offlineKnownSpec : ChangeSpec := { name := "offlineKnown", fn := fun _ => fun
  | [d1, d2] => { results := [.lit (.bool true)], args := [d1, d2] }
  | _ => none }
def offlineKnownRow : OpenClaim := { program := "ytjabfkeppaoegaadoor", sum := "3d7ae4bb0bdc5a322bd7f6faab7f689eff69a958369ad002b7bb8def764a06fa", func := "sluiceway/sluicewaylaw09.OfflineKnown", spec := "offlineKnown", inPlace := ["internal/abi.NoEscape", "internal/bytealg.MakeNoZero"], unfollowed := true, recurses := true, named := ["sluiceway/term.kinds", "internal/strconv.uint64pow10", "math/bits.deBruijn32tab", "math/bits.deBruijn64tab"], loops := true, apart := false, laid := [("math/bits.deBruijn32tab", laid_math_bits_deBruijn32tab), ("math/bits.deBruijn64tab", laid_math_bits_deBruijn64tab), ("internal/strconv.uint64pow10", laid_internal_strconv_uint64pow10), ("sluiceway/term.kinds", laid_sluiceway_term_kinds)] }
def OfflineKnownSaid : Prop := offlineKnownRow.holds Tryd.pinned (OpenSpec.ofChange offlineKnownSpec)

/-- ITS FALSE NEIGHBOUR: 'it returns false'. Refute it at one input. -/
def offlineKnownWrong : ChangeSpec := { name := "offlineKnown", fn := fun _ => fun
  | [d1, d2] => { results := [.lit (.bool false)], args := [d1, d2] }
  | _ => none }
def OfflineKnownWrongFalsely : Prop := offlineKnownRow.holds Tryd.pinned (OpenSpec.ofChange offlineKnownWrong)

/-- 'sluicewaylaw09.OfflineTests': WHATEVER THE INPUT: true; the input reads as it did. -/
def offlineTestsSpec : ChangeSpec := { name := "offlineTests", fn := fun _ => fun
  | [d1, d2] => { results := [.lit (.bool true)], args := [d1, d2] }
  | _ => none }
def offlineTestsRow : OpenClaim := { program := "ytjabfkeppaoegaadoor", sum := "3d7ae4bb0bdc5a322bd7f6faab7f689eff69a958369ad002b7bb8def764a06fa", func := "sluiceway/sluicewaylaw09.OfflineTests", spec := "offlineTests", inPlace := ["internal/abi.NoEscape", "internal/bytealg.MakeNoZero"], unfollowed := true, recurses := true, named := ["sluiceway/term.kinds", "internal/strconv.uint64pow10", "math/bits.deBruijn32tab", "math/bits.deBruijn64tab"], loops := true, apart := false, laid := [("math/bits.deBruijn32tab", laid_math_bits_deBruijn32tab), ("math/bits.deBruijn64tab", laid_math_bits_deBruijn64tab), ("internal/strconv.uint64pow10", laid_internal_strconv_uint64pow10), ("sluiceway/term.kinds", laid_sluiceway_term_kinds)] }
def OfflineTestsSaid : Prop := offlineTestsRow.holds Tryd.pinned (OpenSpec.ofChange offlineTestsSpec)

/-- ITS FALSE NEIGHBOUR: 'it returns false'. Refute it at one input. -/
def offlineTestsWrong : ChangeSpec := { name := "offlineTests", fn := fun _ => fun
  | [d1, d2] => { results := [.lit (.bool false)], args := [d1, d2] }
  | _ => none }
def OfflineTestsWrongFalsely : Prop := offlineTestsRow.holds Tryd.pinned (OpenSpec.ofChange offlineTestsWrong)

/-- 'sluicewaylaw09.OfflinePlain': WHATEVER THE INPUT: true; the input reads as it did. -/
def offlinePlainSpec : ChangeSpec := { name := "offlinePlain", fn := fun _ => fun
  | [d1, d2, d3] => { results := [.lit (.bool true)], args := [d1, d2, d3] }
  | _ => none }
def offlinePlainRow : OpenClaim := { program := "ytjabfkeppaoegaadoor", sum := "3d7ae4bb0bdc5a322bd7f6faab7f689eff69a958369ad002b7bb8def764a06fa", func := "sluiceway/sluicewaylaw09.OfflinePlain", spec := "offlinePlain", inPlace := ["internal/abi.NoEscape", "internal/bytealg.MakeNoZero"], unfollowed := true, recurses := true, named := ["sluiceway/term.kinds", "internal/strconv.uint64pow10", "math/bits.deBruijn32tab", "math/bits.deBruijn64tab"], apart := false, laid := [("math/bits.deBruijn32tab", laid_math_bits_deBruijn32tab), ("math/bits.deBruijn64tab", laid_math_bits_deBruijn64tab), ("internal/strconv.uint64pow10", laid_internal_strconv_uint64pow10), ("sluiceway/term.kinds", laid_sluiceway_term_kinds)] }
def OfflinePlainSaid : Prop := offlinePlainRow.holds Tryd.pinned (OpenSpec.ofChange offlinePlainSpec)

/-- ITS FALSE NEIGHBOUR: 'it returns false'. Refute it at one input. -/
def offlinePlainWrong : ChangeSpec := { name := "offlinePlain", fn := fun _ => fun
  | [d1, d2, d3] => { results := [.lit (.bool false)], args := [d1, d2, d3] }
  | _ => none }
def OfflinePlainWrongFalsely : Prop := offlinePlainRow.holds Tryd.pinned (OpenSpec.ofChange offlinePlainWrong)

/-- 'sluicewaylaw09.OfflineFresh': WHATEVER THE INPUT: true; the input reads as it did. -/
def offlineFreshSpec : ChangeSpec := { name := "offlineFresh", fn := fun _ => fun
  | [d1, d2] => { results := [.lit (.bool true)], args := [d1, d2] }
  | _ => none }
def offlineFreshRow : OpenClaim := { program := "ytjabfkeppaoegaadoor", sum := "3d7ae4bb0bdc5a322bd7f6faab7f689eff69a958369ad002b7bb8def764a06fa", func := "sluiceway/sluicewaylaw09.OfflineFresh", spec := "offlineFresh", inPlace := ["internal/abi.NoEscape", "internal/bytealg.MakeNoZero"], unfollowed := true, recurses := true, named := ["sluiceway/term.kinds", "internal/strconv.uint64pow10", "math/bits.deBruijn32tab", "math/bits.deBruijn64tab"], loops := true, apart := false, laid := [("math/bits.deBruijn32tab", laid_math_bits_deBruijn32tab), ("math/bits.deBruijn64tab", laid_math_bits_deBruijn64tab), ("internal/strconv.uint64pow10", laid_internal_strconv_uint64pow10), ("sluiceway/term.kinds", laid_sluiceway_term_kinds)] }
def OfflineFreshSaid : Prop := offlineFreshRow.holds Tryd.pinned (OpenSpec.ofChange offlineFreshSpec)

/-- ITS FALSE NEIGHBOUR: 'it returns false'. Refute it at one input. -/
def offlineFreshWrong : ChangeSpec := { name := "offlineFresh", fn := fun _ => fun
  | [d1, d2] => { results := [.lit (.bool false)], args := [d1, d2] }
  | _ => none }
def OfflineFreshWrongFalsely : Prop := offlineFreshRow.holds Tryd.pinned (OpenSpec.ofChange offlineFreshWrong)

/-- 'sluicewaylaw09.OfflineWeak': WHATEVER THE INPUT: true; the input reads as it did. -/
def offlineWeakSpec : ChangeSpec := { name := "offlineWeak", fn := fun _ => fun
  | [d1, d2, d3] => { results := [.lit (.bool true)], args := [d1, d2, d3] }
  | _ => none }
def offlineWeakRow : OpenClaim := { program := "ytjabfkeppaoegaadoor", sum := "3d7ae4bb0bdc5a322bd7f6faab7f689eff69a958369ad002b7bb8def764a06fa", func := "sluiceway/sluicewaylaw09.OfflineWeak", spec := "offlineWeak", inPlace := ["internal/abi.NoEscape", "internal/bytealg.MakeNoZero"], unfollowed := true, recurses := true, named := ["sluiceway/term.kinds", "internal/strconv.uint64pow10", "math/bits.deBruijn32tab", "math/bits.deBruijn64tab"], loops := true, apart := false, laid := [("math/bits.deBruijn32tab", laid_math_bits_deBruijn32tab), ("math/bits.deBruijn64tab", laid_math_bits_deBruijn64tab), ("internal/strconv.uint64pow10", laid_internal_strconv_uint64pow10), ("sluiceway/term.kinds", laid_sluiceway_term_kinds)] }
def OfflineWeakSaid : Prop := offlineWeakRow.holds Tryd.pinned (OpenSpec.ofChange offlineWeakSpec)

/-- ITS FALSE NEIGHBOUR: 'it returns false'. Refute it at one input. -/
def offlineWeakWrong : ChangeSpec := { name := "offlineWeak", fn := fun _ => fun
  | [d1, d2, d3] => { results := [.lit (.bool false)], args := [d1, d2, d3] }
  | _ => none }
def OfflineWeakWrongFalsely : Prop := offlineWeakRow.holds Tryd.pinned (OpenSpec.ofChange offlineWeakWrong)

/-- 'sluicewaylaw09.OfflineShut': WHATEVER THE INPUT: true; the input reads as it did. -/
def offlineShutSpec : ChangeSpec := { name := "offlineShut", fn := fun _ => fun
  | [d1, d2, d3] => { results := [.lit (.bool true)], args := [d1, d2, d3] }
  | _ => none }
def offlineShutRow : OpenClaim := { program := "ytjabfkeppaoegaadoor", sum := "3d7ae4bb0bdc5a322bd7f6faab7f689eff69a958369ad002b7bb8def764a06fa", func := "sluiceway/sluicewaylaw09.OfflineShut", spec := "offlineShut", inPlace := ["internal/abi.NoEscape", "internal/bytealg.MakeNoZero"], unfollowed := true, recurses := true, named := ["sluiceway/term.kinds", "internal/strconv.uint64pow10", "math/bits.deBruijn32tab", "math/bits.deBruijn64tab"], loops := true, apart := false, laid := [("math/bits.deBruijn32tab", laid_math_bits_deBruijn32tab), ("math/bits.deBruijn64tab", laid_math_bits_deBruijn64tab), ("internal/strconv.uint64pow10", laid_internal_strconv_uint64pow10), ("sluiceway/term.kinds", laid_sluiceway_term_kinds)] }
def OfflineShutSaid : Prop := offlineShutRow.holds Tryd.pinned (OpenSpec.ofChange offlineShutSpec)

/-- ITS FALSE NEIGHBOUR: 'it returns false'. Refute it at one input. -/
def offlineShutWrong : ChangeSpec := { name := "offlineShut", fn := fun _ => fun
  | [d1, d2, d3] => { results := [.lit (.bool false)], args := [d1, d2, d3] }
  | _ => none }
def OfflineShutWrongFalsely : Prop := offlineShutRow.holds Tryd.pinned (OpenSpec.ofChange offlineShutWrong)

/- THE SECOND FORM. 'bulk': how many values and letters a reading holds, each counted each time it is reached (what is shared counts as often as it is met; a slice's spare places count too). A statement '..UptoSaid' is the law's where the arguments, and the package variables that the reading takes, are together of bulk at most 1048576: NARROWER than '..Said'. Prove '..Said' where nothing that the law and all that it calls make is longer than what came in: it says more and counts as full. Else prove '..UptoSaid'. A law counts once. -/
mutual
def uptoBulk {H : Type} : DataW H → Nat
  | .lit (.string bytes) => bytes.length + 1
  | .lit _ => 1
  | .nil => 1
  | .ptr d => uptoBulk d + 1
  | .slice elems spare => uptoBulkAll elems + uptoBulkAll spare + 1
  | .agg parts => uptoBulkAll parts + 1
  | .iface _ d => uptoBulk d + 1
  | .map entries => uptoBulkEntries entries + 1
  | .held _ => 1
def uptoBulkAll {H : Type} : List (DataW H) → Nat
  | [] => 0
  | d :: r => uptoBulk d + uptoBulkAll r
def uptoBulkEntries {H : Type} : List (Lit × DataW H) → Nat
  | [] => 0
  | x :: r => uptoBulkEntry x + uptoBulkEntries r
def uptoBulkEntry {H : Type} : Lit × DataW H → Nat
  | (.string bytes, d) => bytes.length + uptoBulk d + 1
  | (_, d) => uptoBulk d + 1
 end
def uptoSmall : (H : Type) → List (DataW H) → Bool := fun _ ds => decide (uptoBulkAll ds ≤ 1048576)
def OpenSpec.upto (s : _root_.Go.ChangeSpec) : _root_.Go.OpenSpec := { _root_.Go.OpenSpec.ofChange s with cond := some uptoSmall }

/-- 'sluicewaylaw09.OfflineTells', WHERE WHAT IT READS IS OF BULK AT MOST 1048576: true; the input reads as it did. -/
def offlineTellsUptoRow : OpenClaim := { program := "ytjabfkeppaoegaadoor", sum := "3d7ae4bb0bdc5a322bd7f6faab7f689eff69a958369ad002b7bb8def764a06fa", func := "sluiceway/sluicewaylaw09.OfflineTells", spec := "offlineTells", inPlace := ["internal/abi.NoEscape", "internal/bytealg.MakeNoZero"], unfollowed := true, recurses := true, named := ["sluiceway/term.kinds", "internal/strconv.uint64pow10", "math/bits.deBruijn32tab", "math/bits.deBruijn64tab"], loops := true, apart := false, laid := [("math/bits.deBruijn32tab", laid_math_bits_deBruijn32tab), ("math/bits.deBruijn64tab", laid_math_bits_deBruijn64tab), ("internal/strconv.uint64pow10", laid_internal_strconv_uint64pow10), ("sluiceway/term.kinds", laid_sluiceway_term_kinds)], narrowed := true }
def OfflineTellsUptoSaid : Prop := offlineTellsUptoRow.holds Tryd.pinned (OpenSpec.upto offlineTellsSpec)

/-- 'sluicewaylaw09.OfflineOrder', WHERE WHAT IT READS IS OF BULK AT MOST 1048576: true; the input reads as it did. -/
def offlineOrderUptoRow : OpenClaim := { program := "ytjabfkeppaoegaadoor", sum := "3d7ae4bb0bdc5a322bd7f6faab7f689eff69a958369ad002b7bb8def764a06fa", func := "sluiceway/sluicewaylaw09.OfflineOrder", spec := "offlineOrder", inPlace := ["internal/abi.NoEscape", "internal/bytealg.MakeNoZero"], unfollowed := true, recurses := true, named := ["sluiceway/term.kinds", "internal/strconv.uint64pow10", "math/bits.deBruijn32tab", "math/bits.deBruijn64tab"], loops := true, apart := false, laid := [("math/bits.deBruijn32tab", laid_math_bits_deBruijn32tab), ("math/bits.deBruijn64tab", laid_math_bits_deBruijn64tab), ("internal/strconv.uint64pow10", laid_internal_strconv_uint64pow10), ("sluiceway/term.kinds", laid_sluiceway_term_kinds)], narrowed := true }
def OfflineOrderUptoSaid : Prop := offlineOrderUptoRow.holds Tryd.pinned (OpenSpec.upto offlineOrderSpec)

/-- 'sluicewaylaw09.OfflineKnown', WHERE WHAT IT READS IS OF BULK AT MOST 1048576: true; the input reads as it did. -/
def offlineKnownUptoRow : OpenClaim := { program := "ytjabfkeppaoegaadoor", sum := "3d7ae4bb0bdc5a322bd7f6faab7f689eff69a958369ad002b7bb8def764a06fa", func := "sluiceway/sluicewaylaw09.OfflineKnown", spec := "offlineKnown", inPlace := ["internal/abi.NoEscape", "internal/bytealg.MakeNoZero"], unfollowed := true, recurses := true, named := ["sluiceway/term.kinds", "internal/strconv.uint64pow10", "math/bits.deBruijn32tab", "math/bits.deBruijn64tab"], loops := true, apart := false, laid := [("math/bits.deBruijn32tab", laid_math_bits_deBruijn32tab), ("math/bits.deBruijn64tab", laid_math_bits_deBruijn64tab), ("internal/strconv.uint64pow10", laid_internal_strconv_uint64pow10), ("sluiceway/term.kinds", laid_sluiceway_term_kinds)], narrowed := true }
def OfflineKnownUptoSaid : Prop := offlineKnownUptoRow.holds Tryd.pinned (OpenSpec.upto offlineKnownSpec)

/-- 'sluicewaylaw09.OfflineTests', WHERE WHAT IT READS IS OF BULK AT MOST 1048576: true; the input reads as it did. -/
def offlineTestsUptoRow : OpenClaim := { program := "ytjabfkeppaoegaadoor", sum := "3d7ae4bb0bdc5a322bd7f6faab7f689eff69a958369ad002b7bb8def764a06fa", func := "sluiceway/sluicewaylaw09.OfflineTests", spec := "offlineTests", inPlace := ["internal/abi.NoEscape", "internal/bytealg.MakeNoZero"], unfollowed := true, recurses := true, named := ["sluiceway/term.kinds", "internal/strconv.uint64pow10", "math/bits.deBruijn32tab", "math/bits.deBruijn64tab"], loops := true, apart := false, laid := [("math/bits.deBruijn32tab", laid_math_bits_deBruijn32tab), ("math/bits.deBruijn64tab", laid_math_bits_deBruijn64tab), ("internal/strconv.uint64pow10", laid_internal_strconv_uint64pow10), ("sluiceway/term.kinds", laid_sluiceway_term_kinds)], narrowed := true }
def OfflineTestsUptoSaid : Prop := offlineTestsUptoRow.holds Tryd.pinned (OpenSpec.upto offlineTestsSpec)

/-- 'sluicewaylaw09.OfflinePlain', WHERE WHAT IT READS IS OF BULK AT MOST 1048576: true; the input reads as it did. -/
def offlinePlainUptoRow : OpenClaim := { program := "ytjabfkeppaoegaadoor", sum := "3d7ae4bb0bdc5a322bd7f6faab7f689eff69a958369ad002b7bb8def764a06fa", func := "sluiceway/sluicewaylaw09.OfflinePlain", spec := "offlinePlain", inPlace := ["internal/abi.NoEscape", "internal/bytealg.MakeNoZero"], unfollowed := true, recurses := true, named := ["sluiceway/term.kinds", "internal/strconv.uint64pow10", "math/bits.deBruijn32tab", "math/bits.deBruijn64tab"], apart := false, laid := [("math/bits.deBruijn32tab", laid_math_bits_deBruijn32tab), ("math/bits.deBruijn64tab", laid_math_bits_deBruijn64tab), ("internal/strconv.uint64pow10", laid_internal_strconv_uint64pow10), ("sluiceway/term.kinds", laid_sluiceway_term_kinds)], narrowed := true }
def OfflinePlainUptoSaid : Prop := offlinePlainUptoRow.holds Tryd.pinned (OpenSpec.upto offlinePlainSpec)

/-- 'sluicewaylaw09.OfflineFresh', WHERE WHAT IT READS IS OF BULK AT MOST 1048576: true; the input reads as it did. -/
def offlineFreshUptoRow : OpenClaim := { program := "ytjabfkeppaoegaadoor", sum := "3d7ae4bb0bdc5a322bd7f6faab7f689eff69a958369ad002b7bb8def764a06fa", func := "sluiceway/sluicewaylaw09.OfflineFresh", spec := "offlineFresh", inPlace := ["internal/abi.NoEscape", "internal/bytealg.MakeNoZero"], unfollowed := true, recurses := true, named := ["sluiceway/term.kinds", "internal/strconv.uint64pow10", "math/bits.deBruijn32tab", "math/bits.deBruijn64tab"], loops := true, apart := false, laid := [("math/bits.deBruijn32tab", laid_math_bits_deBruijn32tab), ("math/bits.deBruijn64tab", laid_math_bits_deBruijn64tab), ("internal/strconv.uint64pow10", laid_internal_strconv_uint64pow10), ("sluiceway/term.kinds", laid_sluiceway_term_kinds)], narrowed := true }
def OfflineFreshUptoSaid : Prop := offlineFreshUptoRow.holds Tryd.pinned (OpenSpec.upto offlineFreshSpec)

/-- 'sluicewaylaw09.OfflineWeak', WHERE WHAT IT READS IS OF BULK AT MOST 1048576: true; the input reads as it did. -/
def offlineWeakUptoRow : OpenClaim := { program := "ytjabfkeppaoegaadoor", sum := "3d7ae4bb0bdc5a322bd7f6faab7f689eff69a958369ad002b7bb8def764a06fa", func := "sluiceway/sluicewaylaw09.OfflineWeak", spec := "offlineWeak", inPlace := ["internal/abi.NoEscape", "internal/bytealg.MakeNoZero"], unfollowed := true, recurses := true, named := ["sluiceway/term.kinds", "internal/strconv.uint64pow10", "math/bits.deBruijn32tab", "math/bits.deBruijn64tab"], loops := true, apart := false, laid := [("math/bits.deBruijn32tab", laid_math_bits_deBruijn32tab), ("math/bits.deBruijn64tab", laid_math_bits_deBruijn64tab), ("internal/strconv.uint64pow10", laid_internal_strconv_uint64pow10), ("sluiceway/term.kinds", laid_sluiceway_term_kinds)], narrowed := true }
def OfflineWeakUptoSaid : Prop := offlineWeakUptoRow.holds Tryd.pinned (OpenSpec.upto offlineWeakSpec)

/-- 'sluicewaylaw09.OfflineShut', WHERE WHAT IT READS IS OF BULK AT MOST 1048576: true; the input reads as it did. -/
def offlineShutUptoRow : OpenClaim := { program := "ytjabfkeppaoegaadoor", sum := "3d7ae4bb0bdc5a322bd7f6faab7f689eff69a958369ad002b7bb8def764a06fa", func := "sluiceway/sluicewaylaw09.OfflineShut", spec := "offlineShut", inPlace := ["internal/abi.NoEscape", "internal/bytealg.MakeNoZero"], unfollowed := true, recurses := true, named := ["sluiceway/term.kinds", "internal/strconv.uint64pow10", "math/bits.deBruijn32tab", "math/bits.deBruijn64tab"], loops := true, apart := false, laid := [("math/bits.deBruijn32tab", laid_math_bits_deBruijn32tab), ("math/bits.deBruijn64tab", laid_math_bits_deBruijn64tab), ("internal/strconv.uint64pow10", laid_internal_strconv_uint64pow10), ("sluiceway/term.kinds", laid_sluiceway_term_kinds)], narrowed := true }
def OfflineShutUptoSaid : Prop := offlineShutUptoRow.holds Tryd.pinned (OpenSpec.upto offlineShutSpec)

end Rows
end Go.Proofs.YtjabfkeppaoegaaDoor
