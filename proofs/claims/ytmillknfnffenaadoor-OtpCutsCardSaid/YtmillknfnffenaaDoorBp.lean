/- The codes of the example, reckoned. -/
import Derived.Test.YtmillknfnffenaaDoorBm
set_option linter.unusedVariables false
namespace Go.So
open Go Go.Vc Go.Proofs
theorem code1 : tn (hmacF key20 (lenK 1 8)) = 1094287082 := by decide +kernel
theorem code2 : tn (hmacF key20 (lenK 2 8)) = 137359152 := by decide +kernel
theorem code3 : tn (hmacF key20 (lenK 3 8)) = 1726969429 := by decide +kernel
theorem code4 : tn (hmacF key20 (lenK 4 8)) = 1640338314 := by decide +kernel
theorem code5 : tn (hmacF key20 (lenK 5 8)) = 868254676 := by decide +kernel
theorem code6 : tn (hmacF key20 (lenK 6 8)) = 1918287922 := by decide +kernel
theorem code7 : tn (hmacF key20 (lenK 7 8)) = 82162583 := by decide +kernel
theorem code8 : tn (hmacF key20 (lenK 8 8)) = 673399871 := by decide +kernel
theorem code9 : tn (hmacF key20 (lenK 9 8)) = 645520489 := by decide +kernel
end Go.So
