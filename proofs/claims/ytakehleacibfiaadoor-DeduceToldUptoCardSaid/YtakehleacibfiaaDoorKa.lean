/- Contracts of layer 10: the rest of the keys. -/
import Derived.Test.YtakehleacibfiaaDoorFe
set_option linter.unusedVariables false
set_option linter.unusedSimpArgs false
namespace Go.Sl
open Go Go.Vc Go.Proofs Go.RowKit

def otpW : Bs := [111, 116, 112]
def wordW : Bs := [119, 111, 114, 100]
def longW : Bs := [108, 111, 110, 103, 32]
def strW : Bs := [115, 116, 114, 101, 110, 103, 116, 104, 101, 110, 107, 101, 121]
def repW : Bs := [114, 101, 112, 108, 121, 107, 101, 121]
end Go.Sl
