/- Contracts: keys; packs. -/
import Derived.Test.YtakehleacibfiaaDoorFd
set_option linter.unusedVariables false
namespace Go.Sl
open Go Go.Vc Go.Proofs Go.RowKit Go.Sort Go.Lib

abbrev joinW : Bs := [106, 111, 105, 110, 32]
abbrev useW : Bs := [117, 115, 101]
def numT (k : Tm) (what : Bs) (n : Int) : Tm := kdfT k (what ++ [32] ++ itoa n)
def joinT (a c : Tm) (fa fb : Bs) : Tm := hashT (pairT [kdfT a (joinW ++ fa), kdfT c (joinW ++ fb)])
abbrev subW : Bs := [115, 117, 98, 107, 101, 121, 97, 114, 109, 111, 114]
abbrev tickW : Bs := [116, 105, 99, 107, 101, 116, 97, 114, 109, 111, 114]
def packT (tag : Bs) (l : List Tm) : Tm := pairT (dataT tag :: l)
theorem tmvs_take {l : List Tm} {i : Nat} (x : Tm) (h : i < l.length) : tmvs (x :: l.take i) ++ [TV l[i]] = tmvs (x :: l.take (i + 1)) := by
  rw [tmvs_eq, tmvs_eq, List.take_succ_eq_append_getElem h, List.map_cons, List.map_cons, List.map_append]
  rfl
theorem hbd48 {a b : Nat} (h : a + b ≤ 2932031007402) : (a + b) * tiTerm.bytes ≤ 140737488355328 := by
  show (a + b) * 48 ≤ 140737488355328
  omega
end Go.Sl
