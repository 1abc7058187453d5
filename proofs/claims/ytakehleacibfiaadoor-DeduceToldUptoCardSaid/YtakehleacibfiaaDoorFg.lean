/- Contracts: armor. -/
import Derived.Test.YtakehleacibfiaaDoorFf
set_option linter.unusedVariables false
namespace Go.Sl
open Go Go.Vc Go.Proofs Go.RowKit Go.Sort Go.Lib

abbrev hostW : Bs := [104, 111, 115, 116]
abbrev authW : Bs := [97, 117, 116, 104]
abbrev armorW : Bs := [97, 114, 109, 111, 114]
abbrev fastW : Bs := [102, 97, 115, 116]
abbrev answerW : Bs := [97, 110, 115, 119, 101, 114]
def sealT (k : Tm) (n : Int) (t : Tm) : Tm := encT (numT k useW n) t
def ticketT (k h : Tm) : Tm := sealT k 2 (packT hostW [h])
def wrapT (t h s : Tm) : Tm := packT armorW [t, sealT h 11 (packT authW [s])]
def reqT (k x p c : Tm) : Tm := sealT k 51 (packT fastW [hashT x, p, c])
def ansT (k : Tm) (n : Bs) (t : Tm) : Tm := sealT k 52 (packT answerW [dataT (61 :: n), t])
abbrev zeroT : Tm := .mk 0 [] []
/-! reading -/
def unsealT (k : Tm) (n : Int) (t : Tm) : Tm × Int :=
  if h : t.kind = 4 ∧ t.kids.length = 2 then (if t.kids[0]'(by omega) = numT k useW n then (t.kids[1]'(by omega), 0) else (zeroT, 4)) else (zeroT, 2)
def tmR (x : Tm × Int) : Res := .tup [TV x.1, .int .i64 x.2]
theorem unsealT_no {k : Tm} {n : Int} {t : Tm} (h : ¬ (t.kind = 4 ∧ t.kids.length = 2)) : unsealT k n t = (zeroT, 2) := dif_neg h
theorem unsealT_at {k : Tm} {n : Int} {t : Tm} (h1 : t.kind = 4) (h2 : t.kids.length = 2) : unsealT k n t = if t.kids[0]'(by omega) = numT k useW n then (t.kids[1]'(by omega), 0) else (zeroT, 4) := dif_pos ⟨h1, h2⟩
/-- What is shut up, if it is a pack. -/
def sealedT (k : Tm) (n : Int) (t : Tm) (tag : Bs) (m : Nat) : List Tm × Int :=
  if (unsealT k n t).2 ≠ 0 then ([], (unsealT k n t).2) else match unpackT tag m (unsealT k n t).1 with
    | none => ([], 2)
    | some l => (l, 0)
theorem Fit.zero : Fit zeroT := .mk (by decide) (by decide) (fun t h => by cases h)
theorem Fit.unshut {k t : Tm} {n : Int} (h : Fit t) : Fit (unsealT k n t).1 := by
  unfold unsealT
  split
  · split
    · exact h.kid (List.getElem_mem _)
    · exact Fit.zero
  · exact Fit.zero
def lsR (x : List Tm × Int) : Res := .tup [.lst (tmvs x.1), .int .i64 x.2]
end Go.Sl
