/- Contracts: armor opened. -/
import Derived.Test.YtakehleacibfiaaDoorFg
set_option linter.unusedVariables false
namespace Go.Sl
open Go Go.Vc Go.Proofs Go.RowKit Go.Sort Go.Lib

/-- The element at a place. -/
abbrev at_ (l : List Tm) (i : Nat) : Tm := l.getD i zeroT
theorem tmvs_at {l : List Tm} {i : Nat} (h : i < l.length) : (tmvs l)[i]? = some (TV (at_ l i)) := by
  rw [tmvs_get h]
  simp [at_, h]
theorem unpackT_len {tag : Bs} {n : Nat} {t : Tm} {l : List Tm} (h : unpackT tag n t = some l) : l.length = n := by
  unfold unpackT at h
  split at h
  · cases h
    rename_i h
    simp [h.2.2]
  · cases h
theorem sealedT_len {k : Tm} {n : Int} {t : Tm} {tag : Bs} {m : Nat} (h : (sealedT k n t tag m).2 = 0) : (sealedT k n t tag m).1.length = m := by
  unfold sealedT at h ⊢
  split at h
  · exact absurd h (by assumption)
  · rename_i h2
    rw [if_neg h2]
    split at h
    · cases h
    · rename_i l e
      exact unpackT_len e
theorem Fit.unpack {tag : Bs} {n : Nat} {t : Tm} {l : List Tm} (hf : Fit t) (h : unpackT tag n t = some l) : ∀ u ∈ l, Fit u := by
  unfold unpackT at h
  split at h
  · cases h
    exact fun u hu => hf.kid (List.mem_of_mem_drop hu)
  · cases h
theorem Fit.sealed {k : Tm} {n : Int} {t : Tm} {tag : Bs} {m : Nat} (hf : Fit t) : ∀ u ∈ (sealedT k n t tag m).1, Fit u := by
  unfold sealedT
  split
  · intro u hu; cases hu
  · split
    · intro u hu; cases hu
    · rename_i l e
      exact hf.unshut.unpack e
theorem Fit.at_ {l : List Tm} (h : ∀ u ∈ l, Fit u) (i : Nat) : Fit (at_ l i) := by
  unfold Sl.at_
  rw [List.getD_eq_getElem?_getD]
  cases e : l[i]? with
  | none => exact Fit.zero
  | some u => exact h u (List.mem_of_getElem? e)
/-- What Open tells. -/
def openT (k t : Tm) : Tm × Int :=
  match unpackT armorW 2 t with
  | none => (zeroT, 2)
  | some l =>
    if (sealedT k 2 (at_ l 0) hostW 1).2 ≠ 0 then (zeroT, (sealedT k 2 (at_ l 0) hostW 1).2) else
    if (sealedT (at_ (sealedT k 2 (at_ l 0) hostW 1).1 0) 11 (at_ l 1) authW 1).2 ≠ 0 then (zeroT, (sealedT (at_ (sealedT k 2 (at_ l 0) hostW 1).1 0) 11 (at_ l 1) authW 1).2) else
    (joinT (at_ (sealedT (at_ (sealedT k 2 (at_ l 0) hostW 1).1 0) 11 (at_ l 1) authW 1).1 0) (at_ (sealedT k 2 (at_ l 0) hostW 1).1 0) subW tickW, 0)
def ansOfT (k : Tm) (n : Bs) (t : Tm) : Tm × Int :=
  if (sealedT k 52 t answerW 2).2 ≠ 0 then (zeroT, (sealedT k 52 t answerW 2).2) else
  if at_ (sealedT k 52 t answerW 2).1 0 ≠ dataT (61 :: n) then (zeroT, 6) else (at_ (sealedT k 52 t answerW 2).1 1, 0)
end Go.Sl
