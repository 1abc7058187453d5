/- Contracts: packs read. -/
import Derived.Test.YtakehleacibfiaaDoorFe
set_option linter.unusedVariables false
namespace Go.Sl
open Go Go.Vc Go.Proofs Go.RowKit Go.Sort Go.Lib

/-- A pack's tag. -/
def tagT (t : Tm) : Bs := if t.kind = 3 ∧ t.name = [] then (match t.kids with | [] => [] | k :: _ => if k.kind = 1 ∧ k.kids = [] then k.name else []) else []
def unpackT (tag : Bs) (n : Nat) (t : Tm) : Option (List Tm) := if tag ≠ [] ∧ tagT t = tag ∧ t.kids.length = n + 1 then some (t.kids.drop 1) else none
theorem len0 {l : List Tm} : (tmvs l).length = 0 ↔ l = [] := by rw [tmvs_length]; cases l <;> simp
theorem tagT_at {t : Tm} (h1 : t.kind = 3) (h2 : t.name = []) (h : 0 < t.kids.length) : tagT t = if t.kids[0].kind = 1 ∧ t.kids[0].kids = [] then t.kids[0].name else [] := by
  obtain ⟨k, n, l⟩ := t
  cases l with
  | nil => simp [Tm.kids] at h
  | cons x xs =>
    unfold tagT
    rw [if_pos ⟨h1, h2⟩]
    rfl
theorem tagT_nil {t : Tm} (h : ¬ 0 < t.kids.length) : tagT t = [] := by
  obtain ⟨k, n, l⟩ := t
  cases l with
  | nil => simp [tagT, Tm.kids]
  | cons x xs => simp [Tm.kids] at h
theorem cut_tmvs {l : List Tm} {n : Nat} (h : l.length = n) : cut (tmvs l) 1 n = tmvs (l.drop 1) := by
  rw [cut, tmvs_eq, tmvs_eq, List.map_drop, List.take_of_length_le]
  simp
  omega
/-- What Unpack tells. -/
def unpR (o : Option (List Tm)) : Res := .tup [.lst (tmvs (o.getD [])), .bool o.isSome]
end Go.Sl
