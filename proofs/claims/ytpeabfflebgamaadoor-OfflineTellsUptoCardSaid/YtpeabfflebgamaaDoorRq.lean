/- Rows closed, with the bulk. -/
import Derived.Test.YtpeabfflebgamaaDoorOq
import Derived.Test.YtpeabfflebgamaaDoorRw
set_option linter.unusedVariables false
set_option linter.constructorNameAsVariable false
set_option maxRecDepth 100000
namespace Go.Sl
open Go Go.Vc Go.Proofs Go.RowKit Go.ChangeShapes Go.WideShapes Go.ChangeAt
open Go.Proofs.YtpeabfflebgamaaDoor
theorem open_termsB {H : Type} {enc : TypeId × Value → H} {W : World} {base : Nat} {v : Value} {d : DataW H} {p : List MemPlace} (hval : Value.okWide Tryd.prog W .any base 22 v) (h : DataW.Trod enc Tryd.prog W 0 (fun _ => true) true 22 v d p) :
    ∃ l : List Tm, (∀ t ∈ l, Fit t) ∧ RP (okW W) W (.lst (tmvs l)) v ∧ l.length ≤ 9223372036854775807 ∧ wts l ≤ Rows.uptoBulk d := by
  obtain ⟨a0, n, c, rfl⟩ := okWide_slice undTerms hval
  obtain ⟨fuel, hf⟩ := h
  exact (open_bulk fuel).2 _ _ (by simpa [Value.cells] using hf)
theorem open_termB {H : Type} {enc : TypeId × Value → H} {W : World} {base : Nat} {v : Value} {d : DataW H} {p : List MemPlace} (hval : Value.okWide Tryd.prog W .any base 24 v) (h : DataW.Trod enc Tryd.prog W 0 (fun _ => true) true 24 v d p) :
    ∃ t : Tm, Fit t ∧ RP (okW W) W (TV t) v ∧ wt t ≤ Rows.uptoBulk d := by
  obtain ⟨fuel, hf⟩ := h
  obtain ⟨t, ht, hr, h3, hw⟩ := (open_bulk fuel).1 _ _ hf
  refine ⟨t, ht, ?_, hw⟩
  rw [agg_of (v := v) (by simpa using h3)]
  simpa using hr
end Go.Sl
