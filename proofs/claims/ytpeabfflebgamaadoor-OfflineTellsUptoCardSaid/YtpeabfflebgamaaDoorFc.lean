/- Contracts: what the library does. -/
import Derived.Test.YtpeabfflebgamaaDoorFb
import Derived.Test.YtpeabfflebgamaaDoorSh
set_option linter.unusedVariables false
namespace Go.Sl
open Go Go.Vc Go.Proofs Go.RowKit Go.Sort Go.Lib

theorem below_grow' (w : World) (k : Nat) (os : Array Obj) : Below w.heap.size w (grow (w.drewN k) os) := by
  refine ⟨rfl, rfl, rfl, ?_, fun b hb => ?_⟩
  · show w.heap.size ≤ (w.heap ++ os).size
    rw [Array.size_append]
    exact Nat.le_add_right _ _
  · show (w.heap ++ os)[b]? = w.heap[b]?
    rw [Array.getElem?_append_left hb]
/-- strconv.Itoa. -/
theorem itoa_ok (b : Bool) (n : Int) (h0 : -9223372036854775808 ≤ n) (h1 : n ≤ 9223372036854775807) : K b 79 [iv n] (.pv (.str (Lib.itoa n))) := by
  refine ⟨⟨_, Tryd.func79, rfl, rfl⟩, fun ok β w vs hG hlt hr _ _ _ _ => ?_⟩
  match vs, hr with
  | [v], hr =>
    obtain ⟨hr, _⟩ := hr
    rw [R, RP] at hr
    subst hr
    refine (Tryd.strconv_Itoa n h0 h1 w hG.1.1).mono ?_
    rintro e w' ⟨rfl, k, os, rfl⟩
    exact ⟨_, rfl, by rw [RES, RP], below_grow' w k os⟩
theorem alloc_at (w : World) (o : Obj) : (w.alloc o).heap[w.heap.size]? = some o := by
  show (w.heap.push o)[w.heap.size]? = some o
  simp
end Go.Sl
