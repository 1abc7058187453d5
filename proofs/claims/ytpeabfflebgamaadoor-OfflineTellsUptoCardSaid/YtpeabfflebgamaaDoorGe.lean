/- Contracts: Sub. -/
import Derived.Test.YtpeabfflebgamaaDoorGd
set_option linter.unusedVariables false
set_option linter.unusedSimpArgs false
namespace Go.Sl
open Go Go.Vc Go.Proofs Go.RowKit

theorem hbd48' {a b : Nat} (h : a + b ≤ 2932031007402) : (a + b) * tiTerm.bytes ≤ 140737488355328 := by
  show (a + b) * 48 ≤ 140737488355328
  omega
def insT (acc : List Tm) (x : Tm) : List Tm := if acc.any (fun y => decide (x = y)) then acc else acc ++ [x]
mutual
/-- All terms within one. -/
def subT : Tm → List Tm
  | .mk k n l => subTs [.mk k n l] l
def subTs (acc : List Tm) : List Tm → List Tm
  | [] => acc
  | t :: ts => subTs ((subT t).foldl insT acc) ts
end
theorem subT_eq (t : Tm) : subT t = subTs [t] t.kids := by cases t; rw [subT]; rfl
theorem subTs_take {l : List Tm} {i : Nat} (h : i < l.length) (acc : List Tm) : subTs acc (l.take (i + 1)) = (subT l[i]).foldl insT (subTs acc (l.take i)) := by
  induction l generalizing i acc with
  | nil => simp at h
  | cons t ts ih =>
    cases i with
    | zero => simp [subTs]
    | succ i =>
      simp only [List.take_succ_cons, subTs, List.getElem_cons_succ]
      exact ih (by simpa using h) _
theorem insT_len (acc : List Tm) (x : Tm) : (insT acc x).length ≤ acc.length + 1 := by unfold insT; split <;> simp
theorem foldl_len (m acc : List Tm) : (m.foldl insT acc).length ≤ acc.length + m.length := by
  induction m generalizing acc with
  | nil => simp
  | cons x m ih =>
    have := ih (insT acc x)
    have := insT_len acc x
    simp only [List.foldl_cons, List.length_cons]
    omega
theorem sub_len : ∀ t : Tm, (subT t).length ≤ t.size := by
  intro t
  induction t using Tm.indk with
  | h t ih =>
  have key : ∀ (l acc : List Tm), (∀ u ∈ l, (subT u).length ≤ u.size) → (subTs acc l).length ≤ acc.length + Tm.sizes l := by
    intro l
    induction l with
    | nil => intro acc _; simp [subTs, Tm.sizes]
    | cons u l ihl =>
      intro acc h
      have h1 := h u (List.mem_cons_self ..)
      have h2 := foldl_len (subT u) acc
      have h3 := ihl ((subT u).foldl insT acc) fun v hv => h v (List.mem_cons_of_mem _ hv)
      simp only [subTs, Tm.sizes]
      omega
  have := key t.kids [t] ih
  rw [subT_eq, Tm.size_eq]
  simp at this
  omega
theorem subTs_len (l acc : List Tm) : (subTs acc l).length ≤ acc.length + Tm.sizes l := by
  induction l generalizing acc with
  | nil => simp [subTs, Tm.sizes]
  | cons u l ihl =>
    have h1 := sub_len u
    have h2 := foldl_len (subT u) acc
    have h3 := ihl ((subT u).foldl insT acc)
    simp only [subTs, Tm.sizes]
    omega
theorem sizes_take_le (l : List Tm) (i : Nat) : Tm.sizes (l.take i) ≤ Tm.sizes l := by
  induction l generalizing i with
  | nil => simp
  | cons t ts ih =>
    cases i with
    | zero => simp [Tm.sizes]
    | succ i => simp only [List.take_succ_cons, Tm.sizes]; have := ih i; omega
theorem mem_insT {acc : List Tm} {x y : Tm} (h : y ∈ insT acc x) : y ∈ acc ∨ y = x := by
  unfold insT at h
  split at h
  · exact .inl h
  · simpa using h
theorem mem_foldl {m acc : List Tm} {y : Tm} (h : y ∈ m.foldl insT acc) : y ∈ acc ∨ y ∈ m := by
  induction m generalizing acc with
  | nil => exact .inl h
  | cons x m ih =>
    rcases ih h with h | h
    · rcases mem_insT h with h | h
      · exact .inl h
      · exact .inr (by rw [h]; exact List.mem_cons_self ..)
    · exact .inr (List.mem_cons_of_mem _ h)
theorem Fit.sub : ∀ t, Fit t → ∀ x ∈ subT t, Fit x := by
  intro t
  induction t using Tm.indk with
  | h t ih =>
  intro hf
  have key : ∀ (l acc : List Tm), (∀ u ∈ l, ∀ x ∈ subT u, Fit x) → (∀ x ∈ acc, Fit x) → ∀ x ∈ subTs acc l, Fit x := by
    intro l
    induction l with
    | nil => intro acc _ h x hx; rw [subTs] at hx; exact h x hx
    | cons u l ihl =>
      intro acc h hacc x hx
      rw [subTs] at hx
      refine ihl _ (fun v hv => h v (List.mem_cons_of_mem _ hv)) (fun y hy => ?_) x hx
      rcases mem_foldl hy with hy | hy
      · exact hacc y hy
      · exact h u (List.mem_cons_self ..) y hy
  rw [subT_eq]
  exact key t.kids [t] (fun u hu => ih u hu (hf.kid hu)) (fun x hx => by rw [List.mem_singleton.1 hx]; exact hf)
theorem foldl_take {m : List Tm} {j : Nat} (h : j < m.length) (acc : List Tm) : (m.take (j + 1)).foldl insT acc = insT ((m.take j).foldl insT acc) m[j] := by
  rw [List.take_succ_eq_append_getElem h, List.foldl_append]
  rfl
end Go.Sl
