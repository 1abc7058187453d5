/- Contracts: few. -/
import Derived.Test.YtpeabfflebgamaaDoorGf
import Derived.Test.YtpeabfflebgamaaDoorFd
set_option linter.unusedVariables false
set_option linter.unusedSimpArgs false
namespace Go.Sl
open Go Go.Vc Go.Proofs Go.RowKit

theorem sizes_take_le' (l : List Tm) (i : Nat) : Tm.sizes (l.take i) ≤ Tm.sizes l := sizes_take_le l i
/-! ### The length of a text -/
mutual
/-- names and terms, together -/
def wt : Tm → Nat
  | .mk k n l => n.length + wts l + 1
def wts : List Tm → Nat
  | [] => 0
  | t :: ts => wt t + wts ts
end
theorem wt_eq (t : Tm) : wt t = t.name.length + wts t.kids + 1 := by cases t; rfl
theorem wts_mem {l : List Tm} {u : Tm} (h : u ∈ l) : wt u ≤ wts l := by
  induction l with
  | nil => cases h
  | cons t ts ih =>
    rw [wts]
    rcases List.mem_cons.1 h with rfl | h
    · omega
    · have := ih h; omega
theorem size_wt : ∀ t : Tm, t.size ≤ wt t := by
  intro t
  induction t using Tm.indk with
  | h t ih =>
  have key : ∀ l : List Tm, (∀ u ∈ l, u.size ≤ wt u) → Tm.sizes l ≤ wts l := by
    intro l
    induction l with
    | nil => intro _; simp [Tm.sizes]
    | cons u l ihl =>
      intro h
      have h1 := h u (List.mem_cons_self ..)
      have h2 := ihl fun v hv => h v (List.mem_cons_of_mem _ hv)
      rw [Tm.sizes, wts]
      omega
  have := key t.kids ih
  rw [Tm.size_eq, wt_eq]
  omega
theorem nameText_wt {n : Bs} (h : n.length ≤ 9223372036854775808) : (Tm.nameText n).length ≤ n.length + 20 := by
  unfold Tm.nameText
  split
  · simp
  · have := decDigits_len n.length h
    simp
    omega
theorem text_wt : ∀ t : Tm, Fit t → t.text.length + 1 ≤ 26 * wt t := by
  intro t
  induction t using Tm.indk with
  | h t ih =>
  intro hf
  have key' : ∀ l : List Tm, (∀ u ∈ l, u.text.length + 1 ≤ 26 * wt u) → (Tm.texts' l).length ≤ 26 * wts l := by
    intro l
    induction l with
    | nil => intro _; simp [Tm.texts']
    | cons u l ihl =>
      intro h
      have h1 := h u (List.mem_cons_self ..)
      have h2 := ihl fun v hv => h v (List.mem_cons_of_mem _ hv)
      rw [Tm.texts', wts]
      simp only [List.length_cons, List.length_append]
      omega
  have key : (Tm.texts t.kids).length ≤ 26 * wts t.kids := by
    have hk : ∀ u ∈ t.kids, u.text.length + 1 ≤ 26 * wt u := fun u hu => ih u hu (hf.kid hu)
    revert hk
    generalize t.kids = l
    intro hk
    cases l with
    | nil => simp [Tm.texts]
    | cons u l =>
      have h1 := hk u (List.mem_cons_self ..)
      have h2 := key' l fun v hv => hk v (List.mem_cons_of_mem _ hv)
      rw [Tm.texts, wts]
      simp only [List.length_append]
      omega
  have hn := nameText_wt (n := t.name) (by have := hf.nlen; omega)
  rw [text_mk, wt_eq]
  simp only [List.length_cons, List.length_append]
  split
  · simp
    omega
  · simp
    omega
end Go.Sl
