/- Contracts of layer 8's laws: how many, and few. -/
import Derived.Test.YtjabfkeppaoegaaDoorJc
import Derived.Test.YtjabfkeppaoegaaDoorGg
set_option linter.unusedVariables false
set_option linter.unusedSimpArgs false
namespace Go.Sl
open Go Go.Vc Go.Proofs Go.RowKit

/-- So many terms, none of more than so many terms. -/
def fewN8 : Nat → List Tm → List Tm
  | 0, _ => []
  | _, [] => []
  | n + 1, t :: l => if t.size ≤ 20 then t :: fewN8 n l else fewN8 (n + 1) l
def few8 (l : List Tm) : List Tm := fewN8 8 l
structure FewI8 (l : List Tm) (i : Nat) (o : List Tm) : Prop where
  hi : i ≤ l.length
  hn : o.length ≤ 8
  he : o ++ fewN8 (8 - o.length) (l.drop i) = few8 l
theorem fewN_zero8 : ∀ l : List Tm, fewN8 0 l = []
  | [] => rfl
  | _ :: _ => rfl
theorem fewN_nil8 : ∀ n : Nat, fewN8 n [] = []
  | 0 => rfl
  | _ + 1 => rfl
theorem fewN_mem8 : ∀ (n : Nat) (l : List Tm) (t : Tm), t ∈ fewN8 n l → t ∈ l ∧ t.size ≤ 20
  | 0, l, t, h => by rw [fewN_zero8] at h; cases h
  | n + 1, [], t, h => by cases h
  | n + 1, u :: l, t, h => by
    rw [fewN8] at h
    split at h
    · cases h with
      | head => exact ⟨List.mem_cons_self .., by assumption⟩
      | tail _ h => have := fewN_mem8 n l t h; exact ⟨List.mem_cons_of_mem _ this.1, this.2⟩
    · have := fewN_mem8 (n + 1) l t h; exact ⟨List.mem_cons_of_mem _ this.1, this.2⟩
theorem fewN_len8 : ∀ (n : Nat) (l : List Tm), (fewN8 n l).length ≤ n
  | 0, l => by rw [fewN_zero8]; exact Nat.le_refl _
  | n + 1, [] => Nat.zero_le _
  | n + 1, u :: l => by
    rw [fewN8]
    split
    · have := fewN_len8 n l; simp; exact this
    · exact fewN_len8 (n + 1) l
theorem few_mem8 {l : List Tm} {t : Tm} (h : t ∈ few8 l) : t ∈ l ∧ t.size ≤ 20 := fewN_mem8 _ l t h
theorem few_len8 (l : List Tm) : (few8 l).length ≤ 8 := fewN_len8 _ l
theorem fewN_wt8 : ∀ (n : Nat) (l : List Tm), wts (fewN8 n l) ≤ wts l
  | 0, l => by rw [fewN_zero8]; exact Nat.zero_le _
  | n + 1, [] => Nat.le_refl _
  | n + 1, u :: l => by
    rw [fewN8]
    split
    · have := fewN_wt8 n l; simp only [wts]; omega
    · have := fewN_wt8 (n + 1) l; simp only [wts]; omega
theorem few_wt8 (l : List Tm) : wts (few8 l) ≤ wts l := fewN_wt8 _ l
theorem sizes_le8 {l : List Tm} (h : ∀ t ∈ l, t.size ≤ 20) : Tm.sizes l ≤ l.length * 20 := by
  induction l with
  | nil => simp [Tm.sizes]
  | cons t l ih => have := h t (List.mem_cons_self ..); have := ih fun u hu => h u (List.mem_cons_of_mem _ hu); simp only [Tm.sizes, List.length_cons, Nat.succ_mul]; omega
theorem few_sizes8 (l : List Tm) : Tm.sizes (few8 l) ≤ 8 * 20 := by
  have h1 := sizes_le8 (l := few8 l) fun t ht => (few_mem8 ht).2
  have h2 := few_len8 l
  have h3 : (few8 l).length * 20 ≤ 8 * 20 := Nat.mul_le_mul_right _ h2
  omega
end Go.Sl
