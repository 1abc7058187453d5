/- plain terms: what the Go type api.Term holds, and the functions of layer 7 on them -/
abbrev Bs := List UInt8

inductive Tm where
  | mk (kind : Int) (name : Bs) (kids : List Tm)

namespace Tm
def kind : Tm → Int | mk k _ _ => k
def name : Tm → Bs | mk _ n _ => n
def kids : Tm → List Tm | mk _ _ l => l

mutual
def size : Tm → Nat | mk _ _ l => sizes l + 1
def sizes : List Tm → Nat | [] => 0 | t :: ts => size t + sizes ts
end

mutual
def depth : Tm → Nat | mk _ _ l => depths l + 1
def depths : List Tm → Nat | [] => 0 | t :: ts => max (depth t) (depths ts)
end

mutual
def beq : Tm → Tm → Bool
  | mk k n l, mk k' n' l' => k == k' && (n == n' && beqs l l')
def beqs : List Tm → List Tm → Bool
  | [], [] => true
  | t :: ts, u :: us => beq t u && beqs ts us
  | _, _ => false
end

mutual
theorem beq_iff : ∀ t u, beq t u = true ↔ t = u
  | mk k n l, mk k' n' l' => by
    have := beqs_iff l l'
    simp [beq, this]
theorem beqs_iff : ∀ l l', beqs l l' = true ↔ l = l'
  | [], [] => by simp [beqs]
  | [], _ :: _ => by simp [beqs]
  | _ :: _, [] => by simp [beqs]
  | t :: ts, u :: us => by
    have h1 := beq_iff t u
    have h2 := beqs_iff ts us
    simp [beqs, h1, h2]
end

instance : DecidableEq Tm := fun t u =>
  if h : beq t u = true then .isTrue ((beq_iff t u).1 h) else .isFalse (fun e => h ((beq_iff t u).2 e))

theorem sizes_append (a b : List Tm) : sizes (a ++ b) = sizes a + sizes b := by
  induction a with
  | nil => simp [sizes]
  | cons t ts ih => simp [sizes, ih]; omega

/-- induction over a term: of all kids at once -/
theorem ind {P : Tm → Prop} (h : ∀ k n l, (∀ t ∈ l, P t) → P (mk k n l)) : ∀ t, P t := by
  intro t
  refine Tm.rec (motive_1 := P) (motive_2 := fun l => ∀ t ∈ l, P t) (fun k n l ih => h k n l ih) ?_ ?_ t
  · intro t ht; cases ht
  · intro t ts h1 h2 u hu
    cases hu with
    | head => exact h1
    | tail _ hm => exact h2 u hm
theorem size_mem {t : Tm} {l : List Tm} (h : t ∈ l) : size t ≤ sizes l := by
  induction l with
  | nil => cases h
  | cons a l ih =>
    simp only [sizes]
    cases h with
    | head => omega
    | tail _ hm => have := ih hm; omega
theorem size_pos (t : Tm) : 0 < size t := by cases t; simp [size]
theorem depth_pos (t : Tm) : 0 < depth t := by cases t; simp [depth]
theorem depth_mem {t : Tm} {l : List Tm} (h : t ∈ l) : depth t ≤ depths l := by
  induction l with
  | nil => cases h
  | cons a l ih =>
    simp only [depths]
    cases h with
    | head => omega
    | tail _ hm => have := ih hm; omega
end Tm
