/- Layer 8: what is known, in plain theory: it grows no further than what stands within. -/
import Derived.Test.YtakehleacibfiaaDoorHf
set_option linter.unusedVariables false
set_option linter.unusedSimpArgs false
namespace Go.Sl
open Go Go.Vc Go.Proofs Go.RowKit

theorem bl_asymm : ∀ {a b : List UInt8}, Op.bytesLess a b = true → Op.bytesLess b a = false
  | [], [], h => by simp [Op.bytesLess] at h
  | _ :: _, [], h => by simp [Op.bytesLess] at h
  | [], _ :: _, h => by simp [Op.bytesLess]
  | a :: x, b :: y, h => by
    simp only [Op.bytesLess, Bool.or_eq_true, Bool.and_eq_true, decide_eq_true_eq, beq_iff_eq] at h
    simp only [Op.bytesLess, Bool.or_eq_false_iff, Bool.and_eq_false_iff, decide_eq_false_iff_not]
    rcases h with h | ⟨rfl, h⟩
    · exact ⟨UInt8.lt_asymm h, .inl (by simp only [beq_eq_false_iff_ne]; rintro rfl; exact UInt8.lt_irrefl _ h)⟩
    · exact ⟨UInt8.lt_irrefl _, .inr (bl_asymm h)⟩
theorem swapT_swap (k : Int) (n : Bs) : ∀ l : List Tm, swapT k n (swapT k n l).kids = swapT k n l
  | [] => rfl
  | [_] => rfl
  | _ :: _ :: _ :: _ => rfl
  | [x, y] => by
    have e : ∀ x y, swapT k n [x, y] = if k = 9 ∧ lessT y x = true then .mk k n [y, x] else .mk k n [x, y] := fun _ _ => rfl
    by_cases h : k = 9 ∧ lessT y x = true
    · have h2 : lessT x y = false := bl_asymm h.2
      rw [e x y, if_pos h]
      show swapT k n [y, x] = _
      rw [e y x, if_neg (by rw [h2]; simp)]
    · rw [e x y, if_neg h]
      show swapT k n [x, y] = _
      rw [e x y, if_neg h]
theorem nodup_of_map {α β : Type} {f : α → β} : ∀ {l : List α}, (l.map f).Nodup → l.Nodup
  | [], _ => List.nodup_nil
  | a :: l, h => by
    rw [List.map_cons, List.nodup_cons] at h
    rw [List.nodup_cons]
    exact ⟨fun ha => h.1 (List.mem_map.2 ⟨a, ha, rfl⟩), nodup_of_map h.2⟩
theorem kids_swap (k : Int) (n : Bs) (l : List Tm) : ∀ u, u ∈ (swapT k n l).kids ↔ u ∈ l := by
  intro u
  rcases (swapT_kind k n l).2.2 with h | ⟨x, y, h1, h2⟩
  · rw [h]
  · rw [h2, h1]
    simp only [List.mem_cons, List.not_mem_nil, or_false]
    exact or_comm
theorem can_can : ∀ t : Tm, canT (canT t) = canT t := by
  intro t
  induction t using Tm.indk with
  | h t ih =>
  rw [canT_eq (canT t)]
  have e := canT_eq t
  obtain ⟨h1, h2, h3⟩ := swapT_kind t.kind t.name (t.kids.map canT)
  rw [e, h1, h2]
  have hm : (swapT t.kind t.name (t.kids.map canT)).kids.map canT = (swapT t.kind t.name (t.kids.map canT)).kids := by
    have : ∀ l : List Tm, (∀ u ∈ l, canT u = u) → l.map canT = l := by
      intro l
      induction l with
      | nil => intro _; rfl
      | cons u l ih => intro h; rw [List.map_cons, h u (List.mem_cons_self ..), ih fun v hv => h v (List.mem_cons_of_mem _ hv)]
    refine this _ fun u hu => ?_
    rw [kids_swap] at hu
    obtain ⟨v, hv, rfl⟩ := List.mem_map.1 hu
    exact ih v hv
  rw [hm]
  exact swapT_swap _ _ _
/-- The kids of a term in order are in order. -/
theorem can_kid {t u : Tm} (h : canT t = t) (hu : u ∈ t.kids) : canT u = u := by
  rw [← h, canT_eq t, kids_swap] at hu
  obtain ⟨v, hv, rfl⟩ := List.mem_map.1 hu
  exact can_can v
mutual
/-- All that stands in a term. -/
def inT : Tm → List Tm
  | .mk k n l => .mk k n l :: inTs l
def inTs : List Tm → List Tm
  | [] => []
  | t :: ts => inT t ++ inTs ts
end
theorem inTs_mem {l : List Tm} {u v : Tm} (hu : u ∈ l) (hv : v ∈ inT u) : v ∈ inTs l := by
  induction l with
  | nil => cases hu
  | cons t l ih =>
    rw [inTs, List.mem_append]
    cases hu with
    | head => exact .inl hv
    | tail _ hu => exact .inr (ih hu)
theorem inTs_of {l : List Tm} {v : Tm} (h : v ∈ inTs l) : ∃ u ∈ l, v ∈ inT u := by
  induction l with
  | nil => cases h
  | cons t l ih =>
    rw [inTs, List.mem_append] at h
    rcases h with h | h
    · exact ⟨t, List.mem_cons_self .., h⟩
    · obtain ⟨u, hu, hv⟩ := ih h
      exact ⟨u, List.mem_cons_of_mem _ hu, hv⟩
theorem inT_eq (t : Tm) : inT t = t :: inTs t.kids := by cases t; rw [inT]; rfl
theorem inT_self (t : Tm) : t ∈ inT t := by rw [inT_eq]; exact List.mem_cons_self ..
theorem inT_kid : ∀ {t u v : Tm}, u ∈ inT t → v ∈ u.kids → v ∈ inT t := by
  intro t
  induction t using Tm.indk with
  | h t ih =>
  intro u v hu hv
  rw [inT_eq] at hu ⊢
  rcases List.mem_cons.1 hu with rfl | hu
  · exact List.mem_cons_of_mem _ (inTs_mem hv (inT_self v))
  · obtain ⟨w, hw, hu⟩ := inTs_of hu
    exact List.mem_cons_of_mem _ (inTs_mem hw (ih w hw hu hv))
theorem nodup_len {α : Type} [DecidableEq α] : ∀ {l m : List α}, l.Nodup → (∀ x ∈ l, x ∈ m) → l.length ≤ m.length
  | [], m, _, _ => Nat.zero_le _
  | a :: l, m, hn, hs => by
    rw [List.nodup_cons] at hn
    have ha := hs a (List.mem_cons_self ..)
    have := nodup_len (l := l) (m := m.erase a) hn.2 fun x hx => (List.mem_erase_of_ne (by rintro rfl; exact hn.1 hx)).2 (hs x (List.mem_cons_of_mem _ hx))
    rw [List.length_erase_of_mem ha] at this
    have := List.length_pos_of_mem ha
    simp only [List.length_cons]
    omega
/-- What is known, in order. -/
structure WK (U : List Tm) (k : Kn) : Prop where
  s : k.s = k.l.map txtT
  ne : ∀ t ∈ k.l, txtT t ≠ []
  nd : k.s.Nodup
  fit : ∀ t ∈ k.l, Fit t
  wt : ∀ t ∈ k.l, wt t ≤ 1000000000
  can : ∀ t ∈ k.l, canT t = t
  sub : ∀ t ∈ k.l, t ∈ U
  d : DOk k.s k.d
theorem WK.len {U : List Tm} {k : Kn} (h : WK U k) : k.l.length ≤ U.length := by
  refine nodup_len ?_ h.sub
  have := h.nd
  rw [h.s] at this
  exact nodup_of_map this
theorem WK.add {U : List Tm} {k : Kn} (h : WK U k) {t : Tm} (hf : Fit t) (hw : Sl.wt t ≤ 1000000000) (hu : canT t ∈ U) : WK U (addT k t) := by
  unfold addT
  split
  · exact h
  · rename_i hn
    simp only [not_or] at hn
    have hm : ∀ {P : Tm → Prop}, (∀ u ∈ k.l, P u) → P (canT t) → ∀ u ∈ k.l ++ [canT t], P u := fun h1 h2 u hu => by
      rcases List.mem_append.1 hu with hu | hu
      · exact h1 u hu
      · rw [List.mem_singleton.1 hu]; exact h2
    exact
      { s := by simp [h.s]
        ne := hm h.ne hn.1
        nd := by
          refine List.nodup_append.2 ⟨h.nd, by simp, fun a ha b hb => ?_⟩
          rw [List.mem_singleton.1 hb]
          rintro rfl
          exact hn.2 ha
        fit := hm h.fit (can_fit t hf)
        wt := hm h.wt (by rw [can_wt]; exact hw)
        can := hm h.can (can_can t)
        sub := hm h.sub hu
        d := DOk.nil _ }
end Go.Sl
