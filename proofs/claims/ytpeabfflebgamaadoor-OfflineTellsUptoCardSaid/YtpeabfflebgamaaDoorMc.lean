/- Layer 8 in plain theory: what stands nowhere; right terms. -/
import Derived.Test.YtpeabfflebgamaaDoorQa
import Derived.Test.YtpeabfflebgamaaDoorNd
set_option linter.unusedVariables false
set_option linter.unusedSimpArgs false
namespace Go.Sl
open Go Go.Vc Go.Proofs Go.RowKit

theorem gd_right {t : Tm} (h : rightT t = true) : gdT t := by
  refine ⟨txt_ne.2 ?_, can_right t h⟩
  obtain ⟨h1, h2, _⟩ := (right_iff t).1 h
  exact ⟨h1, h2⟩
theorem right_gd : ∀ {t : Tm}, gdT t → rightT t = true := by
  intro t
  induction t using Tm.indk with
  | h t ih =>
  intro hg
  obtain ⟨h1, h2⟩ := txt_ne.1 hg.1
  refine (right_iff t).2 ⟨h1, h2, ?_⟩
  rw [ordT_eq, Bool.and_eq_true]
  constructor
  · by_cases k : t.kind = 9
    · obtain ⟨x, y, e⟩ := kids2 hg (.inr (.inr (.inl k)))
      have gx := gd_kid hg (u := x) (by rw [e]; simp)
      have gy := gd_kid hg (u := y) (by rw [e]; simp)
      have hc := hg.2
      rw [canT_eq, e] at hc
      simp only [List.map_cons, List.map_nil, gx.2, gy.2, k] at hc
      have hn : ¬ lessT y x = true := by
        intro hl
        have : swapT 9 t.name [x, y] = .mk 9 t.name [y, x] := if_pos ⟨rfl, hl⟩
        rw [this] at hc
        have h3 := congrArg Tm.kids hc
        rw [e] at h3
        have h3 : [y, x] = [x, y] := h3
        injection h3 with h4 _
        subst h4
        rw [lessT] at hl
        have := bl_asymm hl
        rw [hl] at this; cases this
      rw [e]
      have tx : txtT x = x.text := if_pos ((shpD_iff x 60).2 (txt_ne.1 gx.1))
      have ty : txtT y = y.text := if_pos ((shpD_iff y 60).2 (txt_ne.1 gy.1))
      rw [lessT, tx, ty] at hn
      simp only [List.getD_cons_succ, List.getD_cons_zero, Bool.not_eq_true', Bool.and_eq_false_iff]
      right
      revert hn; cases Op.bytesLess y.text x.text <;> simp
    · simp [k]
  · simp only [Bool.not_eq_true', List.any_eq_false, Bool.not_eq_true, Bool.not_eq_false]
    intro u hu
    have := ih u hu (gd_kid hg hu)
    simpa using ((right_iff u).1 this).2.2
theorem gd_share {x y : Tm} (hx : gdT x) (hy : gdT y) (hd : max x.depth y.depth < 60) : gdT (shareT x y) := gd_right (share_right (right_gd hx) (right_gd hy) hd)
/-- What stands in a term in order stood in it. -/
theorem inT_can : ∀ {t w : Tm}, w ∈ inT (canT t) → ∃ u ∈ inT t, canT u = w := by
  intro t
  induction t using Tm.indk with
  | h t ih =>
  intro w hw
  rw [inT_eq] at hw
  cases hw with
  | head => exact ⟨t, inT_self t, rfl⟩
  | tail _ hw =>
    obtain ⟨u, hu, hw⟩ := inTs_of hw
    rw [canT_eq, kids_swap] at hu
    obtain ⟨v, hv, rfl⟩ := List.mem_map.1 hu
    obtain ⟨x, hx, e⟩ := ih v hv hw
    exact ⟨x, by rw [inT_eq]; exact List.mem_cons_of_mem _ (inTs_mem hv hx), e⟩
theorem can_atom {u : Tm} {k : Int} {s : Bs} (h : canT u = .mk k s []) : u = .mk k s [] := by
  have h1 := (swapT_kind u.kind u.name (u.kids.map canT))
  rw [canT_eq] at h
  rw [h] at h1
  obtain ⟨a, b, c⟩ := h1
  obtain ⟨ku, nu, lu⟩ := u
  simp only [Tm.kind, Tm.name, Tm.kids] at a b c
  subst a b
  congr 1
  rcases c with c | ⟨x, y, c1, c2⟩
  · exact (List.map_eq_nil_iff.1 c.symm)
  · cases c2
theorem in_can {t : Tm} {k : Int} {s : Bs} (h : .mk k s [] ∈ inT (canT t)) : .mk k s [] ∈ inT t := by
  obtain ⟨u, hu, e⟩ := inT_can h
  rw [can_atom e] at hu; exact hu
section
variable {L : List Tm} {s : Bs}
/-- The atom that stands nowhere. -/
abbrev frA (s : Bs) : Tm := .mk 2 s []
theorem kids0 {t : Tm} (h : gdT t) (k : t.kind = 1 ∨ t.kind = 2) : t.kids = [] := by
  have h1 := ((shp_mk t).1 (txt_ne.1 h.1).1).1.2.2
  have h2 : Tm.arity t.kind = 0 := by rcases k with e | e <;> rw [e] <;> rfl
  rw [h2] at h1
  have h3 : t.kids.length = 0 := by omega
  exact List.length_eq_zero_iff.1 h3
theorem free_kids {t : Tm} (hk : t.kind ≠ 2) (h : ∀ u ∈ t.kids, frA s ∉ inT u) : frA s ∉ inT t := by
  rw [inT_eq]
  intro hc
  cases hc with
  | head => exact hk rfl
  | tail _ hc => obtain ⟨u, hu, hc⟩ := inTs_of hc; exact h u hu hc
theorem free_kid {t u : Tm} (h : frA s ∉ inT t) (hu : u ∈ t.kids) : frA s ∉ inT u := fun hc => h (by rw [inT_eq]; exact List.mem_cons_of_mem _ (inTs_mem hu hc))
theorem free_pub {y : Tm} : frA s ∉ inT (pubT y) ↔ frA s ∉ inT y :=
  ⟨fun h => free_kid h (by simp [Tm.kids]), fun h => free_kids (by simp [Tm.kind]) (by simpa [Tm.kids] using h)⟩
theorem cl_free {B : Tm → Prop} (hB : ∀ u, B u → gdT u → frA s ∉ inT u) {t : Tm} (h : Cl B t) : frA s ∉ inT t := by
  induction h with
  | base hb hg => exact hB _ hb hg
  | data hg k => exact free_kids (by rw [k]; decide) (by rw [kids0 hg (.inl k)]; simp)
  | comp _ _ k2 _ _ ih => exact free_kids k2 ih
  | sh1 _ k e _ _ i1 i2 =>
    refine free_kids (by rw [k]; decide) ?_
    rw [e]; simp only [List.mem_cons, List.not_mem_nil, or_false, forall_eq_or_imp, forall_eq]
    exact ⟨i1, free_pub.1 i2⟩
  | sh2 _ k e _ _ i1 i2 =>
    refine free_kids (by rw [k]; decide) ?_
    rw [e]; simp only [List.mem_cons, List.not_mem_nil, or_false, forall_eq_or_imp, forall_eq]
    exact ⟨free_pub.1 i2, i1⟩
  | pair _ _ hu ih => exact free_kid ih hu
  | enc _ _ e _ ih _ => exact free_kid ih (by rw [e]; simp)
  | mask _ _ e _ ih _ => exact free_kid ih (by rw [e]; simp)
def BF (L : List Tm) (F : Tm → Prop) (u : Tm) : Prop := Cl (Fr L) u ∨ F u
theorem fr_free (hL : ∀ v ∈ L, frA s ∉ inT v) {u : Tm} (h : Fr L u) : frA s ∉ inT u := by
  obtain ⟨v, hv, rfl⟩ := h
  exact fun hc => hL v hv (in_can hc)
theorem mk_free {F : Tm → Prop} (hF : ∀ u, F u → frA s ∈ inT u) {t : Tm} (h : Mk (BF L F) t) : frA s ∉ inT t → Cl (Fr L) t := by
  induction h with
  | base hb hg =>
    intro hf
    rcases hb with hb | hb
    · exact hb
    · exact absurd (hF _ hb) hf
  | data hg k => exact fun _ => .data hg k
  | comp hg k1 k2 k9 _ ih => exact fun hf => .comp hg k1 k2 k9 fun u hu => ih u hu (free_kid hf hu)
  | sh1 hg k e _ _ i1 i2 => exact fun hf => .sh1 hg k e (i1 (free_kid hf (by rw [e]; simp))) (i2 (free_pub.2 (free_kid hf (by rw [e]; simp))))
  | sh2 hg k e _ _ i1 i2 => exact fun hf => .sh2 hg k e (i1 (free_kid hf (by rw [e]; simp))) (i2 (free_pub.2 (free_kid hf (by rw [e]; simp))))
theorem apartF (hL : ∀ v ∈ L, frA s ∉ inT v) {F : Tm → Prop} (hF : ∀ u, F u → frA s ∈ inT u)
    (hA : ∀ t, F t → gdT t → (t.kind = 3 → ∀ u ∈ t.kids, Mk (BF L F) u) ∧ (t.kind = 4 → ∀ x y, t.kids = [x, y] → Mk (BF L F) x → Mk (BF L F) y) ∧ (t.kind = 10 → ∀ x y, t.kids = [x, y] → Mk (BF L F) y → Mk (BF L F) x)) : Apart (BF L F) := by
  intro t ht hg
  rcases ht with hc | hf
  · have hfr : frA s ∉ inT t := cl_free (fun u hu _ => fr_free hL hu) hc
    have b : ∀ u, Cl (Fr L) u → Mk (BF L F) u := fun u h => .base (.inl h) h.gd
    refine ⟨fun k u hu => b u (.pair hc k hu), fun k x y e h => b y (.enc hc k e (mk_free hF h (free_kid hfr (by rw [e]; simp)))), fun k x y e h => b x (.mask hc k e (mk_free hF h (free_kid hfr (by rw [e]; simp))))⟩
  · exact hA t hf hg
/-- Who is told of what stands nowhere learns nothing else. -/
theorem fresh_cl (hL : ∀ v ∈ L, frA s ∉ inT v) {F : Tm → Prop} (hF : ∀ u, F u → frA s ∈ inT u)
    (hA : ∀ t, F t → gdT t → (t.kind = 3 → ∀ u ∈ t.kids, Mk (BF L F) u) ∧ (t.kind = 4 → ∀ x y, t.kids = [x, y] → Mk (BF L F) x → Mk (BF L F) y) ∧ (t.kind = 10 → ∀ x y, t.kids = [x, y] → Mk (BF L F) y → Mk (BF L F) x))
    {M : List Tm} (hM : ∀ u, Fr M u → gdT u → Mk (BF L F) u) {t : Tm} (h : Cl (Fr M) t) : Mk (BF L F) t :=
  (h.cut fun u hu hg => (hM u hu hg).cl).mk (apartF hL hF hA)
end
end Go.Sl
