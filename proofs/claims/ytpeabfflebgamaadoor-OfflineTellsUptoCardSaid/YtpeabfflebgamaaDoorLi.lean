/- The law: it does not matter who begins. -/
import Derived.Test.YtpeabfflebgamaaDoorGj
set_option linter.unusedVariables false
set_option linter.unusedSimpArgs false
namespace Go.Sl
open Go Go.Vc Go.Proofs Go.RowKit

theorem less_asymm : ∀ {a b : List UInt8}, Op.bytesLess a b = true → Op.bytesLess b a = false
  | [], [], h => by simp [Op.bytesLess] at h
  | _ :: _, [], h => by simp [Op.bytesLess] at h
  | [], _ :: _, h => by simp [Op.bytesLess]
  | a :: x, b :: y, h => by
    simp only [Op.bytesLess, Bool.or_eq_true, Bool.and_eq_true, decide_eq_true_eq, beq_iff_eq] at h
    simp only [Op.bytesLess, Bool.or_eq_false_iff, Bool.and_eq_false_iff, decide_eq_false_iff_not]
    rcases h with h | ⟨rfl, h⟩
    · exact ⟨UInt8.lt_asymm h, .inl (by simp only [beq_eq_false_iff_ne]; rintro rfl; exact UInt8.lt_irrefl _ h)⟩
    · exact ⟨UInt8.lt_irrefl _, .inr (less_asymm h)⟩
theorem less_total : ∀ {a b : List UInt8}, Op.bytesLess a b = false → Op.bytesLess b a = false → a = b
  | [], [], _, _ => rfl
  | [], _ :: _, h, _ => by simp [Op.bytesLess] at h
  | _ :: _, [], _, h => by simp [Op.bytesLess] at h
  | a :: x, b :: y, h, h' => by
    simp only [Op.bytesLess, Bool.or_eq_false_iff, Bool.and_eq_false_iff, decide_eq_false_iff_not] at h h'
    have e : a = b := by
      have h1 := h.1
      have h2 := h'.1
      rw [UInt8.lt_iff_toNat_lt] at h1 h2
      exact UInt8.toNat_inj.1 (by omega)
    subst e
    have h1 : Op.bytesLess x y = false := h.2.resolve_left (by simp)
    have h2 : Op.bytesLess y x = false := h'.2.resolve_left (by simp)
    rw [less_total h1 h2]
theorem txt_r {t : Tm} (h : rightT t = true) : txtT t = t.text ∧ shpD t 60 = true := by
  have h : (shpD t 60 && ordT t) = true := h
  rw [Bool.and_eq_true] at h
  exact ⟨by rw [txtT, if_pos h.1], h.1⟩
theorem text_inj' {t u : Tm} (ht : rightT t = true) (hu : rightT u = true) (h : t.text = u.text) : t = u :=
  (Tm.text_inj t u [] [] (shp_of_shpD t 60 (txt_r ht).2) (shp_of_shpD u 60 (txt_r hu).2) (by rw [h])).1
theorem right_iff (t : Tm) : rightT t = true ↔ t.shp = true ∧ t.depth ≤ 60 ∧ ordT t = true := by
  rw [rightT, Bool.and_eq_true, shpD_iff, and_assoc]
theorem share_comm {a b : Tm} (ha : rightT a = true) (hb : rightT b = true) : shareT a b = shareT b a := by
  unfold shareT
  unfold lessT
  rw [(txt_r ha).1, (txt_r hb).1]
  cases h1 : Op.bytesLess b.text a.text with
  | true => rw [if_pos rfl, if_neg (by rw [less_asymm h1]; decide)]
  | false =>
    cases h2 : Op.bytesLess a.text b.text with
    | true => rw [if_neg (by decide), if_pos rfl]
    | false => rw [if_neg (by decide), if_neg (by decide), text_inj' ha hb (less_total h2 h1)]
theorem share_depth (a b : Tm) : (shareT a b).depth = max a.depth b.depth + 1 := by
  unfold shareT
  split
  · rw [depth_mk]; simp only [Tm.kids, Tm.depths]; omega
  · rw [depth_mk]; simp only [Tm.kids, Tm.depths]; omega
theorem share_right {a b : Tm} (ha : rightT a = true) (hb : rightT b = true) (hd : max a.depth b.depth < 60) : rightT (shareT a b) = true := by
  have hs := share_depth a b
  obtain ⟨a1, a2, a3⟩ := (right_iff a).1 ha
  obtain ⟨b1, b2, b3⟩ := (right_iff b).1 hb
  rw [right_iff]
  refine ⟨?_, by omega, ?_⟩
  · unfold shareT
    split <;> simp [Tm.shp, Tm.shps, Tm.known, Tm.named, Tm.arity, a1, b1]
  · unfold shareT lessT
    rw [(txt_r ha).1, (txt_r hb).1]
    split
    · rename_i h
      simp [ordT, ordTs, a3, b3, less_asymm h]
    · rename_i h
      simp only [Bool.not_eq_true] at h
      simp [ordT, ordTs, a3, b3, h]
theorem can_right : ∀ t : Tm, rightT t = true → canT t = t := by
  intro t
  induction t using Tm.indk with
  | h t ih =>
  intro hr
  obtain ⟨h1, h2, h3⟩ := (right_iff t).1 hr
  have hk : ∀ u ∈ t.kids, rightT u = true := fun u hu => by
    rw [right_iff]
    refine ⟨(known_of_shp h1).2 u hu, by have := (depths_le t.kids (Tm.depths t.kids)).1 (Nat.le_refl _) u hu; rw [depth_mk t] at h2; omega, ?_⟩
    rw [ordT_eq, Bool.and_eq_true] at h3
    cases e : ordT u with
    | true => rfl
    | false =>
      have : t.kids.any (fun u => !ordT u) = true := List.any_eq_true.2 ⟨u, hu, by rw [e]; rfl⟩
      rw [this] at h3
      cases h3.2
  have hm : t.kids.map canT = t.kids := by
    have : ∀ l : List Tm, (∀ u ∈ l, canT u = u) → l.map canT = l := by
      intro l
      induction l with
      | nil => intro _; rfl
      | cons u l ih => intro h; rw [List.map_cons, h u (List.mem_cons_self ..), ih fun v hv => h v (List.mem_cons_of_mem _ hv)]
    exact this _ fun u hu => ih u hu (hk u hu)
  rw [canT_eq, hm]
  have ht : t = .mk t.kind t.name t.kids := by cases t; rfl
  unfold swapT
  split
  · rename_i x y e
    rw [if_neg, ← e]
    · exact ht.symm
    · rintro ⟨h9, hl⟩
      have hx := hk x (by rw [e]; simp)
      have hy := hk y (by rw [e]; simp)
      rw [lessT, (txt_r hx).1, (txt_r hy).1] at hl
      rw [ordT_eq, Bool.and_eq_true, e] at h3
      simp [h9, hl] at h3
  · exact ht.symm
theorem share_fit {a b : Tm} (ha : Fit a) (hb : Fit b) : Fit (shareT a b) := by
  unfold shareT
  split
  · exact Fit.mk (by simp) (by decide) (by simp [ha, hb])
  · exact Fit.mk (by simp) (by decide) (by simp [ha, hb])
theorem share_wt (a b : Tm) : wt (shareT a b) = wt a + wt b + 1 := by
  unfold shareT
  split
  · simp only [wt, wts]; simp; omega
  · simp only [wt, wts]; simp
end Go.Sl
