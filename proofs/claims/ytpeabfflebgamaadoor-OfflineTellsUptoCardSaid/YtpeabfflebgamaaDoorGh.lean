/- Rightness and depth; bounds that the bulk gives. -/
import Derived.Test.YtpeabfflebgamaaDoorGg
set_option linter.unusedVariables false
set_option linter.unusedSimpArgs false
namespace Go.Sl
open Go Go.Vc Go.Proofs Go.RowKit

theorem depths_le (l : List Tm) (d : Nat) : Tm.depths l ≤ d ↔ ∀ u ∈ l, u.depth ≤ d := by
  induction l with
  | nil => simp [Tm.depths]
  | cons t ts ih =>
    simp only [Tm.depths, List.mem_cons, forall_eq_or_imp, ← ih]
    omega
theorem shpDs_all (l : List Tm) (d : Nat) : shpDs l d = true ↔ ∀ u ∈ l, shpD u d = true := by
  induction l with
  | nil => simp [shpDs]
  | cons t ts ih => simp [shpDs, ih]
/-- Of the right shape, not deeper than so. -/
theorem shpD_iff : ∀ (t : Tm) (d : Nat), shpD t d = true ↔ t.shp = true ∧ t.depth ≤ d := by
  intro t
  induction t using Tm.indk with
  | h t ih =>
  intro d
  cases d with
  | zero =>
    rw [shpD_zero, depth_mk]
    simp
  | succ d =>
    rw [shpD_eq, Bool.and_eq_true, shpDs_all, depth_mk]
    have hs : t.shp = true ↔ (Tm.known t.kind && (Tm.named t.kind == !t.name.isEmpty) && (decide (Tm.arity t.kind < 0) || decide ((t.kids.length : Int) = Tm.arity t.kind))) = true ∧ ∀ u ∈ t.kids, u.shp = true := by
      obtain ⟨k, n, l⟩ := t
      rw [Tm.shp, Bool.and_eq_true, Tm.shps_iff]
      rfl
    rw [hs]
    have hd : Tm.depths t.kids + 1 ≤ d + 1 ↔ ∀ u ∈ t.kids, u.depth ≤ d := by rw [← depths_le]; omega
    rw [hd]
    constructor
    · rintro ⟨h1, h2⟩
      exact ⟨⟨h1, fun u hu => ((ih u hu d).1 (h2 u hu)).1⟩, fun u hu => ((ih u hu d).1 (h2 u hu)).2⟩
    · rintro ⟨⟨h1, h2⟩, h3⟩
      exact ⟨h1, fun u hu => (ih u hu d).2 ⟨h2 u hu, h3 u hu⟩⟩
theorem text_bd {t : Tm} (hf : Fit t) (hw : wt t ≤ 1048600) : t.text.length ≤ 1099511627776 := by
  have := text_wt t hf
  omega
theorem right_wt (t : Tm) (hf : Fit t) (hw : wt t ≤ 1048600) : K true 43 [tv t] (.pv (.bool (rightT t))) := right_ok t hf fun _ => text_bd hf hw
theorem Text_wt (t : Tm) (hf : Fit t) (hw : wt t ≤ 1048600) : K true 45 [tv t] (.pv (.str (txtT t))) := Text_ok t hf fun _ => text_bd hf hw
/-- A pair is right. -/
theorem right_pair (l : List Tm) : rightT (pairT l) = (l.all rightT && decide (Tm.depths l < 60)) := by
  rw [Bool.eq_iff_iff, rightT, Bool.and_eq_true, Bool.and_eq_true, shpD_iff, ordT_eq, depth_mk, List.all_eq_true, decide_eq_true_eq]
  have hs : (pairT l).shp = true ↔ ∀ u ∈ l, u.shp = true := by
    rw [pairT, Tm.shp, Bool.and_eq_true, Tm.shps_iff]
    simp [Tm.known, Tm.named, Tm.arity]
  have ho : (!(decide ((pairT l).kind = 9) && Op.bytesLess ((pairT l).kids.getD 1 (.mk 0 [] [])).text ((pairT l).kids.getD 0 (.mk 0 [] [])).text) && !((pairT l).kids.any fun u => !ordT u)) = true ↔ ∀ u ∈ l, ordT u = true := by
    simp [pairT, Tm.kind, Tm.kids]
  rw [hs, ho]
  have hd := depths_le l 59
  show (_ ∧ Tm.depths l + 1 ≤ 60) ∧ _ ↔ _
  constructor
  · rintro ⟨⟨h1, h2⟩, h3⟩
    refine ⟨fun u hu => ?_, by omega⟩
    rw [rightT, Bool.and_eq_true, shpD_iff]
    exact ⟨⟨h1 u hu, by have := hd.1 (by omega) u hu; omega⟩, h3 u hu⟩
  · rintro ⟨h1, h2⟩
    have h4 : ∀ u ∈ l, (u.shp = true ∧ u.depth ≤ 60) ∧ ordT u = true := fun u hu => by
      have := h1 u hu
      rwa [rightT, Bool.and_eq_true, shpD_iff] at this
    exact ⟨⟨fun u hu => (h4 u hu).1.1, by omega⟩, fun u hu => (h4 u hu).2⟩
end Go.Sl
