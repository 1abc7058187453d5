/- Contracts of layer 8: Knows of a frame. -/
import Derived.Test.YtakehleacibfiaaDoorHj
set_option linter.unusedVariables false
set_option linter.unusedSimpArgs false
namespace Go.Sl
open Go Go.Vc Go.Proofs Go.RowKit

theorem WK.nil (U : List Tm) : WK U ⟨[], [], []⟩ :=
  { s := rfl, ne := fun t h => (by cases h), nd := List.nodup_nil, fit := fun t h => (by cases h), wt := fun t h => (by cases h), can := fun t h => (by cases h), sub := fun t h => (by cases h), d := DOk.nil _ }
/-- All that stands in a frame, its shares in order. -/
def univ (l : List Tm) : List Tm := inTs (l.map canT)
theorem univ_kid (l : List Tm) : ∀ t ∈ univ l, ∀ u ∈ t.kids, u ∈ univ l := fun t ht u hu => by
  obtain ⟨w, hw, ht⟩ := inTs_of ht
  exact inTs_mem hw (inT_kid ht hu)
theorem of_wk {l : List Tm} (hf : ∀ t ∈ l, Fit t) (hw : ∀ t ∈ l, wt t ≤ 1000000000) : WK (univ l) (ofT l) :=
  WK.adds l (WK.nil _) hf hw fun t ht => inTs_mem (List.mem_map.2 ⟨t, ht, rfl⟩) (inT_self _)
theorem inT_len : ∀ t : Tm, (inT t).length = t.size := by
  intro t
  induction t using Tm.indk with
  | h t ih =>
  have key : ∀ l : List Tm, (∀ u ∈ l, (inT u).length = u.size) → (inTs l).length = Tm.sizes l := by
    intro l
    induction l with
    | nil => intro _; rfl
    | cons u l ihl =>
      intro h
      rw [inTs, List.length_append, h u (List.mem_cons_self ..), ihl fun v hv => h v (List.mem_cons_of_mem _ hv), Tm.sizes]
  rw [inT_eq, List.length_cons, key t.kids ih, Tm.size_eq]
theorem inTs_len (l : List Tm) : (inTs l).length = Tm.sizes l := by
  induction l with
  | nil => rfl
  | cons u l ih => rw [inTs, List.length_append, inT_len, ih, Tm.sizes]
theorem can_size : ∀ t : Tm, (canT t).size = t.size := by
  intro t
  induction t using Tm.indk with
  | h t ih =>
  have hm : ∀ l : List Tm, (∀ u ∈ l, (canT u).size = u.size) → Tm.sizes (l.map canT) = Tm.sizes l := by
    intro l
    induction l with
    | nil => intro _; rfl
    | cons u l ihl => intro h; simp only [List.map_cons, Tm.sizes]; rw [h u (List.mem_cons_self ..), ihl fun v hv => h v (List.mem_cons_of_mem _ hv)]
  have e := hm t.kids ih
  rw [canT_eq, Tm.size_eq t, Tm.size_eq, ← e]
  rcases (swapT_kind t.kind t.name (t.kids.map canT)).2.2 with h | ⟨x, y, h1, h2⟩
  · rw [h]
  · rw [h2, h1]
    simp only [Tm.sizes]
    omega
theorem univ_len (l : List Tm) : (univ l).length = Tm.sizes l := by
  rw [univ, inTs_len]
  induction l with
  | nil => rfl
  | cons u l ih => simp only [List.map_cons, Tm.sizes, can_size, ih]
/-- What is known of a frame in the end. -/
def EndK (l : List Tm) (e : Kn) : Prop := WK (univ l) e ∧ ∃ m, e = itK (ofT l) (m + 1) ∧ (itK (ofT l) (m + 1)).l.length ≤ (itK (ofT l) m).l.length
/-- deduce.Knows. -/
theorem knows_ok (l : List Tm) (hf : ∀ t ∈ l, Fit t) (hw : ∀ t ∈ l, wt t ≤ 1000000000) (hs : Tm.sizes l ≤ 2000) (hl : l.length ≤ 2000) :
    ∃ e, EndK l e ∧ ∀ t, Fit t → wt t ≤ 1000000000 → K true 19 [lv l, tv t] (.pv (.bool (mkB e.s (canT t)))) := by
  have h0 := of_wk hf hw
  obtain ⟨e, h1, h2, h3⟩ := end_ex (univ_kid l) h0
  refine ⟨e, ⟨h1, h2⟩, fun t ft wt => ?_⟩
  exact Knows_ok e.l e.s e.d h1.d l t ft wt (analyzed_ok (univ l) (univ_kid l) l hf hw (by omega) h0 (by rw [univ_len]; exact hs) e h3)
end Go.Sl
