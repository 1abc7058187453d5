/- OfflinePlain: where nothing is made of anything, a guess has nothing to be held against. -/
import Derived.Test.YtjabfkeppaoegaaDoorPd
import Derived.Test.YtjabfkeppaoegaaDoorOi
import Derived.Test.YtjabfkeppaoegaaDoorQi
set_option linter.unusedVariables false
set_option linter.unusedSimpArgs false
namespace Go.Sl
open Go Go.Vc Go.Proofs Go.RowKit

/-- A datum or an atom. -/
def leafT (t : Tm) : Prop := ∃ (k : Int) (n : Bs), (k = 1 ∨ k = 2) ∧ n ≠ [] ∧ n.length ≤ 1048576 ∧ t = .mk k n []
theorem leaf_gd {t : Tm} (h : leafT t) : gdT t := by
  obtain ⟨k, n, rfl | rfl, hn, _, rfl⟩ := h
  · exact gd_data hn
  · exact gd_atom hn
theorem leaf_kind {t : Tm} (h : leafT t) : (t.kind = 1 ∨ t.kind = 2) ∧ t.depth = 1 := by
  obtain ⟨k, n, hk, hn, _, rfl⟩ := h
  exact ⟨hk, dep_leaf k n⟩
abbrev xD : Tm := dataT [120]
/-- The frame that is sent. -/
abbrev plainL (F H : List Tm) : List Tm := F ++ [pairT [xD, pairT H]]
section
variable {F H : List Tm}
theorem g_xD : gdT xD := gd_data (by simp)
theorem dep_leafs {l : List Tm} (h : ∀ t ∈ l, leafT t) : Tm.depths l ≤ 1 := (depths_le l 1).2 fun u hu => by rw [(leaf_kind (h u hu)).2]; exact Nat.le_refl _
theorem gp_H (hH : ∀ t ∈ H, leafT t) : gdT (pairT H) := gd_pair (fun x hx => leaf_gd (hH x hx)) (by have := dep_leafs hH; omega)
theorem gp_x (hH : ∀ t ∈ H, leafT t) : gdT (pairT [xD, pairT H]) := gd_pair (fun x hx => by
  simp only [List.mem_cons, List.not_mem_nil, or_false] at hx
  rcases hx with rfl | rfl
  · exact g_xD
  · exact gp_H hH) (by have := dep_leafs hH; simp only [Tm.depths, Tm.depth]; omega)
/-- All that there is. -/
def PS (F H : List Tm) (t : Tm) : Prop := t ∈ F ∨ t ∈ H ∨ t = xD ∨ t = pairT H ∨ t = pairT [xD, pairT H]
theorem ps_kind (hF : ∀ t ∈ F, leafT t) (hH : ∀ t ∈ H, leafT t) {t : Tm} (h : PS F H t) : t.kind = 1 ∨ t.kind = 2 ∨ t.kind = 3 := by
  rcases h with h | h | rfl | rfl | rfl
  · exact (leaf_kind (hF t h)).1.imp id .inl
  · exact (leaf_kind (hH t h)).1.imp id .inl
  · exact .inl rfl
  · exact .inr (.inr rfl)
  · exact .inr (.inr rfl)
theorem ps_kid (hF : ∀ t ∈ F, leafT t) (hH : ∀ t ∈ H, leafT t) {t u : Tm} (h : PS F H t) (k : t.kind = 3) (hu : u ∈ t.kids) : PS F H u := by
  rcases h with h | h | rfl | rfl | rfl
  · have := (leaf_kind (hF t h)).1; omega
  · have := (leaf_kind (hH t h)).1; omega
  · exact absurd k (by decide)
  · exact .inr (.inl hu)
  · have hu : u ∈ [xD, pairT H] := hu
    simp only [List.mem_cons, List.not_mem_nil, or_false] at hu
    rcases hu with rfl | rfl
    · exact .inr (.inr (.inl rfl))
    · exact .inr (.inr (.inr (.inl rfl)))
theorem ps_gd (hF : ∀ t ∈ F, leafT t) (hH : ∀ t ∈ H, leafT t) {t : Tm} (h : PS F H t) : gdT t := by
  rcases h with h | h | rfl | rfl | rfl
  · exact leaf_gd (hF t h)
  · exact leaf_gd (hH t h)
  · exact g_xD
  · exact gp_H hH
  · exact gp_x hH
theorem ps_fr (hF : ∀ t ∈ F, leafT t) (hH : ∀ t ∈ H, leafT t) {t : Tm} (h : Fr (plainL F H) t) : PS F H t := by
  rcases fr_app.1 h with h | h
  · exact .inl ((fr_gd fun v hv => leaf_gd (hF v hv)).1 h)
  · have := fr_one h; rw [(gp_x hH).2] at this; exact .inr (.inr (.inr (.inr this)))
theorem plain_not (hF : ∀ t ∈ F, leafT t) (hH : ∀ t ∈ H, leafT t) {n : Bs} (hn : n ≠ []) : ¬ HasT (plainL F H) (frA n) := fun ⟨t, h1, h2⟩ => by
  have g : gdT (frA n) := gd_atom hn
  have key : PS F H t ∨ t = frA n := by
    clear h2
    induction h1 with
    | base hb _ => exact (fr_gone g hb).imp (ps_fr hF hH) id
    | pair _ k hu ih =>
      rcases ih with ih | rfl
      · exact .inl (ps_kid hF hH ih k hu)
      · exact absurd k (kA (by decide))
    | enc _ k _ _ ih =>
      rcases ih with ih | rfl
      · have := ps_kind hF hH ih; omega
      · exact absurd k (kA (by decide))
    | mask _ k _ _ ih =>
      rcases ih with ih | rfl
      · have := ps_kind hF hH ih; omega
      · exact absurd k (kA (by decide))
  have hk := tst_kind h2
  rcases key with h | rfl
  · have := ps_kind hF hH h; omega
  · exact absurd hk (show ¬ (4 : Int) ≤ 2 by decide)
theorem plain_known (hF : ∀ t ∈ F, leafT t) (hH : ∀ t ∈ H, leafT t) {n : Bs} (hn : n ≠ []) : Cl (Fr (plainL F H)) (frA n) ↔ frA n ∈ F ++ H := by
  have g : gdT (frA n) := gd_atom hn
  constructor
  · intro hc
    have hA : Apart (PS F H) := fun t ht _ => ⟨fun k u hu => .base (ps_kid hF hH ht k hu) (ps_gd hF hH (ps_kid hF hH ht k hu)), fun k => by have := ps_kind hF hH ht; omega, fun k => by have := ps_kind hF hH ht; omega⟩
    have hm := (hc.mono fun u hu => ps_fr hF hH hu).mk hA
    rcases (mk_atom.1 hm).2 with h | h | h | h | h
    · exact List.mem_append.2 (.inl h)
    · exact List.mem_append.2 (.inr h)
    · cases h
    · cases h
    · cases h
  · intro h
    rcases List.mem_append.1 h with h | h
    · exact .base (fr_app.2 (.inl (in_fr h g))) g
    · exact .pair (t := pairT H) (.pair (t := pairT [xD, pairT H]) (.base (fr_app.2 (.inr (in_fr (List.mem_singleton.2 rfl) (gp_x hH)))) (gp_x hH)) rfl (by simp [Tm.kids])) rfl h
end
theorem TestIs.not0 {l : List Tm} {c : Tm} {x : Tm × Bool} (h : TestIs l c x) (h1 : ¬ Cl (Fr l) c) (h2 : ¬ HasT l c) : x = (noTm, false) := by
  cases h with
  | known _ k => exact absurd k h1
  | test _ _ a t => exact absurd ⟨_, a, t⟩ h2
  | none => rfl
  | no => rfl
/-- What the loop has. -/
structure PlI (n : Bs) (F H : List Tm) (b : Bool) (i : Nat) : Prop where
  lf : ∀ t ∈ F, leafT t ∧ TmOk t
  lh : ∀ t ∈ H, leafT t ∧ TmOk t
  ln : F.length + H.length ≤ i
  li : i ≤ 7
  sn : b = true ↔ frA n ∈ F ++ H
theorem leaf_sz : ∀ {l : List Tm}, (∀ t ∈ l, leafT t) → Tm.sizes l = l.length ∧ wts l ≤ l.length * 1048600
  | [], _ => ⟨rfl, Nat.le_refl _⟩
  | t :: l, h => by
    obtain ⟨h1, h2⟩ := leaf_sz (l := l) fun u hu => h u (List.mem_cons_of_mem _ hu)
    obtain ⟨k, n, _, _, hl, rfl⟩ := h t (List.mem_cons_self ..)
    simp only [Tm.sizes, Tm.size, wts, wt, List.length_cons, Nat.succ_mul]
    omega
theorem lens_mem {l : List Bs} {x : Bs} (h : x ∈ l) : x.length ≤ lens l := by
  induction l with
  | nil => cases h
  | cons y l ih =>
    simp only [lens]
    cases h with
    | head => omega
    | tail _ h => have := ih h; omega
theorem strs_get {l : List Bs} {i : Nat} (h : i < l.length) : (strsL l)[((i : Nat) : Int).toNat]? = some (.str l[i]) := by
  rw [Int.toNat_natCast, strsL, List.getElem?_map, List.getElem?_eq_getElem h]; rfl
theorem strs_len (l : List Bs) : (strsL l).length = l.length := List.length_map ..
end Go.Sl
