/- Contracts of layer 8: what is made. -/
import Derived.Test.YtakehleacibfiaaDoorHb
set_option linter.unusedVariables false
set_option linter.unusedSimpArgs false
namespace Go.Sl
open Go Go.Vc Go.Proofs Go.RowKit

abbrev pubT (t : Tm) : Tm := .mk 8 [] [t]
def mkF : Nat → List Bs → Tm → Bool
  | 0, _, _ => false
  | n + 1, S, t => if txtT t = [] then false else if txtT t ∈ S then true else if t.kind = 1 then true else if t.kind = 2 then false else if t.kind = 9 then
      (match t.kids with | [x, y] => (mkF n S x && mkF n S (pubT y)) || (mkF n S y && mkF n S (pubT x)) | _ => false) else t.kids.all (mkF n S)
/-- Is a term made of others, that are told by their texts? -/
def mkB (S : List Bs) (t : Tm) : Bool := mkF t.size S t
theorem size_mem {t u : Tm} (h : u ∈ t.kids) : u.size < t.size := by
  rw [Tm.size_eq t]
  have : ∀ l : List Tm, u ∈ l → u.size ≤ Tm.sizes l := by
    intro l
    induction l with
    | nil => intro h; cases h
    | cons v l ih =>
      intro h
      simp only [Tm.sizes]
      cases h with
      | head => omega
      | tail _ h => have := ih h; omega
  have := this _ h
  omega
theorem size_pub {t x y : Tm} (h : t.kids = [x, y]) : (pubT x).size < t.size ∧ (pubT y).size < t.size := by
  rw [Tm.size_eq t, h]
  simp only [Tm.size, Tm.sizes]
  have hx : 0 < x.size := by cases x; simp [Tm.size]
  have hy : 0 < y.size := by cases y; simp [Tm.size]
  omega
theorem mkF_fuel (S : List Bs) : ∀ (n m : Nat) (t : Tm), t.size ≤ n → t.size ≤ m → mkF n S t = mkF m S t
  | 0, _, t, h, _ => by have : 0 < t.size := by cases t; simp [Tm.size]; 
                        omega
  | _, 0, t, _, h => by have : 0 < t.size := by cases t; simp [Tm.size]; 
                        omega
  | n + 1, m + 1, t, h1, h2 => by
    have hk : ∀ u, u.size < t.size → mkF n S u = mkF m S u := fun u hu => mkF_fuel S n m u (by omega) (by omega)
    simp only [mkF]
    congr 4
    · congr 1
      split
      · rename_i x y e
        have hp := size_pub e
        rw [hk x (size_mem (by rw [e]; simp)), hk y (size_mem (by rw [e]; simp)), hk _ hp.1, hk _ hp.2]
      · rfl
      · rw [Bool.eq_iff_iff, List.all_eq_true, List.all_eq_true]
        exact ⟨fun h u hu => by rw [← hk u (size_mem hu)]; exact h u hu, fun h u hu => by rw [hk u (size_mem hu)]; exact h u hu⟩
theorem mkB_eq (S : List Bs) (t : Tm) : mkB S t = if txtT t = [] then false else if txtT t ∈ S then true else if t.kind = 1 then true else if t.kind = 2 then false else if t.kind = 9 then
      (match t.kids with | [x, y] => (mkB S x && mkB S (pubT y)) || (mkB S y && mkB S (pubT x)) | _ => false) else t.kids.all (mkB S) := by
  obtain ⟨n, hn⟩ : ∃ n, t.size = n + 1 := ⟨t.size - 1, by have : 0 < t.size := by cases t; simp [Tm.size]
                                                          omega⟩
  have hk : ∀ u, u.size < t.size → mkF n S u = mkB S u := fun u hu => mkF_fuel S _ _ u (by omega) (Nat.le_refl _)
  rw [mkB, hn]
  simp only [mkF]
  congr 4
  congr 1
  · split
    · rename_i x y e
      have hp := size_pub e
      rw [hk x (size_mem (by rw [e]; simp)), hk y (size_mem (by rw [e]; simp)), hk _ hp.1, hk _ hp.2]
    · rfl
  · rw [Bool.eq_iff_iff, List.all_eq_true, List.all_eq_true]
    exact ⟨fun h u hu => by rw [← hk u (size_mem hu)]; exact h u hu, fun h u hu => by rw [hk u (size_mem hu)]; exact h u hu⟩
def putD (s : Bs) (b : Bool) : List (Bs × Bool) → List (Bs × Bool)
  | [] => [(s, b)]
  | (k, c) :: r => if s = k then (s, b) :: r else (k, c) :: putD s b r
theorem mdM_putD (s : Bs) (b : Bool) (D : List (Bs × Bool)) : mput (.s s) (.bool b) (mdM D) = mdM (putD s b D) := by
  induction D with
  | nil => rfl
  | cons x D ih =>
    obtain ⟨k, c⟩ := x
    show (if MK.s s = MK.s k then (MK.s s, PV.bool b) :: mdM D else (MK.s k, PV.bool c) :: mput (.s s) (.bool b) (mdM D)) = _
    by_cases e : s = k
    · subst e; rw [if_pos rfl, putD, if_pos rfl]; rfl
    · rw [if_neg (fun h => e (by injection h)), ih, putD, if_neg e]; rfl
theorem lookup_putD (s s' : Bs) (b : Bool) (D : List (Bs × Bool)) : (putD s b D).lookup s' = if s' = s then some b else D.lookup s' := by
  induction D with
  | nil =>
    by_cases e : s' = s
    · subst e; simp [putD, List.lookup]
    · have hb : (s' == s) = false := beq_eq_false_iff_ne.2 e
      simp [putD, List.lookup, hb, e]
  | cons x D ih =>
    obtain ⟨k, c⟩ := x
    by_cases e : s = k
    · subst e
      by_cases e2 : s' = s
      · subst e2; simp [putD, List.lookup]
      · have hb : (s' == s) = false := beq_eq_false_iff_ne.2 e2
        simp [putD, List.lookup, hb, e2]
    · rw [putD, if_neg e]
      by_cases e2 : s' = k
      · subst e2
        have : ¬ s' = s := fun h => e h.symm
        simp [List.lookup, this]
      · have hb : (s' == k) = false := beq_eq_false_iff_ne.2 e2
        simp only [List.lookup, hb, ih]
/-- What was found out is so. -/
def DOk (S : List Bs) (D : List (Bs × Bool)) : Prop := ∀ u b, txtT u ≠ [] → D.lookup (txtT u) = some b → b = mkB S u
theorem txtT_inj {t u : Tm} (h0 : txtT t ≠ []) (h : txtT t = txtT u) : t = u := by
  have h1 : shpD t 60 = true := by
    cases e : shpD t 60 with
    | true => rfl
    | false => rw [txtT, e] at h0; exact absurd rfl h0
  have h2 : shpD u 60 = true := by
    cases e : shpD u 60 with
    | true => rfl
    | false => rw [h, txtT, e] at h0; exact absurd rfl h0
  rw [txtT, if_pos h1, txtT, if_pos h2] at h
  exact (Tm.text_inj t u [] [] (shp_of_shpD t 60 h1) (shp_of_shpD u 60 h2) (by rw [h])).1
theorem DOk.put {S : List Bs} {D : List (Bs × Bool)} (h : DOk S D) (t : Tm) : DOk S (putD (txtT t) (mkB S t) D) := by
  intro u b hu hb
  rw [lookup_putD] at hb
  split at hb
  · rename_i e
    cases hb
    rw [txtT_inj hu e]
  · exact h u b hu hb
theorem DOk.nil (S : List Bs) : DOk S [] := fun u b _ h => by cases h
/-- One behind the other. -/
theorem chain_ok (L : List Tm) (S : List Bs) : ∀ (l : List Tm) (D : List (Bs × Bool)), DOk S D →
    (∀ u ∈ l, ∀ D, DOk S D → ∃ D', DOk S D' ∧ PM (cx true) 55 (KP L S D) [.ptr 2000 0, tv u] (KP L S D') (.p (.bool (mkB S u)))) →
    ∃ Ds : Nat → List (Bs × Bool), Ds 0 = D ∧ (∀ i, i ≤ l.length → DOk S (Ds i)) ∧ ∀ i (hi : i < l.length), PM (cx true) 55 (KP L S (Ds i)) [.ptr 2000 0, tv l[i]] (KP L S (Ds (i + 1))) (.p (.bool (mkB S l[i])))
  | [], D, hD, _ => ⟨fun _ => D, rfl, fun _ _ => hD, fun i hi => by simp at hi⟩
  | u :: l, D, hD, h => by
    obtain ⟨D1, h1, h2⟩ := h u (List.mem_cons_self ..) D hD
    obtain ⟨Ds, g1, g2, g3⟩ := chain_ok L S l D1 h1 fun v hv => h v (List.mem_cons_of_mem _ hv)
    refine ⟨fun i => match i with | 0 => D | i + 1 => Ds i, rfl, fun i hi => ?_, fun i hi => ?_⟩
    · cases i with
      | zero => exact hD
      | succ i => exact g2 i (by simpa using hi)
    · cases i with
      | zero => simp only [List.getElem_cons_zero]; rw [g1]; exact h2
      | succ i => exact g3 i (by simpa using hi)
theorem stop_le (q : Tm → Bool) (l : List Tm) : stopT q l ≤ l.length := Nat.min_le_left _ _
theorem alls_ok (L : List Tm) (S : List Bs) (l : List Tm) (D : List (Bs × Bool)) (hD : DOk S D) (hl : l.length ≤ 9223372036854775807)
    (h : ∀ u ∈ l, ∀ D, DOk S D → ∃ D', DOk S D' ∧ PM (cx true) 55 (KP L S D) [.ptr 2000 0, tv u] (KP L S D') (.p (.bool (mkB S u)))) :
    ∃ D', DOk S D' ∧ PM (cx true) 64 (KP L S D) [.ptr 2000 0, lv l] (KP L S D') (.p (.bool (l.all (mkB S)))) := by
  obtain ⟨Ds, g1, g2, g3⟩ := chain_ok L S l D hD h
  refine ⟨Ds (stopT (mkB S) l), g2 _ (stop_le _ _), ?_⟩
  have := all_ok L S (mkB S) l Ds hl g3
  rwa [g1] at this
end Go.Sl
