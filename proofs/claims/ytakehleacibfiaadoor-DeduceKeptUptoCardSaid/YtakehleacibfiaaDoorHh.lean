/- Contracts of layer 8: analyzed. -/
import Derived.Test.YtakehleacibfiaaDoorHg
set_option linter.unusedVariables false
set_option linter.unusedSimpArgs false
namespace Go.Sl
open Go Go.Vc Go.Proofs Go.RowKit

/-- What must be known to take a term apart, and what one has then. -/
def wayT (t : Tm) : Option (List Tm × List Tm) :=
  if t.kind = 3 then some ([], t.kids) else if t.kind = 4 then (match t.kids with | [x, y] => some ([x], [y]) | _ => none) else if t.kind = 10 then (match t.kids with | [x, y] => some ([y], [x]) | _ => none) else none
def givesT (S : List Bs) (t : Tm) : List Tm :=
  match wayT t with
  | some (n, g) => if n.all (mkB S) = true then g else []
  | none => []
theorem wayT_sub {t : Tm} {n g : List Tm} (h : wayT t = some (n, g)) : (∀ u ∈ n, u ∈ t.kids) ∧ ∀ u ∈ g, u ∈ t.kids := by
  unfold wayT at h
  split at h
  · cases h; exact ⟨fun u h => (by cases h), fun u h => h⟩
  · split at h
    · split at h
      · rename_i x y e; cases h; rw [e]; simp
      · cases h
    · split at h
      · split at h
        · rename_i x y e; cases h; rw [e]; simp
        · cases h
      · cases h
theorem gives_sub {S : List Bs} {t u : Tm} (h : u ∈ givesT S t) : u ∈ t.kids := by
  unfold givesT at h
  split at h
  · rename_i n g e
    split at h
    · exact (wayT_sub e).2 u h
    · cases h
  · cases h
theorem two_kids {t : Tm} (h : txtT t ≠ []) (hk : t.kind = 4 ∨ t.kind = 10) : ∃ x y, t.kids = [x, y] := by
  have hs := shp_of_shpD t 60 (txt_shp h)
  obtain ⟨k, n, l⟩ := t
  simp only [Tm.kind] at hk
  simp only [Tm.shp, Bool.and_eq_true, Bool.or_eq_true, decide_eq_true_eq] at hs
  have hl : l.length = 2 := by
    rcases hk with rfl | rfl
    · have := hs.1.2
      simp [Tm.arity] at this
      omega
    · have := hs.1.2
      simp [Tm.arity] at this
      omega
  match l, hl with
  | [x, y], _ => exact ⟨x, y, rfl⟩
def moreT (S : List Bs) (l : List Tm) : List Tm := l.flatMap (givesT S)
theorem more_take (S : List Bs) {l : List Tm} {i : Nat} (h : i < l.length) : moreT S (l.take (i + 1)) = moreT S (l.take i) ++ givesT S l[i] := by
  rw [List.take_succ_eq_append_getElem h, moreT, List.flatMap_append]
  simp [moreT]
theorem kids_wt (l : List Tm) : l.length ≤ wts l := by
  induction l with
  | nil => simp
  | cons u l ih => have := wt_eq u; simp only [List.length_cons, wts]; omega
theorem gives_len {S : List Bs} {t : Tm} (hw : wt t ≤ 1000000000) : (givesT S t).length ≤ 1000000000 := by
  have hk : t.kids.length ≤ 1000000000 := by have := wt_eq t; have := kids_wt t.kids; omega
  unfold givesT
  split
  · rename_i n g e
    split
    · unfold wayT at e
      split at e
      · cases e; exact hk
      · split at e
        · split at e
          · cases e; simp
          · cases e
        · split at e
          · split at e
            · cases e; simp
            · cases e
          · cases e
    · simp
  · simp
theorem more_len {S : List Bs} : ∀ {l : List Tm}, (∀ t ∈ l, wt t ≤ 1000000000) → (moreT S l).length ≤ l.length * 1000000000
  | [], _ => by simp [moreT]
  | t :: l, h => by
    have h1 := gives_len (S := S) (h t (List.mem_cons_self ..))
    have h2 := more_len (S := S) (l := l) fun u hu => h u (List.mem_cons_of_mem _ hu)
    have e : moreT S (t :: l) = givesT S t ++ moreT S l := rfl
    rw [e, List.length_append, List.length_cons, Nat.succ_mul]
    omega
open Classical in
/-- What has been found out when all of some terms have been asked. -/
noncomputable def allD (L : List Tm) (S : List Bs) (l : List Tm) (D : List (Bs × Bool)) : List (Bs × Bool) :=
  if h : ∃ D', DOk S D' ∧ PM (cx true) 64 (KP L S D) [.ptr 2000 0, lv l] (KP L S D') (.p (.bool (l.all (mkB S)))) then Classical.choose h else D
theorem allD_ok (L : List Tm) (S : List Bs) (l : List Tm) (D : List (Bs × Bool)) (hD : DOk S D) (hl : l.length ≤ 9223372036854775807) (hf : ∀ u ∈ l, Fit u) (hw : ∀ u ∈ l, wt u ≤ 1000000000) :
    DOk S (allD L S l D) ∧ PM (cx true) 64 (KP L S D) [.ptr 2000 0, lv l] (KP L S (allD L S l D)) (.p (.bool (l.all (mkB S)))) := by
  have h := alls_ok L S l D hD hl fun u hu D hD => makes_ok L S _ u (Nat.le_refl _) (hf u hu) (hw u hu) D hD
  rw [allD, dif_pos h]
  exact Classical.choose_spec h
/-- .. when some terms have been looked at. -/
noncomputable def dIn (L : List Tm) (S : List Bs) : List Tm → List (Bs × Bool) → List (Bs × Bool)
  | [], D => D
  | t :: ts, D => dIn L S ts (match wayT t with | some (n, _) => allD L S n D | none => D)
theorem dIn_take (L : List Tm) (S : List Bs) : ∀ {l : List Tm} {i : Nat} (D : List (Bs × Bool)) (h : i < l.length), dIn L S (l.take (i + 1)) D = (match wayT l[i] with | some (n, _) => allD L S n (dIn L S (l.take i) D) | none => dIn L S (l.take i) D)
  | [], i, D, h => by simp at h
  | t :: l, 0, D, h => by simp [dIn]
  | t :: l, i + 1, D, h => by
    simp only [List.take_succ_cons, dIn, List.getElem_cons_succ]
    exact dIn_take L S _ (by simpa using h)
theorem dIn_ok (L : List Tm) (S : List Bs) : ∀ (l : List Tm) (D : List (Bs × Bool)), DOk S D → (∀ t ∈ l, Fit t) → (∀ t ∈ l, wt t ≤ 1000000000) → DOk S (dIn L S l D)
  | [], D, hD, _, _ => hD
  | t :: l, D, hD, hf, hw => by
    rw [dIn]
    refine dIn_ok L S l _ ?_ (fun u hu => hf u (List.mem_cons_of_mem _ hu)) (fun u hu => hw u (List.mem_cons_of_mem _ hu))
    have ft := hf t (List.mem_cons_self ..)
    have ht := hw t (List.mem_cons_self ..)
    split
    · rename_i n g e
      have hs := (wayT_sub e).1
      have hn : n.length ≤ 9223372036854775807 := by
        unfold wayT at e
        split at e
        · cases e; simp
        · split at e
          · split at e
            · cases e; simp
            · cases e
          · split at e
            · split at e
              · cases e; simp
              · cases e
            · cases e
      exact (allD_ok L S n D hD hn (fun u hu => ft.kid (hs u hu)) (fun u hu => by have := wts_mem (hs u hu); have := wt_eq t; omega)).1
    · exact hD
/-- One round. -/
noncomputable def stepK (k : Kn) : Kn := (moreT k.s k.l).foldl addT ⟨k.l, k.s, dIn k.l k.s k.l k.d⟩
theorem WK.adds {U : List Tm} : ∀ (l : List Tm) {k : Kn}, WK U k → (∀ t ∈ l, Fit t) → (∀ t ∈ l, Sl.wt t ≤ 1000000000) → (∀ t ∈ l, canT t ∈ U) → WK U (l.foldl addT k)
  | [], k, h, _, _, _ => h
  | t :: l, k, h, hf, hw, hu => WK.adds l (h.add (hf t (List.mem_cons_self ..)) (hw t (List.mem_cons_self ..)) (hu t (List.mem_cons_self ..))) (fun u h => hf u (List.mem_cons_of_mem _ h)) (fun u h => hw u (List.mem_cons_of_mem _ h)) (fun u h => hu u (List.mem_cons_of_mem _ h))
theorem WK.step {U : List Tm} (hU : ∀ t ∈ U, ∀ u ∈ t.kids, u ∈ U) {k : Kn} (h : WK U k) : WK U (stepK k) := by
  have hm : ∀ u ∈ moreT k.s k.l, ∃ t ∈ k.l, u ∈ t.kids := fun u hu => by
    obtain ⟨t, ht, hu⟩ := List.mem_flatMap.1 hu
    exact ⟨t, ht, gives_sub hu⟩
  refine WK.adds _ { h with d := dIn_ok k.l k.s k.l k.d h.d h.fit h.wt } (fun u hu => ?_) (fun u hu => ?_) (fun u hu => ?_)
  · obtain ⟨t, ht, hu⟩ := hm u hu
    exact (h.fit t ht).kid hu
  · obtain ⟨t, ht, hu⟩ := hm u hu
    have := h.wt t ht
    have := wts_mem hu
    have := wt_eq t
    omega
  · obtain ⟨t, ht, hu⟩ := hm u hu
    rw [can_kid (h.can t ht) hu]
    exact hU t (h.sub t ht) u hu
end Go.Sl
