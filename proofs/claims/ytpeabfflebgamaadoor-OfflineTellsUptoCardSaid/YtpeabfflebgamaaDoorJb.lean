/- Layer 8: what is known, in plain theory: it grows no further than what stands within. -/
import Derived.Test.YtpeabfflebgamaaDoorJa
set_option linter.unusedVariables false
set_option linter.unusedSimpArgs false
/- short -/
namespace Go.Sl
open Go Go.Vc Go.Proofs Go.RowKit

theorem bl_asymm : ∀ {a b : List UInt8}, Op.bytesLess a b = true → Op.bytesLess b a = false
  | [], [], h => by simp [Op.bytesLess] at h
  | _ :: _, [], h => by simp [Op.bytesLess] at h
  | [], _ :: _, h => by simp [Op.bytesLess]
  | a :: x, b :: y, h => by
    simp only [Op.bytesLess, Bool.or_eq_true, Bool.and_eq_true, decide_eq_true_eq, beq_iff_eq] at h
    simp only [Op.bytesLess, Bool.or_eq_false_iff, Bool.and_eq_false_iff, decide_eq_false_iff_not]
    rcases h with h | ⟨rfl, h⟩
    · exact ⟨UInt8.lt_asymm h, .inl (by simp only [beq_eq_false_iff_ne]; rintro rfl; exact UInt8.lt_irrefl _ h)⟩
    · exact ⟨UInt8.lt_irrefl _, .inr (bl_asymm h)⟩
theorem swapT_swap (k : Int) (n : Bs) : ∀ l : List Tm, swapT k n (swapT k n l).kids = swapT k n l
  | [] => rfl
  | [_] => rfl
  | _ :: _ :: _ :: _ => rfl
  | [x, y] => by
    have e : ∀ x y, swapT k n [x, y] = if k = 9 ∧ lessT y x = true then .mk k n [y, x] else .mk k n [x, y] := fun _ _ => rfl
    by_cases h : k = 9 ∧ lessT y x = true
    · have h2 : lessT x y = false := bl_asymm h.2
      rw [e x y, if_pos h]
      show swapT k n [y, x] = _
      rw [e y x, if_neg (by rw [h2]; simp)]
    · rw [e x y, if_neg h]
      show swapT k n [x, y] = _
      rw [e x y, if_neg h]
theorem nodup_of_map {α β : Type} {f : α → β} : ∀ {l : List α}, (l.map f).Nodup → l.Nodup
  | [], _ => List.nodup_nil
  | a :: l, h => by
    rw [List.map_cons, List.nodup_cons] at h
    rw [List.nodup_cons]
    exact ⟨fun ha => h.1 (List.mem_map.2 ⟨a, ha, rfl⟩), nodup_of_map h.2⟩
theorem kids_swap (k : Int) (n : Bs) (l : List Tm) : ∀ u, u ∈ (swapT k n l).kids ↔ u ∈ l := by
  intro u
  rcases (swapT_kind k n l).2.2 with h | ⟨x, y, h1, h2⟩
  · rw [h]
  · rw [h2, h1]
    simp only [List.mem_cons, List.not_mem_nil, or_false]
    exact or_comm
theorem can_can : ∀ t : Tm, canT (canT t) = canT t := by
  intro t
  induction t using Tm.indk with
  | h t ih =>
  rw [canT_eq (canT t)]
  have e := canT_eq t
  obtain ⟨h1, h2, h3⟩ := swapT_kind t.kind t.name (t.kids.map canT)
  rw [e, h1, h2]
  have hm : (swapT t.kind t.name (t.kids.map canT)).kids.map canT = (swapT t.kind t.name (t.kids.map canT)).kids := by
    have : ∀ l : List Tm, (∀ u ∈ l, canT u = u) → l.map canT = l := by
      intro l
      induction l with
      | nil => intro _; rfl
      | cons u l ih => intro h; rw [List.map_cons, h u (List.mem_cons_self ..), ih fun v hv => h v (List.mem_cons_of_mem _ hv)]
    refine this _ fun u hu => ?_
    rw [kids_swap] at hu
    obtain ⟨v, hv, rfl⟩ := List.mem_map.1 hu
    exact ih v hv
  rw [hm]
  exact swapT_swap _ _ _
/-- The kids of a term in order are in order. -/
theorem can_kid {t u : Tm} (h : canT t = t) (hu : u ∈ t.kids) : canT u = u := by
  rw [← h, canT_eq t, kids_swap] at hu
  obtain ⟨v, hv, rfl⟩ := List.mem_map.1 hu
  exact can_can v
mutual
/-- All that stands in a term. -/
def inT : Tm → List Tm
  | .mk k n l => .mk k n l :: inTs l
def inTs : List Tm → List Tm
  | [] => []
  | t :: ts => inT t ++ inTs ts
end
theorem inTs_mem {l : List Tm} {u v : Tm} (hu : u ∈ l) (hv : v ∈ inT u) : v ∈ inTs l := by
  induction l with
  | nil => cases hu
  | cons t l ih =>
    rw [inTs, List.mem_append]
    cases hu with
    | head => exact .inl hv
    | tail _ hu => exact .inr (ih hu)
theorem inTs_of {l : List Tm} {v : Tm} (h : v ∈ inTs l) : ∃ u ∈ l, v ∈ inT u := by
  induction l with
  | nil => cases h
  | cons t l ih =>
    rw [inTs, List.mem_append] at h
    rcases h with h | h
    · exact ⟨t, List.mem_cons_self .., h⟩
    · obtain ⟨u, hu, hv⟩ := ih h
      exact ⟨u, List.mem_cons_of_mem _ hu, hv⟩
theorem inT_eq (t : Tm) : inT t = t :: inTs t.kids := by cases t; rw [inT]; rfl
theorem inT_self (t : Tm) : t ∈ inT t := by rw [inT_eq]; exact List.mem_cons_self ..
theorem inT_kid : ∀ {t u v : Tm}, u ∈ inT t → v ∈ u.kids → v ∈ inT t := by
  intro t
  induction t using Tm.indk with
  | h t ih =>
  intro u v hu hv
  rw [inT_eq] at hu ⊢
  rcases List.mem_cons.1 hu with rfl | hu
  · exact List.mem_cons_of_mem _ (inTs_mem hv (inT_self v))
  · obtain ⟨w, hw, hu⟩ := inTs_of hu
    exact List.mem_cons_of_mem _ (inTs_mem hw (ih w hw hu hv))
theorem nodup_len {α : Type} [DecidableEq α] : ∀ {l m : List α}, l.Nodup → (∀ x ∈ l, x ∈ m) → l.length ≤ m.length
  | [], m, _, _ => Nat.zero_le _
  | a :: l, m, hn, hs => by
    rw [List.nodup_cons] at hn
    have ha := hs a (List.mem_cons_self ..)
    have := nodup_len (l := l) (m := m.erase a) hn.2 fun x hx => (List.mem_erase_of_ne (by rintro rfl; exact hn.1 hx)).2 (hs x (List.mem_cons_of_mem _ hx))
    rw [List.length_erase_of_mem ha] at this
    have := List.length_pos_of_mem ha
    simp only [List.length_cons]
    omega
/-- What is known, in order. -/
structure WK (U : List Tm) (k : Kn) : Prop where
  s : k.s = k.l.map txtT
  ne : ∀ t ∈ k.l, txtT t ≠ []
  nd : k.s.Nodup
  fit : ∀ t ∈ k.l, Fit t
  wt : ∀ t ∈ k.l, wt t ≤ 1000000000
  can : ∀ t ∈ k.l, canT t = t
  sub : ∀ t ∈ k.l, t ∈ U
  d : DOk k.s k.d
theorem WK.len {U : List Tm} {k : Kn} (h : WK U k) : k.l.length ≤ U.length := by
  refine nodup_len ?_ h.sub
  have := h.nd
  rw [h.s] at this
  exact nodup_of_map this
theorem WK.add {U : List Tm} {k : Kn} (h : WK U k) {t : Tm} (hf : Fit t) (hw : Sl.wt t ≤ 1000000000) (hu : canT t ∈ U) : WK U (addT k t) := by
  unfold addT
  split
  · exact h
  · rename_i hn
    simp only [not_or] at hn
    have hm : ∀ {P : Tm → Prop}, (∀ u ∈ k.l, P u) → P (canT t) → ∀ u ∈ k.l ++ [canT t], P u := fun h1 h2 u hu => by
      rcases List.mem_append.1 hu with hu | hu
      · exact h1 u hu
      · rw [List.mem_singleton.1 hu]; exact h2
    exact
      { s := by simp [h.s]
        ne := hm h.ne hn.1
        nd := by
          refine List.nodup_append.2 ⟨h.nd, by simp, fun a ha b hb => ?_⟩
          rw [List.mem_singleton.1 hb]
          rintro rfl
          exact hn.2 ha
        fit := hm h.fit (can_fit t hf)
        wt := hm h.wt (by rw [can_wt]; exact hw)
        can := hm h.can (can_can t)
        sub := hm h.sub hu
        d := DOk.nil _ }
end Go.Sl
/- short -/
namespace Go.Sl
open Go Go.Vc Go.Proofs Go.RowKit

/-- What must be known to take a term apart, and what one has then. -/
def wayT (t : Tm) : Option (List Tm × List Tm) :=
  if t.kind = 3 then some ([], t.kids) else if t.kind = 4 then (match t.kids with | [x, y] => some ([x], [y]) | _ => none) else if t.kind = 10 then (match t.kids with | [x, y] => some ([y], [x]) | _ => none) else none
def givesT (S : List Bs) (t : Tm) : List Tm :=
  match wayT t with
  | some (n, g) => if n.all (mkB S) = true then g else []
  | none => []
theorem wayT_sub {t : Tm} {n g : List Tm} (h : wayT t = some (n, g)) : (∀ u ∈ n, u ∈ t.kids) ∧ ∀ u ∈ g, u ∈ t.kids := by
  unfold wayT at h
  split at h
  · cases h; exact ⟨fun u h => (by cases h), fun u h => h⟩
  · split at h
    · split at h
      · rename_i x y e; cases h; rw [e]; simp
      · cases h
    · split at h
      · split at h
        · rename_i x y e; cases h; rw [e]; simp
        · cases h
      · cases h
theorem gives_sub {S : List Bs} {t u : Tm} (h : u ∈ givesT S t) : u ∈ t.kids := by
  unfold givesT at h
  split at h
  · rename_i n g e
    split at h
    · exact (wayT_sub e).2 u h
    · cases h
  · cases h
theorem two_kids {t : Tm} (h : txtT t ≠ []) (hk : t.kind = 4 ∨ t.kind = 10) : ∃ x y, t.kids = [x, y] := by
  have hs := shp_of_shpD t 60 (txt_shp h)
  obtain ⟨k, n, l⟩ := t
  simp only [Tm.kind] at hk
  simp only [Tm.shp, Bool.and_eq_true, Bool.or_eq_true, decide_eq_true_eq] at hs
  have hl : l.length = 2 := by
    rcases hk with rfl | rfl
    · have := hs.1.2
      simp [Tm.arity] at this
      omega
    · have := hs.1.2
      simp [Tm.arity] at this
      omega
  match l, hl with
  | [x, y], _ => exact ⟨x, y, rfl⟩
def moreT (S : List Bs) (l : List Tm) : List Tm := l.flatMap (givesT S)
theorem more_take (S : List Bs) {l : List Tm} {i : Nat} (h : i < l.length) : moreT S (l.take (i + 1)) = moreT S (l.take i) ++ givesT S l[i] := by
  rw [List.take_succ_eq_append_getElem h, moreT, List.flatMap_append]
  simp [moreT]
theorem kids_wt (l : List Tm) : l.length ≤ wts l := by
  induction l with
  | nil => simp
  | cons u l ih => have := wt_eq u; simp only [List.length_cons, wts]; omega
theorem gives_len {S : List Bs} {t : Tm} (hw : wt t ≤ 1000000000) : (givesT S t).length ≤ 1000000000 := by
  have hk : t.kids.length ≤ 1000000000 := by have := wt_eq t; have := kids_wt t.kids; omega
  unfold givesT
  split
  · rename_i n g e
    split
    · unfold wayT at e
      split at e
      · cases e; exact hk
      · split at e
        · split at e
          · cases e; simp
          · cases e
        · split at e
          · split at e
            · cases e; simp
            · cases e
          · cases e
    · simp
  · simp
theorem more_len {S : List Bs} : ∀ {l : List Tm}, (∀ t ∈ l, wt t ≤ 1000000000) → (moreT S l).length ≤ l.length * 1000000000
  | [], _ => by simp [moreT]
  | t :: l, h => by
    have h1 := gives_len (S := S) (h t (List.mem_cons_self ..))
    have h2 := more_len (S := S) (l := l) fun u hu => h u (List.mem_cons_of_mem _ hu)
    have e : moreT S (t :: l) = givesT S t ++ moreT S l := rfl
    rw [e, List.length_append, List.length_cons, Nat.succ_mul]
    omega
open Classical in
/-- What has been found out when all of some terms have been asked. -/
noncomputable def allD (L : List Tm) (S : List Bs) (l : List Tm) (D : List (Bs × Bool)) : List (Bs × Bool) :=
  if h : ∃ D', DOk S D' ∧ PM (cx true) 51 (KP L S D) [.ptr 2000 0, lv l] (KP L S D') (.p (.bool (l.all (mkB S)))) then Classical.choose h else D
theorem allD_ok (L : List Tm) (S : List Bs) (l : List Tm) (D : List (Bs × Bool)) (hD : DOk S D) (hl : l.length ≤ 9223372036854775807) (hf : ∀ u ∈ l, Fit u) (hw : ∀ u ∈ l, wt u ≤ 1000000000) :
    DOk S (allD L S l D) ∧ PM (cx true) 51 (KP L S D) [.ptr 2000 0, lv l] (KP L S (allD L S l D)) (.p (.bool (l.all (mkB S)))) := by
  have h := alls_ok L S l D hD hl fun u hu D hD => makes_ok L S _ u (Nat.le_refl _) (hf u hu) (hw u hu) D hD
  rw [allD, dif_pos h]
  exact Classical.choose_spec h
/-- .. when some terms have been looked at. -/
noncomputable def dIn (L : List Tm) (S : List Bs) : List Tm → List (Bs × Bool) → List (Bs × Bool)
  | [], D => D
  | t :: ts, D => dIn L S ts (match wayT t with | some (n, _) => allD L S n D | none => D)
theorem dIn_take (L : List Tm) (S : List Bs) : ∀ {l : List Tm} {i : Nat} (D : List (Bs × Bool)) (h : i < l.length), dIn L S (l.take (i + 1)) D = (match wayT l[i] with | some (n, _) => allD L S n (dIn L S (l.take i) D) | none => dIn L S (l.take i) D)
  | [], i, D, h => by simp at h
  | t :: l, 0, D, h => by simp [dIn]
  | t :: l, i + 1, D, h => by
    simp only [List.take_succ_cons, dIn, List.getElem_cons_succ]
    exact dIn_take L S _ (by simpa using h)
theorem dIn_ok (L : List Tm) (S : List Bs) : ∀ (l : List Tm) (D : List (Bs × Bool)), DOk S D → (∀ t ∈ l, Fit t) → (∀ t ∈ l, wt t ≤ 1000000000) → DOk S (dIn L S l D)
  | [], D, hD, _, _ => hD
  | t :: l, D, hD, hf, hw => by
    rw [dIn]
    refine dIn_ok L S l _ ?_ (fun u hu => hf u (List.mem_cons_of_mem _ hu)) (fun u hu => hw u (List.mem_cons_of_mem _ hu))
    have ft := hf t (List.mem_cons_self ..)
    have ht := hw t (List.mem_cons_self ..)
    split
    · rename_i n g e
      have hs := (wayT_sub e).1
      have hn : n.length ≤ 9223372036854775807 := by
        unfold wayT at e
        split at e
        · cases e; simp
        · split at e
          · split at e
            · cases e; simp
            · cases e
          · split at e
            · split at e
              · cases e; simp
              · cases e
            · cases e
      exact (allD_ok L S n D hD hn (fun u hu => ft.kid (hs u hu)) (fun u hu => by have := wts_mem (hs u hu); have := wt_eq t; omega)).1
    · exact hD
/-- One round. -/
noncomputable def stepK (k : Kn) : Kn := (moreT k.s k.l).foldl addT ⟨k.l, k.s, dIn k.l k.s k.l k.d⟩
theorem WK.adds {U : List Tm} : ∀ (l : List Tm) {k : Kn}, WK U k → (∀ t ∈ l, Fit t) → (∀ t ∈ l, Sl.wt t ≤ 1000000000) → (∀ t ∈ l, canT t ∈ U) → WK U (l.foldl addT k)
  | [], k, h, _, _, _ => h
  | t :: l, k, h, hf, hw, hu => WK.adds l (h.add (hf t (List.mem_cons_self ..)) (hw t (List.mem_cons_self ..)) (hu t (List.mem_cons_self ..))) (fun u h => hf u (List.mem_cons_of_mem _ h)) (fun u h => hw u (List.mem_cons_of_mem _ h)) (fun u h => hu u (List.mem_cons_of_mem _ h))
theorem WK.step {U : List Tm} (hU : ∀ t ∈ U, ∀ u ∈ t.kids, u ∈ U) {k : Kn} (h : WK U k) : WK U (stepK k) := by
  have hm : ∀ u ∈ moreT k.s k.l, ∃ t ∈ k.l, u ∈ t.kids := fun u hu => by
    obtain ⟨t, ht, hu⟩ := List.mem_flatMap.1 hu
    exact ⟨t, ht, gives_sub hu⟩
  refine WK.adds _ { h with d := dIn_ok k.l k.s k.l k.d h.d h.fit h.wt } (fun u hu => ?_) (fun u hu => ?_) (fun u hu => ?_)
  · obtain ⟨t, ht, hu⟩ := hm u hu
    exact (h.fit t ht).kid hu
  · obtain ⟨t, ht, hu⟩ := hm u hu
    have := h.wt t ht
    have := wts_mem hu
    have := wt_eq t
    omega
  · obtain ⟨t, ht, hu⟩ := hm u hu
    rw [can_kid (h.can t ht) hu]
    exact hU t (h.sub t ht) u hu
end Go.Sl
/- short -/
namespace Go.Sl
open Go Go.Vc Go.Proofs Go.RowKit

noncomputable def itK (k : Kn) : Nat → Kn
  | 0 => k
  | j + 1 => stepK (itK k j)
def wasK (k : Kn) (f : Nat → Kn) : Nat → Int
  | 0 => -1
  | j + 1 => ((tmvs (f j).l).length : Int)
abbrev gAn : Nat → Nat := gT [(2000, 1900), (1001, 1901), (2002, 1902), (2003, 1903), (2001, 1901)]
abbrev AN (k : Kn) : List (Nat × AO) := [(1900, .var true 39 (.mix [.slc 1901, .slc 1902, .slc 1903])), (1901, .row 24 3 (tmvs k.l)), (1902, .mp 37 true (isM k.s)), (1903, .mp 37 true (mdM k.d)), (1910, .mp 53 false waysL)]
theorem analyzed_ok (U : List Tm) (hU : ∀ t ∈ U, ∀ u ∈ t.kids, u ∈ U) (l : List Tm) (hf : ∀ t ∈ l, Fit t) (hw : ∀ t ∈ l, wt t ≤ 1000000000) (hl : l.length ≤ 1000000000) (h0 : WK U (ofT l)) (hUl : U.length ≤ 2000)
    (e : Kn) (he : ∀ j, (∀ i, i + 1 < j → (itK (ofT l) i).l.length < (itK (ofT l) (i + 1)).l.length) → 0 < j → (itK (ofT l) j).l.length ≤ (itK (ofT l) (j - 1)).l.length → itK (ofT l) j = e) :
    PM (cx true) 27 [] [lv l] e.obs (.ptr 2000 0) := by
  refine PM_of_vc (cx_ok true) (mixed true) { own := fun q => Nat.beq q 100014 || Nat.beq q 100015 || Nat.beq q 100051 || Nat.beq q 100068 || Nat.beq q 6 || Nat.beq q 58 } Tryd.func27 (by kernel_rfl) rfl rfl (by kernel_rfl) rfl ?_
  repeat (conv => whnf); first|refine IndepAnd (by kernel_rfl) ?_|refine ⟨rfl,?_⟩|refine And.intro (by first|decide|exact trivial|exact ⟨_,rfl,rfl⟩|exact ⟨rfl,trivial⟩|exact ⟨rfl,rfl,trivial⟩) ?_
  conv => whnf
  refine ⟨_, MCallVC.pr gAn (of_ok l hf hw hl) ⟨LE.of rfl, trivial⟩ trivial rfl, ?_⟩
  repeat (conv => whnf); first|refine IndepAnd (by kernel_rfl) ?_|refine ⟨rfl,?_⟩|refine And.intro (by first|decide|exact trivial|exact ⟨_,rfl,rfl⟩|exact ⟨rfl,trivial⟩|exact ⟨rfl,rfl,trivial⟩) ?_
  conv => whnf
  refine ⟨_, MCallVC.pr (gT [(2010, 1910)]) ways_ok trivial trivial rfl, ?_⟩
  repeat (conv => whnf); first|refine IndepAnd (by kernel_rfl) ?_|refine ⟨rfl,?_⟩|refine And.intro (by first|decide|exact trivial|exact ⟨_,rfl,rfl⟩|exact ⟨rfl,trivial⟩|exact ⟨rfl,rfl,trivial⟩) ?_
  conv => whnf
  refine ⟨{ j : Nat // (∀ i, i + 1 < j → (itK (ofT l) i).l.length < (itK (ofT l) (i + 1)).l.length) ∧ WK U (itK (ofT l) j) }, fun j => Vc.S.of [(3, .ptr 1900 0), (4, .slc 1910), (5, iv (wasK (ofT l) (itK (ofT l)) j.1))] (AN (itK (ofT l) j.1)), fun j => U.length + 1 - (wasK (ofT l) (itK (ofT l)) j.1 + 1).toNat, ⟨0, fun i h => absurd h (by omega), h0⟩, ?_, ?_⟩
  · refine Ge.of rfl ?_ ?_
    · repeat (conv => whnf); refine ⟨LE.of rfl, ?_⟩
      trivial
    · repeat (conv => whnf); refine ⟨OLE.of rfl, ?_⟩
      trivial
  rintro ⟨j, hj, hk⟩
  repeat (conv => whnf); first|refine IndepAnd (by kernel_rfl) ?_|refine ⟨rfl,?_⟩|refine And.intro (by first|decide|exact trivial|exact ⟨_,rfl,rfl⟩|exact ⟨rfl,trivial⟩|exact ⟨rfl,rfl,trivial⟩) ?_
  conv => whnf
  refine @bool_rec _ _ _ ?_ ?_ <;> intro h1
  · repeat (conv => whnf); first|refine IndepAnd (by kernel_rfl) ?_|refine ⟨rfl,?_⟩|refine And.intro (by first|decide|exact trivial|exact ⟨_,rfl,rfl⟩|exact ⟨rfl,trivial⟩|exact ⟨rfl,rfl,trivial⟩) ?_
    conv => whnf
    obtain ⟨k, ek⟩ : ∃ k, k = itK (ofT l) j := ⟨_, rfl⟩
    have hk : WK U k := by rw [ek]; exact hk
    have hkl := hk.len
    have hdi : ∀ i, DOk k.s (dIn k.l k.s (k.l.take i) k.d) := fun i => dIn_ok k.l k.s _ k.d hk.d (fun t ht => hk.fit t (List.mem_of_mem_take ht)) (fun t ht => hk.wt t (List.mem_of_mem_take ht))
    refine ⟨{ i : Nat // i ≤ k.l.length }, fun i => Vc.S.of [(3, .ptr 1900 0), (4, .slc 1910), (5, iv ((tmvs k.l).length : Int)), (6, .slc 6), (31, .slc 1901), (32, iv ((tmvs k.l).length : Int)), (33, iv (i.1 : Int))] ((6, .row 24 3 (tmvs (moreT k.s (k.l.take i.1)))) :: AN ⟨k.l, k.s, dIn k.l k.s (k.l.take i.1) k.d⟩), fun i => k.l.length - i.1, ⟨0, Nat.zero_le _⟩, ?_, ?_⟩
    · subst ek
      refine Ge.of rfl ?_ ?_
      · repeat (conv => whnf); refine ⟨LE.of rfl, ?_⟩
        trivial
      · repeat (conv => whnf); refine ⟨OLE.of rfl, ?_⟩
        trivial
    rintro ⟨i, hi⟩
    repeat (conv => whnf); first|refine IndepAnd (by kernel_rfl) ?_|refine ⟨rfl,?_⟩|refine And.intro (by first|decide|exact trivial|exact ⟨_,rfl,rfl⟩|exact ⟨rfl,trivial⟩|exact ⟨rfl,rfl,trivial⟩) ?_
    conv => whnf
    refine @bool_rec _ _ _ ?_ ?_ <;> intro h2
    · have hlt : i < k.l.length := by have := of_decide_eq_true h2; rw [tmvs_length] at this; exact Int.ofNat_lt.1 this
      have hm : k.l[i] ∈ k.l := List.getElem_mem hlt
      have hml : (moreT k.s (k.l.take i)).length ≤ 2000000000000 := by
        have h1 := more_len (S := k.s) (l := k.l.take i) fun t ht => hk.wt t (List.mem_of_mem_take ht)
        have h2 : (k.l.take i).length ≤ 2000 := by rw [List.length_take]; omega
        have h3 : (k.l.take i).length * 1000000000 ≤ 2000 * 1000000000 := Nat.mul_le_mul_right _ h2
        omega
      have hby : ∀ g : List Tm, g.length ≤ 1000000000 → ((tmvs (moreT k.s (k.l.take i))).length + (tmvs g).length) * 48 ≤ 140737488355328 := fun g hg => by
        rw [tmvs_length, tmvs_length]
        omega
      repeat (conv => whnf); first|refine IndepAnd (by kernel_rfl) ?_|refine ⟨rfl,?_⟩|refine And.intro (by first|decide|exact trivial|exact ⟨_,rfl,rfl⟩|exact ⟨rfl,trivial⟩|exact ⟨rfl,rfl,trivial⟩) ?_
      conv => whnf
      refine ⟨Int.natCast_nonneg _, by show i < (tmvs k.l).length; rw [tmvs_length]; exact hlt, ?_⟩
      repeat (conv => whnf); first|refine IndepAnd (by kernel_rfl) ?_|refine ⟨rfl,?_⟩|refine And.intro (by first|decide|exact trivial|exact ⟨_,rfl,rfl⟩|exact ⟨rfl,trivial⟩|exact ⟨rfl,rfl,trivial⟩) ?_
      conv => whnf
      refine ⟨TV k.l[i], tmvs_get hlt, rfl, rfl, rfl, ?_⟩
      repeat (conv => whnf); first|refine IndepAnd (by kernel_rfl) ?_|refine ⟨rfl,?_⟩|refine And.intro (by first|decide|exact trivial|exact ⟨_,rfl,rfl⟩|exact ⟨rfl,trivial⟩|exact ⟨rfl,rfl,trivial⟩) ?_
      conv => whnf
      by_cases k3 : k.l[i].kind = 3
      · refine ⟨some (wayP 69 72), by show mget (.n k.l[i].kind) waysL = _; rw [k3]; rfl, ?_⟩
        repeat (conv => whnf); first|refine IndepAnd (by kernel_rfl) ?_|refine ⟨rfl,?_⟩|refine And.intro (by first|decide|exact trivial|exact ⟨_,rfl,rfl⟩|exact ⟨rfl,trivial⟩|exact ⟨rfl,rfl,trivial⟩) ?_
        conv => whnf
        refine ⟨_, CallVC.pr (none_ok k.l[i]) rfl rfl, ?_⟩
        repeat (conv => whnf); first|refine IndepAnd (by kernel_rfl) ?_|refine ⟨rfl,?_⟩|refine And.intro (by first|decide|exact trivial|exact ⟨_,rfl,rfl⟩|exact ⟨rfl,trivial⟩|exact ⟨rfl,rfl,trivial⟩) ?_
        conv => whnf
        refine ⟨_, MCallVC.pr gAn (allD_ok k.l k.s [] (dIn k.l k.s (k.l.take i) k.d) (hdi i) (by simp) (by simp) (by simp)).2 ⟨LE.of rfl, LE.of rfl, trivial⟩ ⟨.inr (.inl rfl), .inr (.inl rfl), .inr (.inl rfl), .inr (.inl rfl), trivial⟩ rfl, ?_⟩
        repeat (conv => whnf); first|refine IndepAnd (by kernel_rfl) ?_|refine ⟨rfl,?_⟩|refine And.intro (by first|decide|exact trivial|exact ⟨_,rfl,rfl⟩|exact ⟨rfl,trivial⟩|exact ⟨rfl,rfl,trivial⟩) ?_
        conv => whnf
        refine ⟨_, CallVC.pr (every_ok k.l[i]) rfl rfl, ?_⟩
        repeat (conv => whnf); first|refine IndepAnd (by kernel_rfl) ?_|refine ⟨rfl,?_⟩|refine And.intro (by first|decide|exact trivial|exact ⟨_,rfl,rfl⟩|exact ⟨rfl,trivial⟩|exact ⟨rfl,rfl,trivial⟩) ?_
        conv => whnf
        refine ⟨tmvs_sz _, ?_⟩
        repeat (conv => whnf); first|refine IndepAnd (by kernel_rfl) ?_|refine ⟨rfl,?_⟩|refine And.intro (by first|decide|exact trivial|exact ⟨_,rfl,rfl⟩|exact ⟨rfl,trivial⟩|exact ⟨rfl,rfl,trivial⟩) ?_
        conv => whnf
        refine ⟨hby _ (Nat.le_trans (kids_wt _) (by have := hk.wt _ hm; have := wt_eq k.l[i]; omega)), ?_⟩
        repeat (conv => whnf); first|refine IndepAnd (by kernel_rfl) ?_|refine ⟨rfl,?_⟩|refine And.intro (by first|decide|exact trivial|exact ⟨_,rfl,rfl⟩|exact ⟨rfl,trivial⟩|exact ⟨rfl,rfl,trivial⟩) ?_
        conv => whnf
        have ew : wayT k.l[i] = some ([], k.l[i].kids) := by unfold wayT; rw [if_pos k3]
        have eg : givesT k.s k.l[i] = k.l[i].kids := by unfold givesT; rw [ew]; rfl
        refine ⟨_, wrapN (n := i + 1) rfl (by omega), ?_⟩
        repeat (conv => whnf); first|refine IndepAnd (by kernel_rfl) ?_|refine ⟨rfl,?_⟩|refine And.intro (by first|decide|exact trivial|exact ⟨_,rfl,rfl⟩|exact ⟨rfl,trivial⟩|exact ⟨rfl,rfl,trivial⟩) ?_
        conv => whnf
        refine ⟨⟨i + 1, hlt⟩, ?_, by show k.l.length - (i + 1) < k.l.length - i; omega⟩
        refine Ge.of rfl ?_ ?_
        · repeat (conv => whnf); refine ⟨LE.of rfl, ?_⟩
          trivial
        · repeat (conv => whnf); first | refine ⟨OLE.of rfl, ?_⟩ | refine ⟨OLE.of (congrArg (AO.row 24 3) (by show tmvs (moreT k.s (k.l.take i)) ++ tmvs k.l[i].kids = tmvs (moreT k.s (k.l.take (i + 1))); rw [more_take _ hlt, eg, tmvs_append])), ?_⟩ | refine ⟨OLE.of (congrArg (fun d => AO.mp 37 true (mdM d)) (by show allD k.l k.s [] (dIn k.l k.s (k.l.take i) k.d) = dIn k.l k.s (k.l.take (i + 1)) k.d; rw [dIn_take _ _ _ hlt, ew])), ?_⟩
          trivial
      · by_cases k4 : k.l[i].kind = 4
        · skip
          obtain ⟨x, y, hxy⟩ := two_kids (hk.ne _ hm) (by first | exact .inl k4 | exact .inr k10)
          have fx : Fit x := (hk.fit _ hm).kid (by rw [hxy]; simp)
          have fy : Fit y := (hk.fit _ hm).kid (by rw [hxy]; simp)
          have hwt : wt x + wt y + 1 ≤ wt k.l[i] := by rw [wt_eq k.l[i], hxy]; simp only [wts]; omega
          have hwk := hk.wt _ hm
          have ew : wayT k.l[i] = some ([x], [y]) := by unfold wayT; rw [if_neg k3, if_pos k4, hxy]
          refine ⟨some (wayP 70 71), by show mget (.n k.l[i].kind) waysL = _; rw [k4]; rfl, ?_⟩
          repeat (conv => whnf); first|refine IndepAnd (by kernel_rfl) ?_|refine ⟨rfl,?_⟩|refine And.intro (by first|decide|exact trivial|exact ⟨_,rfl,rfl⟩|exact ⟨rfl,trivial⟩|exact ⟨rfl,rfl,trivial⟩) ?_
          conv => whnf
          refine ⟨_, CallVC.pr (first_ok k.l[i] x y hxy) rfl rfl, ?_⟩
          repeat (conv => whnf); first|refine IndepAnd (by kernel_rfl) ?_|refine ⟨rfl,?_⟩|refine And.intro (by first|decide|exact trivial|exact ⟨_,rfl,rfl⟩|exact ⟨rfl,trivial⟩|exact ⟨rfl,rfl,trivial⟩) ?_
          conv => whnf
          refine ⟨_, MCallVC.pr gAn (allD_ok k.l k.s [x] (dIn k.l k.s (k.l.take i) k.d) (hdi i) (by simp) (by simp [fx]) (by simp; omega)).2 ⟨LE.of rfl, LE.of rfl, trivial⟩ ⟨.inr (.inl rfl), .inr (.inl rfl), .inr (.inl rfl), .inr (.inl rfl), trivial⟩ rfl, ?_⟩
          repeat (conv => whnf); first|refine IndepAnd (by kernel_rfl) ?_|refine ⟨rfl,?_⟩|refine And.intro (by first|decide|exact trivial|exact ⟨_,rfl,rfl⟩|exact ⟨rfl,trivial⟩|exact ⟨rfl,rfl,trivial⟩) ?_
          conv => whnf
          refine @bool_rec _ _ _ ?_ ?_ <;> intro h5
          · have h5 : [x].all (mkB k.s) = true := h5
            have eg : givesT k.s k.l[i] = [y] := by unfold givesT; rw [ew]; exact if_pos h5
            repeat (conv => whnf); first|refine IndepAnd (by kernel_rfl) ?_|refine ⟨rfl,?_⟩|refine And.intro (by first|decide|exact trivial|exact ⟨_,rfl,rfl⟩|exact ⟨rfl,trivial⟩|exact ⟨rfl,rfl,trivial⟩) ?_
            conv => whnf
            refine ⟨_, CallVC.pr (second_ok k.l[i] x y hxy) rfl rfl, ?_⟩
            repeat (conv => whnf); first|refine IndepAnd (by kernel_rfl) ?_|refine ⟨rfl,?_⟩|refine And.intro (by first|decide|exact trivial|exact ⟨_,rfl,rfl⟩|exact ⟨rfl,trivial⟩|exact ⟨rfl,rfl,trivial⟩) ?_
            conv => whnf
            refine ⟨tmvs_sz _, ?_⟩
            repeat (conv => whnf); first|refine IndepAnd (by kernel_rfl) ?_|refine ⟨rfl,?_⟩|refine And.intro (by first|decide|exact trivial|exact ⟨_,rfl,rfl⟩|exact ⟨rfl,trivial⟩|exact ⟨rfl,rfl,trivial⟩) ?_
            conv => whnf
            refine ⟨hby _ (by simp), ?_⟩
            repeat (conv => whnf); first|refine IndepAnd (by kernel_rfl) ?_|refine ⟨rfl,?_⟩|refine And.intro (by first|decide|exact trivial|exact ⟨_,rfl,rfl⟩|exact ⟨rfl,trivial⟩|exact ⟨rfl,rfl,trivial⟩) ?_
            conv => whnf
            refine ⟨_, wrapN (n := i + 1) rfl (by omega), ?_⟩
            repeat (conv => whnf); first|refine IndepAnd (by kernel_rfl) ?_|refine ⟨rfl,?_⟩|refine And.intro (by first|decide|exact trivial|exact ⟨_,rfl,rfl⟩|exact ⟨rfl,trivial⟩|exact ⟨rfl,rfl,trivial⟩) ?_
            conv => whnf
            refine ⟨⟨i + 1, hlt⟩, ?_, by show k.l.length - (i + 1) < k.l.length - i; omega⟩
            refine Ge.of rfl ?_ ?_
            · repeat (conv => whnf); refine ⟨LE.of rfl, ?_⟩
              trivial
            · repeat (conv => whnf); first | refine ⟨OLE.of rfl, ?_⟩ | refine ⟨OLE.of (congrArg (AO.row 24 3) (by show tmvs (moreT k.s (k.l.take i)) ++ tmvs [y] = tmvs (moreT k.s (k.l.take (i + 1))); rw [more_take _ hlt, eg, tmvs_append]; try simp [tmvs])), ?_⟩ | refine ⟨OLE.of (congrArg (fun d => AO.mp 37 true (mdM d)) (by show allD k.l k.s [x] (dIn k.l k.s (k.l.take i) k.d) = dIn k.l k.s (k.l.take (i + 1)) k.d; rw [dIn_take _ _ _ hlt, ew])), ?_⟩
              trivial
          · have h5 : [x].all (mkB k.s) = false := h5
            have eg : givesT k.s k.l[i] = [] := by unfold givesT; rw [ew]; exact if_neg (by rw [h5]; decide)
            repeat (conv => whnf); first|refine IndepAnd (by kernel_rfl) ?_|refine ⟨rfl,?_⟩|refine And.intro (by first|decide|exact trivial|exact ⟨_,rfl,rfl⟩|exact ⟨rfl,trivial⟩|exact ⟨rfl,rfl,trivial⟩) ?_
            conv => whnf
            refine ⟨_, wrapN (n := i + 1) rfl (by omega), ?_⟩
            repeat (conv => whnf); first|refine IndepAnd (by kernel_rfl) ?_|refine ⟨rfl,?_⟩|refine And.intro (by first|decide|exact trivial|exact ⟨_,rfl,rfl⟩|exact ⟨rfl,trivial⟩|exact ⟨rfl,rfl,trivial⟩) ?_
            conv => whnf
            refine ⟨⟨i + 1, hlt⟩, ?_, by show k.l.length - (i + 1) < k.l.length - i; omega⟩
            refine Ge.of rfl ?_ ?_
            · repeat (conv => whnf); refine ⟨LE.of rfl, ?_⟩
              trivial
            · repeat (conv => whnf); first | refine ⟨OLE.of rfl, ?_⟩ | refine ⟨OLE.of (congrArg (AO.row 24 3) (by show tmvs (moreT k.s (k.l.take i)) = tmvs (moreT k.s (k.l.take (i + 1))); rw [more_take _ hlt, eg, tmvs_append]; try simp [tmvs])), ?_⟩ | refine ⟨OLE.of (congrArg (fun d => AO.mp 37 true (mdM d)) (by show allD k.l k.s [x] (dIn k.l k.s (k.l.take i) k.d) = dIn k.l k.s (k.l.take (i + 1)) k.d; rw [dIn_take _ _ _ hlt, ew])), ?_⟩
              trivial
        · by_cases k10 : k.l[i].kind = 10
          · skip
            obtain ⟨x, y, hxy⟩ := two_kids (hk.ne _ hm) (by first | exact .inl k4 | exact .inr k10)
            have fx : Fit x := (hk.fit _ hm).kid (by rw [hxy]; simp)
            have fy : Fit y := (hk.fit _ hm).kid (by rw [hxy]; simp)
            have hwt : wt x + wt y + 1 ≤ wt k.l[i] := by rw [wt_eq k.l[i], hxy]; simp only [wts]; omega
            have hwk := hk.wt _ hm
            have ew : wayT k.l[i] = some ([y], [x]) := by unfold wayT; rw [if_neg k3, if_neg k4, if_pos k10, hxy]
            refine ⟨some (wayP 71 70), by show mget (.n k.l[i].kind) waysL = _; rw [k10]; rfl, ?_⟩
            repeat (conv => whnf); first|refine IndepAnd (by kernel_rfl) ?_|refine ⟨rfl,?_⟩|refine And.intro (by first|decide|exact trivial|exact ⟨_,rfl,rfl⟩|exact ⟨rfl,trivial⟩|exact ⟨rfl,rfl,trivial⟩) ?_
            conv => whnf
            refine ⟨_, CallVC.pr (second_ok k.l[i] x y hxy) rfl rfl, ?_⟩
            repeat (conv => whnf); first|refine IndepAnd (by kernel_rfl) ?_|refine ⟨rfl,?_⟩|refine And.intro (by first|decide|exact trivial|exact ⟨_,rfl,rfl⟩|exact ⟨rfl,trivial⟩|exact ⟨rfl,rfl,trivial⟩) ?_
            conv => whnf
            refine ⟨_, MCallVC.pr gAn (allD_ok k.l k.s [y] (dIn k.l k.s (k.l.take i) k.d) (hdi i) (by simp) (by simp [fy]) (by simp; omega)).2 ⟨LE.of rfl, LE.of rfl, trivial⟩ ⟨.inr (.inl rfl), .inr (.inl rfl), .inr (.inl rfl), .inr (.inl rfl), trivial⟩ rfl, ?_⟩
            repeat (conv => whnf); first|refine IndepAnd (by kernel_rfl) ?_|refine ⟨rfl,?_⟩|refine And.intro (by first|decide|exact trivial|exact ⟨_,rfl,rfl⟩|exact ⟨rfl,trivial⟩|exact ⟨rfl,rfl,trivial⟩) ?_
            conv => whnf
            refine @bool_rec _ _ _ ?_ ?_ <;> intro h5
            · have h5 : [y].all (mkB k.s) = true := h5
              have eg : givesT k.s k.l[i] = [x] := by unfold givesT; rw [ew]; exact if_pos h5
              repeat (conv => whnf); first|refine IndepAnd (by kernel_rfl) ?_|refine ⟨rfl,?_⟩|refine And.intro (by first|decide|exact trivial|exact ⟨_,rfl,rfl⟩|exact ⟨rfl,trivial⟩|exact ⟨rfl,rfl,trivial⟩) ?_
              conv => whnf
              refine ⟨_, CallVC.pr (first_ok k.l[i] x y hxy) rfl rfl, ?_⟩
              repeat (conv => whnf); first|refine IndepAnd (by kernel_rfl) ?_|refine ⟨rfl,?_⟩|refine And.intro (by first|decide|exact trivial|exact ⟨_,rfl,rfl⟩|exact ⟨rfl,trivial⟩|exact ⟨rfl,rfl,trivial⟩) ?_
              conv => whnf
              refine ⟨tmvs_sz _, ?_⟩
              repeat (conv => whnf); first|refine IndepAnd (by kernel_rfl) ?_|refine ⟨rfl,?_⟩|refine And.intro (by first|decide|exact trivial|exact ⟨_,rfl,rfl⟩|exact ⟨rfl,trivial⟩|exact ⟨rfl,rfl,trivial⟩) ?_
              conv => whnf
              refine ⟨hby _ (by simp), ?_⟩
              repeat (conv => whnf); first|refine IndepAnd (by kernel_rfl) ?_|refine ⟨rfl,?_⟩|refine And.intro (by first|decide|exact trivial|exact ⟨_,rfl,rfl⟩|exact ⟨rfl,trivial⟩|exact ⟨rfl,rfl,trivial⟩) ?_
              conv => whnf
              refine ⟨_, wrapN (n := i + 1) rfl (by omega), ?_⟩
              repeat (conv => whnf); first|refine IndepAnd (by kernel_rfl) ?_|refine ⟨rfl,?_⟩|refine And.intro (by first|decide|exact trivial|exact ⟨_,rfl,rfl⟩|exact ⟨rfl,trivial⟩|exact ⟨rfl,rfl,trivial⟩) ?_
              conv => whnf
              refine ⟨⟨i + 1, hlt⟩, ?_, by show k.l.length - (i + 1) < k.l.length - i; omega⟩
              refine Ge.of rfl ?_ ?_
              · repeat (conv => whnf); refine ⟨LE.of rfl, ?_⟩
                trivial
              · repeat (conv => whnf); first | refine ⟨OLE.of rfl, ?_⟩ | refine ⟨OLE.of (congrArg (AO.row 24 3) (by show tmvs (moreT k.s (k.l.take i)) ++ tmvs [x] = tmvs (moreT k.s (k.l.take (i + 1))); rw [more_take _ hlt, eg, tmvs_append]; try simp [tmvs])), ?_⟩ | refine ⟨OLE.of (congrArg (fun d => AO.mp 37 true (mdM d)) (by show allD k.l k.s [y] (dIn k.l k.s (k.l.take i) k.d) = dIn k.l k.s (k.l.take (i + 1)) k.d; rw [dIn_take _ _ _ hlt, ew])), ?_⟩
                trivial
            · have h5 : [y].all (mkB k.s) = false := h5
              have eg : givesT k.s k.l[i] = [] := by unfold givesT; rw [ew]; exact if_neg (by rw [h5]; decide)
              repeat (conv => whnf); first|refine IndepAnd (by kernel_rfl) ?_|refine ⟨rfl,?_⟩|refine And.intro (by first|decide|exact trivial|exact ⟨_,rfl,rfl⟩|exact ⟨rfl,trivial⟩|exact ⟨rfl,rfl,trivial⟩) ?_
              conv => whnf
              refine ⟨_, wrapN (n := i + 1) rfl (by omega), ?_⟩
              repeat (conv => whnf); first|refine IndepAnd (by kernel_rfl) ?_|refine ⟨rfl,?_⟩|refine And.intro (by first|decide|exact trivial|exact ⟨_,rfl,rfl⟩|exact ⟨rfl,trivial⟩|exact ⟨rfl,rfl,trivial⟩) ?_
              conv => whnf
              refine ⟨⟨i + 1, hlt⟩, ?_, by show k.l.length - (i + 1) < k.l.length - i; omega⟩
              refine Ge.of rfl ?_ ?_
              · repeat (conv => whnf); refine ⟨LE.of rfl, ?_⟩
                trivial
              · repeat (conv => whnf); first | refine ⟨OLE.of rfl, ?_⟩ | refine ⟨OLE.of (congrArg (AO.row 24 3) (by show tmvs (moreT k.s (k.l.take i)) = tmvs (moreT k.s (k.l.take (i + 1))); rw [more_take _ hlt, eg, tmvs_append]; try simp [tmvs])), ?_⟩ | refine ⟨OLE.of (congrArg (fun d => AO.mp 37 true (mdM d)) (by show allD k.l k.s [y] (dIn k.l k.s (k.l.take i) k.d) = dIn k.l k.s (k.l.take (i + 1)) k.d; rw [dIn_take _ _ _ hlt, ew])), ?_⟩
                trivial
          · refine ⟨none, by show mget (.n k.l[i].kind) waysL = _; simp [waysL, mget, k3, k4, k10], ?_⟩
            have ew : wayT k.l[i] = none := by unfold wayT; rw [if_neg k3, if_neg k4, if_neg k10]
            have eg : givesT k.s k.l[i] = [] := by unfold givesT; rw [ew]
            repeat (conv => whnf); first|refine IndepAnd (by kernel_rfl) ?_|refine ⟨rfl,?_⟩|refine And.intro (by first|decide|exact trivial|exact ⟨_,rfl,rfl⟩|exact ⟨rfl,trivial⟩|exact ⟨rfl,rfl,trivial⟩) ?_
            conv => whnf
            refine ⟨_, wrapN (n := i + 1) rfl (by omega), ?_⟩
            repeat (conv => whnf); first|refine IndepAnd (by kernel_rfl) ?_|refine ⟨rfl,?_⟩|refine And.intro (by first|decide|exact trivial|exact ⟨_,rfl,rfl⟩|exact ⟨rfl,trivial⟩|exact ⟨rfl,rfl,trivial⟩) ?_
            conv => whnf
            refine ⟨⟨i + 1, hlt⟩, ?_, by show k.l.length - (i + 1) < k.l.length - i; omega⟩
            refine Ge.of rfl ?_ ?_
            · repeat (conv => whnf); refine ⟨LE.of rfl, ?_⟩
              trivial
            · repeat (conv => whnf); first | refine ⟨OLE.of rfl, ?_⟩ | refine ⟨OLE.of (congrArg (AO.row 24 3) (by show tmvs (moreT k.s (k.l.take i)) = tmvs (moreT k.s (k.l.take (i + 1))); rw [more_take _ hlt, eg, tmvs_append]; try simp [tmvs])), ?_⟩ | refine ⟨OLE.of (congrArg (fun d => AO.mp 37 true (mdM d)) (by show dIn k.l k.s (k.l.take i) k.d = dIn k.l k.s (k.l.take (i + 1)) k.d; rw [dIn_take _ _ _ hlt, ew])), ?_⟩
              trivial
    · have hge : i = k.l.length := by have h2 := of_decide_eq_false h2; rw [tmvs_length] at h2; have h2 : ¬ (i : Int) < (k.l.length : Int) := h2; omega
      have htk : k.l.take i = k.l := by rw [hge, List.take_length]
      obtain ⟨M, eM⟩ : ∃ M, M = moreT k.s k.l := ⟨_, rfl⟩
      obtain ⟨k1, e1⟩ : ∃ k1 : Kn, k1 = ⟨k.l, k.s, dIn k.l k.s k.l k.d⟩ := ⟨_, rfl⟩
      have hk1 : WK U k1 := by rw [e1]; exact { hk with d := dIn_ok k.l k.s k.l k.d hk.d hk.fit hk.wt }
      have hMs : ∀ u ∈ M, Fit u ∧ wt u ≤ 1000000000 ∧ canT u ∈ U := fun u hu => by
        rw [eM] at hu
        obtain ⟨t, ht, hu⟩ := List.mem_flatMap.1 hu
        have hu := gives_sub hu
        refine ⟨(hk.fit t ht).kid hu, by have := hk.wt t ht; have := wts_mem hu; have := wt_eq t; omega, ?_⟩
        rw [can_kid (hk.can t ht) hu]
        exact hU t (hk.sub t ht) u hu
      have hMl : M.length ≤ 2000000000000 := by
        rw [eM]
        have h1 := more_len (S := k.s) (l := k.l) hk.wt
        have h3 : k.l.length * 1000000000 ≤ 2000 * 1000000000 := Nat.mul_le_mul_right _ (by omega)
        omega
      have hpart : ∀ m, WK U ((M.take m).foldl addT k1) := fun m => WK.adds _ hk1 (fun t ht => (hMs t (List.mem_of_mem_take ht)).1) (fun t ht => (hMs t (List.mem_of_mem_take ht)).2.1) (fun t ht => (hMs t (List.mem_of_mem_take ht)).2.2)
      have hstep : M.foldl addT k1 = stepK k := by rw [eM, e1]; rfl
      repeat (conv => whnf); first|refine IndepAnd (by kernel_rfl) ?_|refine ⟨rfl,?_⟩|refine And.intro (by first|decide|exact trivial|exact ⟨_,rfl,rfl⟩|exact ⟨rfl,trivial⟩|exact ⟨rfl,rfl,trivial⟩) ?_
      conv => whnf
      refine ⟨{ m : Nat // m ≤ M.length }, fun m => Vc.S.of [(3, .ptr 1900 0), (4, .slc 1910), (5, iv ((tmvs k.l).length : Int)), (60, .slc 6), (61, iv ((tmvs M).length : Int)), (62, iv (m.1 : Int))] ((6, .row 24 3 (tmvs M)) :: AN ((M.take m.1).foldl addT k1)), fun m => M.length - m.1, ⟨0, Nat.zero_le _⟩, ?_, ?_⟩
      · have em : moreT k.s (k.l.take i) = M := by rw [htk, eM]
        have ed : (⟨k.l, k.s, dIn k.l k.s (k.l.take i) k.d⟩ : Kn) = k1 := by rw [htk, e1]
        refine Ge.of rfl ?_ ?_
        · repeat (conv => whnf); first | refine ⟨LE.of rfl, ?_⟩ | refine ⟨LE.of (congrArg (fun l => iv ((tmvs l).length : Int)) em), ?_⟩
          trivial
        · repeat (conv => whnf); first | refine ⟨OLE.of rfl, ?_⟩ | refine ⟨OLE.of (congrArg (fun l => AO.row 24 3 (tmvs l)) em), ?_⟩ | refine ⟨OLE.of (congrArg (fun k : Kn => AO.row 24 3 (tmvs k.l)) ed), ?_⟩ | refine ⟨OLE.of (congrArg (fun k : Kn => AO.mp 37 true (isM k.s)) ed), ?_⟩ | refine ⟨OLE.of (congrArg (fun k : Kn => AO.mp 37 true (mdM k.d)) ed), ?_⟩
          trivial
      rintro ⟨m, hm⟩
      repeat (conv => whnf); first|refine IndepAnd (by kernel_rfl) ?_|refine ⟨rfl,?_⟩|refine And.intro (by first|decide|exact trivial|exact ⟨_,rfl,rfl⟩|exact ⟨rfl,trivial⟩|exact ⟨rfl,rfl,trivial⟩) ?_
      conv => whnf
      refine @bool_rec _ _ _ ?_ ?_ <;> intro h3
      · have hlt : m < M.length := by have := of_decide_eq_true h3; rw [tmvs_length] at this; exact Int.ofNat_lt.1 this
        have hu := hMs _ (List.getElem_mem hlt)
        have hp := (hpart m).len
        have enx : (M.take (m + 1)).foldl addT k1 = addT ((M.take m).foldl addT k1) M[m] := by rw [List.take_succ_eq_append_getElem hlt, List.foldl_append]; rfl
        repeat (conv => whnf); first|refine IndepAnd (by kernel_rfl) ?_|refine ⟨rfl,?_⟩|refine And.intro (by first|decide|exact trivial|exact ⟨_,rfl,rfl⟩|exact ⟨rfl,trivial⟩|exact ⟨rfl,rfl,trivial⟩) ?_
        conv => whnf
        refine ⟨Int.natCast_nonneg _, by show m < (tmvs M).length; rw [tmvs_length]; exact hlt, ?_⟩
        repeat (conv => whnf); first|refine IndepAnd (by kernel_rfl) ?_|refine ⟨rfl,?_⟩|refine And.intro (by first|decide|exact trivial|exact ⟨_,rfl,rfl⟩|exact ⟨rfl,trivial⟩|exact ⟨rfl,rfl,trivial⟩) ?_
        conv => whnf
        refine ⟨TV M[m], tmvs_get hlt, rfl, rfl, rfl, ?_⟩
        repeat (conv => whnf); first|refine IndepAnd (by kernel_rfl) ?_|refine ⟨rfl,?_⟩|refine And.intro (by first|decide|exact trivial|exact ⟨_,rfl,rfl⟩|exact ⟨rfl,trivial⟩|exact ⟨rfl,rfl,trivial⟩) ?_
        conv => whnf
        refine ⟨_, MCallVC.pr gAn (add_ok ((M.take m).foldl addT k1) M[m] hu.1 hu.2.1 (by omega)) ⟨LE.of rfl, LE.of rfl, trivial⟩ ⟨.inr (.inl rfl), .inr (.inl rfl), .inr (.inl rfl), .inr (.inl rfl), trivial⟩ rfl, ?_⟩
        repeat (conv => whnf); first|refine IndepAnd (by kernel_rfl) ?_|refine ⟨rfl,?_⟩|refine And.intro (by first|decide|exact trivial|exact ⟨_,rfl,rfl⟩|exact ⟨rfl,trivial⟩|exact ⟨rfl,rfl,trivial⟩) ?_
        conv => whnf
        refine ⟨_, wrapN (n := m + 1) rfl (by omega), ?_⟩
        repeat (conv => whnf); first|refine IndepAnd (by kernel_rfl) ?_|refine ⟨rfl,?_⟩|refine And.intro (by first|decide|exact trivial|exact ⟨_,rfl,rfl⟩|exact ⟨rfl,trivial⟩|exact ⟨rfl,rfl,trivial⟩) ?_
        conv => whnf
        refine ⟨⟨m + 1, hlt⟩, ?_, by show M.length - (m + 1) < M.length - m; omega⟩
        refine Ge.of rfl ?_ ?_
        · repeat (conv => whnf); refine ⟨LE.of rfl, ?_⟩
          trivial
        · repeat (conv => whnf); first | refine ⟨OLE.of rfl, ?_⟩ | refine ⟨OLE.of (congrArg (fun k : Kn => AO.row 24 3 (tmvs k.l)) enx.symm), ?_⟩ | refine ⟨OLE.of (congrArg (fun k : Kn => AO.mp 37 true (isM k.s)) enx.symm), ?_⟩ | refine ⟨OLE.of (congrArg (fun k : Kn => AO.mp 37 true (mdM k.d)) enx.symm), ?_⟩
          trivial
      · have hge2 : m = M.length := by have h3 := of_decide_eq_false h3; rw [tmvs_length] at h3; have h3 : ¬ (m : Int) < (M.length : Int) := h3; omega
        have eend : (M.take m).foldl addT k1 = itK (ofT l) (j + 1) := by rw [hge2, List.take_length, hstep, ek]; rfl
        have hwas : wasK (ofT l) (itK (ofT l)) j < ((tmvs k.l).length : Int) := by rw [ek]; exact of_decide_eq_true h1
        have hwas2 : -1 ≤ wasK (ofT l) (itK (ofT l)) j := by cases j with | zero => exact Int.le_refl _ | succ j => show (-1 : Int) ≤ ((tmvs (itK (ofT l) j).l).length : Int); omega
        have ew2 : wasK (ofT l) (itK (ofT l)) (j + 1) = ((tmvs k.l).length : Int) := by rw [ek]; rfl
        repeat (conv => whnf); first|refine IndepAnd (by kernel_rfl) ?_|refine ⟨rfl,?_⟩|refine And.intro (by first|decide|exact trivial|exact ⟨_,rfl,rfl⟩|exact ⟨rfl,trivial⟩|exact ⟨rfl,rfl,trivial⟩) ?_
        conv => whnf
        refine ⟨⟨j + 1, fun i2 h => ?_, ?_⟩, ?_, ?_⟩
        · by_cases h4 : i2 + 1 < j
          · exact hj i2 h4
          · have : j = i2 + 1 := by omega
            subst this
            rw [ek, tmvs_length] at hwas
            have hwas : ((tmvs (itK (ofT l) i2).l).length : Int) < _ := hwas
            rw [tmvs_length] at hwas
            exact Int.ofNat_lt.1 hwas
        · show WK U (stepK (itK (ofT l) j))
          rw [← ek]
          exact hk.step hU
        · refine Ge.of rfl ?_ ?_
          · repeat (conv => whnf); first | refine ⟨LE.of rfl, ?_⟩ | refine ⟨LE.of (congrArg iv ew2.symm), ?_⟩
            trivial
          · repeat (conv => whnf); first | refine ⟨OLE.of rfl, ?_⟩ | refine ⟨OLE.of (congrArg (fun k : Kn => AO.row 24 3 (tmvs k.l)) eend), ?_⟩ | refine ⟨OLE.of (congrArg (fun k : Kn => AO.mp 37 true (isM k.s)) eend), ?_⟩ | refine ⟨OLE.of (congrArg (fun k : Kn => AO.mp 37 true (mdM k.d)) eend), ?_⟩
            trivial
        · show U.length + 1 - (wasK (ofT l) (itK (ofT l)) (j + 1) + 1).toNat < U.length + 1 - (wasK (ofT l) (itK (ofT l)) j + 1).toNat
          rw [ew2]
          rw [tmvs_length] at hwas ⊢
          omega
  · have h1 : ¬ wasK (ofT l) (itK (ofT l)) j < ((tmvs (itK (ofT l) j).l).length : Int) := of_decide_eq_false h1
    have hj0 : 0 < j := by
      cases j with
      | zero => exact absurd (show (-1 : Int) < _ by omega) h1
      | succ j => omega
    have hend : itK (ofT l) j = e := by
      refine he j hj hj0 ?_
      cases j with
      | zero => omega
      | succ j =>
        have h1 : ¬ ((tmvs (itK (ofT l) j).l).length : Int) < ((tmvs (itK (ofT l) (j + 1)).l).length : Int) := h1
        rw [tmvs_length, tmvs_length] at h1
        show (itK (ofT l) (j + 1)).l.length ≤ (itK (ofT l) j).l.length
        omega
    repeat (conv => whnf); first|refine IndepAnd (by kernel_rfl) ?_|refine ⟨rfl,?_⟩|refine And.intro (by first|decide|exact trivial|exact ⟨_,rfl,rfl⟩|exact ⟨rfl,trivial⟩|exact ⟨rfl,rfl,trivial⟩) ?_
    conv => whnf
    exact ⟨gAn, ⟨rfl, LE.of rfl⟩, ⟨.inr (.inl rfl), .inr (.inl (congrArg (fun k : Kn => AO.row 24 3 (tmvs k.l)) hend)), .inr (.inl (congrArg (fun k : Kn => AO.mp 37 true (isM k.s)) hend)), .inr (.inl (congrArg (fun k : Kn => AO.mp 37 true (mdM k.d)) hend)), trivial⟩, rfl, rfl⟩
end Go.Sl
/- short -/
namespace Go.Sl
open Go Go.Vc Go.Proofs Go.RowKit

theorem itK_mono (k : Kn) (j : Nat) : (itK k j).l.length ≤ (itK k (j + 1)).l.length := by
  have key : ∀ (m : List Tm) (k : Kn), k.l.length ≤ (m.foldl addT k).l.length := by
    intro m
    induction m with
    | nil => intro k; exact Nat.le_refl _
    | cons t m ih =>
      intro k
      refine Nat.le_trans ?_ (ih (addT k t))
      unfold addT
      split
      · exact Nat.le_refl _
      · simp
  exact key (moreT (itK k j).s (itK k j).l) ⟨(itK k j).l, (itK k j).s, dIn (itK k j).l (itK k j).s (itK k j).l (itK k j).d⟩
theorem least {P : Nat → Prop} : ∀ n, P n → ∃ m, P m ∧ ∀ i, i < m → ¬ P i := by
  intro n
  induction n using Nat.strongRecOn with
  | _ n ih =>
  intro h
  by_cases hx : ∃ i, i < n ∧ P i
  · obtain ⟨i, hi, hp⟩ := hx
    exact ih i hi hp
  · exact ⟨n, h, fun i hi hp => hx ⟨i, hi, hp⟩⟩
theorem itK_wk {U : List Tm} (hU : ∀ t ∈ U, ∀ u ∈ t.kids, u ∈ U) {k : Kn} (h : WK U k) : ∀ j, WK U (itK k j)
  | 0 => h
  | j + 1 => (itK_wk hU h j).step hU
/-- The rounds come to an end. -/
theorem end_ex {U : List Tm} (hU : ∀ t ∈ U, ∀ u ∈ t.kids, u ∈ U) {k : Kn} (h : WK U k) : ∃ e : Kn, WK U e ∧ (∃ m, e = itK k (m + 1) ∧ (itK k (m + 1)).l.length ≤ (itK k m).l.length) ∧
    ∀ j, (∀ i, i + 1 < j → (itK k i).l.length < (itK k (i + 1)).l.length) → 0 < j → (itK k j).l.length ≤ (itK k (j - 1)).l.length → itK k j = e := by
  have hex : ∃ n, (itK k (n + 1)).l.length ≤ (itK k n).l.length := by
    refine Classical.byContradiction fun hc => ?_
    have hg : ∀ n, (itK k n).l.length < (itK k (n + 1)).l.length := fun n => Nat.lt_of_not_le fun hle => hc ⟨n, hle⟩
    have hn : ∀ n, n ≤ (itK k n).l.length := by
      intro n
      induction n with
      | zero => exact Nat.zero_le _
      | succ n ih => have := hg n; omega
    have h1 := hn (U.length + 1)
    have h2 := (itK_wk hU h (U.length + 1)).len
    omega
  obtain ⟨n, hn⟩ := hex
  obtain ⟨m, hm, hl⟩ := least (P := fun n => (itK k (n + 1)).l.length ≤ (itK k n).l.length) n hn
  refine ⟨itK k (m + 1), itK_wk hU h (m + 1), ⟨m, rfl, hm⟩, fun j hj h0 hle => ?_⟩
  obtain ⟨j, rfl⟩ : ∃ i, j = i + 1 := ⟨j - 1, by omega⟩
  have h1 : ¬ j < m := fun hlt => hl j hlt (by simpa using hle)
  have h2 : ¬ m < j := fun hlt => by have := hj m (by omega); omega
  rw [show j = m by omega]
theorem Knows_ok (L : List Tm) (S : List Bs) (D : List (Bs × Bool)) (hD : DOk S D) (l : List Tm) (t : Tm) (hf : Fit t) (hw : wt t ≤ 1000000000)
    (h : PM (cx true) 27 [] [lv l] (KS L S D) (.ptr 2000 0)) :
    K true 10 [lv l, tv t] (.pv (.bool (mkB S (canT t)))) := by
  obtain ⟨D', d1, d2⟩ := Makes_ok L S t hf hw D hD
  refine PC_of_vc (cx_ok true) (mixed true) { own := fun q => Nat.beq q 100006 || Nat.beq q 100008, tr := trT [(1, [0, 1, 0, 7, 15], .one 0 (.alt (.one 1 (.one 2 (.one 3 (.one 4 (.fin))))) (.one 2 (.one 1 (.one 3 (.one 4 (.fin)))))))] } Tryd.func10 (by kernel_rfl) rfl rfl (by kernel_rfl) ?_
  repeat' ((conv => whnf); first | refine IndepAnd (by kernel_rfl) ?_ | refine TreeAnd (by kernel_rfl) ?_ | refine ⟨rfl, ?_⟩ | refine ⟨by decide, ?_⟩ | refine ⟨trivial, ?_⟩ | refine ⟨⟨rfl, trivial⟩, ?_⟩ | refine ⟨Nat.le_of_ble_eq_true rfl, ?_⟩ | refine ⟨⟨_, rfl, rfl⟩, ?_⟩ | refine ⟨⟨rfl, rfl, trivial⟩, ?_⟩ | refine ⟨⟨rfl, rfl, rfl, trivial⟩, ?_⟩ | refine ⟨⟨rfl, rfl, rfl, rfl, trivial⟩, ?_⟩ | refine ⟨⟨rfl, rfl, rfl, rfl, rfl, trivial⟩, ?_⟩ | refine AltAnd ?_ ?_)
  all_goals (conv => whnf)
  all_goals refine ⟨_, MCallVC.pr (gT [(2000, 1900), (1001, 1901), (2002, 1902), (2003, 1903)]) h ⟨LE.of rfl, trivial⟩ trivial rfl, ?_⟩
  repeat' ((conv => whnf); first | refine IndepAnd (by kernel_rfl) ?_ | refine TreeAnd (by kernel_rfl) ?_ | refine ⟨rfl, ?_⟩ | refine ⟨by decide, ?_⟩ | refine ⟨trivial, ?_⟩ | refine ⟨⟨rfl, trivial⟩, ?_⟩ | refine ⟨Nat.le_of_ble_eq_true rfl, ?_⟩ | refine ⟨⟨_, rfl, rfl⟩, ?_⟩ | refine ⟨⟨rfl, rfl, trivial⟩, ?_⟩ | refine ⟨⟨rfl, rfl, rfl, trivial⟩, ?_⟩ | refine ⟨⟨rfl, rfl, rfl, rfl, trivial⟩, ?_⟩ | refine ⟨⟨rfl, rfl, rfl, rfl, rfl, trivial⟩, ?_⟩ | refine AltAnd ?_ ?_)
  all_goals (conv => whnf)
  all_goals refine ⟨_, MCallVC.pr (gT [(2000, 1900), (2001, 1901), (2002, 1902), (2003, 1903)]) d2 ⟨LE.of rfl, LE.of rfl, trivial⟩ ⟨.inr (.inl rfl), .inr (.inl rfl), .inr (.inl rfl), .inr (.inl rfl), trivial⟩ rfl, ?_⟩
  repeat' ((conv => whnf); first | refine IndepAnd (by kernel_rfl) ?_ | refine TreeAnd (by kernel_rfl) ?_ | refine ⟨rfl, ?_⟩ | refine ⟨by decide, ?_⟩ | refine ⟨trivial, ?_⟩ | refine ⟨⟨rfl, trivial⟩, ?_⟩ | refine ⟨Nat.le_of_ble_eq_true rfl, ?_⟩ | refine ⟨⟨_, rfl, rfl⟩, ?_⟩ | refine ⟨⟨rfl, rfl, trivial⟩, ?_⟩ | refine ⟨⟨rfl, rfl, rfl, trivial⟩, ?_⟩ | refine ⟨⟨rfl, rfl, rfl, rfl, trivial⟩, ?_⟩ | refine ⟨⟨rfl, rfl, rfl, rfl, rfl, trivial⟩, ?_⟩ | refine AltAnd ?_ ?_)
  all_goals (conv => whnf)
  all_goals exact LEP.refl _
end Go.Sl
/- short -/
namespace Go.Sl
open Go Go.Vc Go.Proofs Go.RowKit

theorem WK.nil (U : List Tm) : WK U ⟨[], [], []⟩ :=
  { s := rfl, ne := fun t h => (by cases h), nd := List.nodup_nil, fit := fun t h => (by cases h), wt := fun t h => (by cases h), can := fun t h => (by cases h), sub := fun t h => (by cases h), d := DOk.nil _ }
/-- All that stands in a frame, its shares in order. -/
def univ (l : List Tm) : List Tm := inTs (l.map canT)
theorem univ_kid (l : List Tm) : ∀ t ∈ univ l, ∀ u ∈ t.kids, u ∈ univ l := fun t ht u hu => by
  obtain ⟨w, hw, ht⟩ := inTs_of ht
  exact inTs_mem hw (inT_kid ht hu)
theorem of_wk {l : List Tm} (hf : ∀ t ∈ l, Fit t) (hw : ∀ t ∈ l, wt t ≤ 1000000000) : WK (univ l) (ofT l) :=
  WK.adds l (WK.nil _) hf hw fun t ht => inTs_mem (List.mem_map.2 ⟨t, ht, rfl⟩) (inT_self _)
theorem inT_len : ∀ t : Tm, (inT t).length = t.size := by
  intro t
  induction t using Tm.indk with
  | h t ih =>
  have key : ∀ l : List Tm, (∀ u ∈ l, (inT u).length = u.size) → (inTs l).length = Tm.sizes l := by
    intro l
    induction l with
    | nil => intro _; rfl
    | cons u l ihl =>
      intro h
      rw [inTs, List.length_append, h u (List.mem_cons_self ..), ihl fun v hv => h v (List.mem_cons_of_mem _ hv), Tm.sizes]
  rw [inT_eq, List.length_cons, key t.kids ih, Tm.size_eq]
theorem inTs_len (l : List Tm) : (inTs l).length = Tm.sizes l := by
  induction l with
  | nil => rfl
  | cons u l ih => rw [inTs, List.length_append, inT_len, ih, Tm.sizes]
theorem can_size : ∀ t : Tm, (canT t).size = t.size := by
  intro t
  induction t using Tm.indk with
  | h t ih =>
  have hm : ∀ l : List Tm, (∀ u ∈ l, (canT u).size = u.size) → Tm.sizes (l.map canT) = Tm.sizes l := by
    intro l
    induction l with
    | nil => intro _; rfl
    | cons u l ihl => intro h; simp only [List.map_cons, Tm.sizes]; rw [h u (List.mem_cons_self ..), ihl fun v hv => h v (List.mem_cons_of_mem _ hv)]
  have e := hm t.kids ih
  rw [canT_eq, Tm.size_eq t, Tm.size_eq, ← e]
  rcases (swapT_kind t.kind t.name (t.kids.map canT)).2.2 with h | ⟨x, y, h1, h2⟩
  · rw [h]
  · rw [h2, h1]
    simp only [Tm.sizes]
    omega
theorem univ_len (l : List Tm) : (univ l).length = Tm.sizes l := by
  rw [univ, inTs_len]
  induction l with
  | nil => rfl
  | cons u l ih => simp only [List.map_cons, Tm.sizes, can_size, ih]
/-- What is known of a frame in the end. -/
def EndK (l : List Tm) (e : Kn) : Prop := WK (univ l) e ∧ ∃ m, e = itK (ofT l) (m + 1) ∧ (itK (ofT l) (m + 1)).l.length ≤ (itK (ofT l) m).l.length
/-- deduce.Knows. -/
theorem knows_ok (l : List Tm) (hf : ∀ t ∈ l, Fit t) (hw : ∀ t ∈ l, wt t ≤ 1000000000) (hs : Tm.sizes l ≤ 2000) (hl : l.length ≤ 2000) :
    ∃ e, EndK l e ∧ ∀ t, Fit t → wt t ≤ 1000000000 → K true 10 [lv l, tv t] (.pv (.bool (mkB e.s (canT t)))) := by
  have h0 := of_wk hf hw
  obtain ⟨e, h1, h2, h3⟩ := end_ex (univ_kid l) h0
  refine ⟨e, ⟨h1, h2⟩, fun t ft wt => ?_⟩
  exact Knows_ok e.l e.s e.d h1.d l t ft wt (analyzed_ok (univ l) (univ_kid l) l hf hw (by omega) h0 (by rw [univ_len]; exact hs) e h3)
end Go.Sl
