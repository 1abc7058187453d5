/- Layer 8 in plain theory: what is known of a frame is what can be made of it and taken out of it. -/
import Derived.Test.YtpeabfflebgamaaDoorJb
set_option linter.unusedVariables false
set_option linter.unusedSimpArgs false
namespace Go.Sl
open Go Go.Vc Go.Proofs Go.RowKit

/-- It may be, and its shares are in order. -/
def gdT (t : Tm) : Prop := txtT t ≠ [] ∧ canT t = t
theorem txt_ne {t : Tm} : txtT t ≠ [] ↔ t.shp = true ∧ t.depth ≤ 60 := by
  rw [← shpD_iff]
  constructor
  · exact fun h => txt_shp h
  · intro h
    rw [txtT, if_pos h]
    exact Tm.text_ne t
theorem shp_mk (t : Tm) : t.shp = true ↔ (Tm.known t.kind = true ∧ (Tm.named t.kind == !t.name.isEmpty) = true ∧ (Tm.arity t.kind < 0 ∨ (t.kids.length : Int) = Tm.arity t.kind)) ∧ ∀ u ∈ t.kids, u.shp = true := by
  obtain ⟨k, n, l⟩ := t
  simp only [Tm.shp, Tm.kind, Tm.name, Tm.kids, Bool.and_eq_true, Bool.or_eq_true, decide_eq_true_eq, Tm.shps_iff, and_assoc]
theorem depth_kid' {t u : Tm} (h : u ∈ t.kids) : u.depth < t.depth := by
  rw [depth_mk t]; have := Tm.depth_mem h; omega
theorem gd_kid {t u : Tm} (h : gdT t) (hu : u ∈ t.kids) : gdT u := by
  obtain ⟨h1, h2⟩ := h
  rw [txt_ne] at h1
  refine ⟨txt_ne.2 ⟨((shp_mk t).1 h1.1).2 u hu, by have := depth_kid' hu; omega⟩, can_kid h2 hu⟩
theorem gd_pub {t x : Tm} (h : gdT t) (hx : x ∈ t.kids) : gdT (pubT x) := by
  have hk := gd_kid h hx
  obtain ⟨h1, h2⟩ := hk
  have h3 := txt_ne.1 h1
  have h4 := txt_ne.1 h.1
  refine ⟨txt_ne.2 ⟨(shp_mk _).2 ⟨⟨rfl, rfl, .inr rfl⟩, fun u hu => ?_⟩, ?_⟩, ?_⟩
  · simp only [pubT, Tm.kids, List.mem_singleton] at hu
    rw [hu]; exact h3.1
  · have := depth_kid' hx
    rw [depth_mk]
    simp only [pubT, Tm.kids, Tm.depths]
    omega
  · rw [canT_eq]
    simp only [pubT, Tm.kind, Tm.name, Tm.kids, List.map_cons, List.map_nil, h2]
    rfl
/-- WHAT IS KNOWN of what was sent: made of what is known, or taken out of it. -/
inductive Cl (B : Tm → Prop) : Tm → Prop where
  | base {t : Tm} : B t → gdT t → Cl B t
  | data {t : Tm} : gdT t → t.kind = 1 → Cl B t
  | comp {t : Tm} : gdT t → t.kind ≠ 1 → t.kind ≠ 2 → t.kind ≠ 9 → (∀ u ∈ t.kids, Cl B u) → Cl B t
  | sh1 {t x y : Tm} : gdT t → t.kind = 9 → t.kids = [x, y] → Cl B x → Cl B (pubT y) → Cl B t
  | sh2 {t x y : Tm} : gdT t → t.kind = 9 → t.kids = [x, y] → Cl B y → Cl B (pubT x) → Cl B t
  | pair {t u : Tm} : Cl B t → t.kind = 3 → u ∈ t.kids → Cl B u
  | enc {t x y : Tm} : Cl B t → t.kind = 4 → t.kids = [x, y] → Cl B x → Cl B y
  | mask {t x y : Tm} : Cl B t → t.kind = 10 → t.kids = [x, y] → Cl B y → Cl B x
theorem Cl.gd {B : Tm → Prop} {t : Tm} (h : Cl B t) : gdT t := by
  induction h with
  | base _ h => exact h
  | data h _ => exact h
  | comp h _ _ _ _ _ => exact h
  | sh1 h _ _ _ _ _ _ => exact h
  | sh2 h _ _ _ _ _ _ => exact h
  | pair _ _ hu ih => exact gd_kid ih hu
  | enc _ _ e _ ih _ => exact gd_kid ih (by rw [e]; simp)
  | mask _ _ e _ ih _ => exact gd_kid ih (by rw [e]; simp)
/-- Who knows all of some terms knows what is known of them. -/
theorem Cl.cut {B A : Tm → Prop} {t : Tm} (hB : ∀ u, B u → gdT u → Cl A u) (h : Cl B t) : Cl A t := by
  induction h with
  | base hb hg => exact hB _ hb hg
  | data h k => exact .data h k
  | comp h k1 k2 k9 _ ih => exact .comp h k1 k2 k9 ih
  | sh1 h k e _ _ i1 i2 => exact .sh1 h k e i1 i2
  | sh2 h k e _ _ i1 i2 => exact .sh2 h k e i1 i2
  | pair _ k hu ih => exact .pair ih k hu
  | enc _ k e _ i1 i2 => exact .enc i1 k e i2
  | mask _ k e _ i1 i2 => exact .mask i1 k e i2
theorem Cl.mono {B A : Tm → Prop} {t : Tm} (hB : ∀ u, B u → A u) (h : Cl B t) : Cl A t := h.cut fun u hb hg => .base (hB u hb) hg
/-- What was sent, as it counts. -/
def Fr (l : List Tm) (t : Tm) : Prop := ∃ v ∈ l, canT v = t
/-- What is there has the texts that are there. -/
theorem mem_txt {l : List Tm} (hn : ∀ t ∈ l, txtT t ≠ []) {t : Tm} (ht : txtT t ≠ []) : txtT t ∈ l.map txtT ↔ t ∈ l := by
  constructor
  · intro h
    obtain ⟨u, hu, e⟩ := List.mem_map.1 h
    rw [← txtT_inj (hn u hu) e]; exact hu
  · exact fun h => List.mem_map.2 ⟨t, h, rfl⟩
theorem kids2 {t : Tm} (h : gdT t) (hk : t.kind = 4 ∨ t.kind = 5 ∨ t.kind = 9 ∨ t.kind = 10) : ∃ x y, t.kids = [x, y] := by
  have h1 := ((shp_mk t).1 (txt_ne.1 h.1).1).1.2.2
  have h2 : Tm.arity t.kind = 2 := by rcases hk with e | e | e | e <;> rw [e] <;> rfl
  rw [h2] at h1
  have h3 : t.kids.length = 2 := by omega
  match t.kids, h3 with
  | [x, y], _ => exact ⟨x, y, rfl⟩
/-- What is made of known terms is known. -/
theorem mk_cl {B : Tm → Prop} {l : List Tm} (hl : ∀ t ∈ l, Cl B t) : ∀ (n : Nat) (t : Tm), t.size ≤ n → canT t = t → mkB (l.map txtT) t = true → Cl B t
  | 0, t, hn, _, _ => by have := Tm.size_pos t; omega
  | n + 1, t, hn, hc, h => by
    rw [mkB_eq] at h
    have ih : ∀ u, u.size < t.size → canT u = u → mkB (l.map txtT) u = true → Cl B u := fun u hu => mk_cl hl n u (by omega)
    by_cases h1 : txtT t = []
    · rw [if_pos h1] at h; cases h
    rw [if_neg h1] at h
    have hg : gdT t := ⟨h1, hc⟩
    by_cases h2 : txtT t ∈ l.map txtT
    · exact hl t ((mem_txt (fun t ht => (hl t ht).gd.1) h1).1 h2)
    rw [if_neg h2] at h
    by_cases k1 : t.kind = 1
    · exact .data hg k1
    rw [if_neg k1] at h
    by_cases k2 : t.kind = 2
    · rw [if_pos k2] at h; cases h
    rw [if_neg k2] at h
    by_cases k9 : t.kind = 9
    · rw [if_pos k9] at h
      obtain ⟨x, y, e⟩ := kids2 hg (.inr (.inr (.inl k9)))
      have hp := size_pub e
      have hx : x ∈ t.kids := by rw [e]; simp
      have hy : y ∈ t.kids := by rw [e]; simp
      rw [e] at h
      simp only [Bool.or_eq_true, Bool.and_eq_true] at h
      rcases h with ⟨a, b⟩ | ⟨a, b⟩
      · exact .sh1 hg k9 e (ih x (size_mem hx) (gd_kid hg hx).2 a) (ih _ hp.2 (gd_pub hg hy).2 b)
      · exact .sh2 hg k9 e (ih y (size_mem hy) (gd_kid hg hy).2 a) (ih _ hp.1 (gd_pub hg hx).2 b)
    rw [if_neg k9, List.all_eq_true] at h
    exact .comp hg k1 k2 k9 fun u hu => ih u (size_mem hu) (gd_kid hg hu).2 (h u hu)
/-- All that is there is known. -/
structure Sd (B : Tm → Prop) (k : Kn) : Prop where
  cl : ∀ t ∈ k.l, Cl B t
  s : k.s = k.l.map txtT
theorem Sd.add {B : Tm → Prop} {k : Kn} (h : Sd B k) {t : Tm} (ht : txtT (canT t) ≠ [] → Cl B (canT t)) : Sd B (addT k t) := by
  unfold addT
  split
  · exact h
  · rename_i hn
    simp only [not_or] at hn
    refine ⟨fun u hu => ?_, by simp [h.s]⟩
    rcases List.mem_append.1 hu with hu | hu
    · exact h.cl u hu
    · rw [List.mem_singleton.1 hu]; exact ht hn.1
theorem Sd.adds {B : Tm → Prop} : ∀ (m : List Tm) {k : Kn}, Sd B k → (∀ t ∈ m, txtT (canT t) ≠ [] → Cl B (canT t)) → Sd B (m.foldl addT k)
  | [], k, h, _ => h
  | t :: m, k, h, hm => Sd.adds m (h.add (hm t (List.mem_cons_self ..))) fun u hu => hm u (List.mem_cons_of_mem _ hu)
theorem Sd.more {B : Tm → Prop} {k : Kn} (h : Sd B k) : ∀ u ∈ moreT k.s k.l, Cl B u := by
  intro u hu
  obtain ⟨t, ht, hu⟩ := List.mem_flatMap.1 hu
  have hc := h.cl t ht
  have hg := hc.gd
  unfold givesT at hu
  split at hu
  · rename_i n g e
    split at hu
    · rename_i hn
      unfold wayT at e
      split at e
      · rename_i k3
        cases e
        exact .pair hc k3 hu
      · split at e
        · rename_i k4
          obtain ⟨x, y, ek⟩ := kids2 hg (.inl k4)
          rw [ek] at e
          cases e
          simp only [List.all_cons, List.all_nil, Bool.and_true] at hn
          simp only [List.mem_singleton] at hu
          subst hu
          have hx : x ∈ t.kids := by rw [ek]; simp
          refine .enc hc k4 ek (mk_cl h.cl _ x (Nat.le_refl _) (gd_kid hg hx).2 (by rw [← h.s]; exact hn))
        · split at e
          · rename_i k10
            obtain ⟨x, y, ek⟩ := kids2 hg (.inr (.inr (.inr k10)))
            rw [ek] at e
            cases e
            simp only [List.all_cons, List.all_nil, Bool.and_true] at hn
            simp only [List.mem_singleton] at hu
            subst hu
            have hy : y ∈ t.kids := by rw [ek]; simp
            refine .mask hc k10 ek (mk_cl h.cl _ y (Nat.le_refl _) (gd_kid hg hy).2 (by rw [← h.s]; exact hn))
          · cases e
    · cases hu
  · cases hu
theorem Sd.step {B : Tm → Prop} {k : Kn} (h : Sd B k) : Sd B (stepK k) := by
  have h' : Sd B ⟨k.l, k.s, dIn k.l k.s k.l k.d⟩ := ⟨h.cl, h.s⟩
  refine Sd.adds _ h' fun t ht _ => ?_
  have := h.more t ht
  rw [this.gd.2]; exact this
theorem Sd.of (l : List Tm) : Sd (Fr l) (ofT l) :=
  Sd.adds l (k := ⟨[], [], []⟩) ⟨fun t h => (by cases h), rfl⟩ fun t ht hr => .base ⟨t, ht, rfl⟩ ⟨hr, can_can t⟩
theorem Sd.it {B : Tm → Prop} {k : Kn} (h : Sd B k) : ∀ j, Sd B (itK k j)
  | 0 => h
  | j + 1 => (Sd.it h j).step
/-- Nothing was added. -/
theorem adds_full : ∀ (m : List Tm) (k : Kn), (m.foldl addT k).l.length ≤ k.l.length → (m.foldl addT k).l = k.l ∧ (m.foldl addT k).s = k.s ∧ ∀ u ∈ m, txtT (canT u) ≠ [] → txtT (canT u) ∈ k.s
  | [], k, _ => ⟨rfl, rfl, fun u h => (by cases h)⟩
  | t :: m, k, h => by
    have key : ∀ (m : List Tm) (k : Kn), k.l.length ≤ (m.foldl addT k).l.length := by
      intro m
      induction m with
      | nil => intro k; exact Nat.le_refl _
      | cons t m ih =>
        intro k
        refine Nat.le_trans ?_ (ih (addT k t))
        unfold addT
        split
        · exact Nat.le_refl _
        · simp
    have h1 := key m (addT k t)
    rw [List.foldl_cons] at h
    by_cases hc : txtT (canT t) = [] ∨ txtT (canT t) ∈ k.s
    · have e : addT k t = k := if_pos hc
      rw [e] at h
      obtain ⟨g1, g2, g3⟩ := adds_full m k h
      rw [List.foldl_cons, e]
      refine ⟨g1, g2, fun u hu hr => ?_⟩
      cases hu with
      | head => exact hc.resolve_left hr
      | tail _ hu => exact g3 u hu hr
    · exfalso
      have e : (addT k t).l.length = k.l.length + 1 := by unfold addT; rw [if_neg hc]; simp
      omega
theorem addT_keep {k : Kn} {t u : Tm} (h : u ∈ k.l) : u ∈ (addT k t).l := by
  unfold addT
  split
  · exact h
  · exact List.mem_append_left _ h
theorem adds_keep : ∀ (m : List Tm) {k : Kn} {u : Tm}, u ∈ k.l → u ∈ (m.foldl addT k).l
  | [], k, u, h => h
  | t :: m, k, u, h => adds_keep m (addT_keep h)
theorem step_keep {k : Kn} {u : Tm} (h : u ∈ k.l) : u ∈ (stepK k).l := adds_keep _ (k := ⟨k.l, k.s, dIn k.l k.s k.l k.d⟩) h
theorem it_keep {k : Kn} {u : Tm} (h : u ∈ k.l) : ∀ j, u ∈ (itK k j).l
  | 0 => h
  | j + 1 => step_keep (it_keep h j)
theorem adds_in {B : Tm → Prop} : ∀ (m : List Tm) {k : Kn}, Sd B k → (∀ t ∈ m, txtT (canT t) ≠ [] → Cl B (canT t)) → ∀ t ∈ m, txtT (canT t) ≠ [] → canT t ∈ (m.foldl addT k).l
  | [], k, _, _, t, ht, _ => by cases ht
  | x :: m, k, h, hm, t, ht, hr => by
    have hx := h.add (hm x (List.mem_cons_self ..))
    cases ht with
    | head =>
      rw [List.foldl_cons]
      refine adds_keep m ?_
      unfold addT
      split
      · rename_i hc
        have hc := hc.resolve_left hr
        rw [h.s] at hc
        exact (mem_txt (fun u hu => (h.cl u hu).gd.1) hr).1 hc
      · exact List.mem_append_right _ (List.mem_singleton.2 rfl)
    | tail _ ht => exact adds_in m hx (fun u hu => hm u (List.mem_cons_of_mem _ hu)) t ht hr
/-- WHAT IS KNOWN in the end: all that was sent; taken apart; nothing else. -/
structure FinK (l : List Tm) (e : Kn) : Prop where
  sd : Sd (Fr l) e
  base : ∀ t ∈ l, txtT (canT t) ≠ [] → canT t ∈ e.l
  shut : ∀ t ∈ e.l, ∀ u ∈ givesT e.s t, u ∈ e.l
theorem EndK.fin {l : List Tm} {e : Kn} (h : EndK l e) : FinK l e := by
  obtain ⟨hw, m, he, hle⟩ := h
  have hs : Sd (Fr l) (itK (ofT l) m) := (Sd.of l).it m
  obtain ⟨k, ek⟩ : ∃ k, k = itK (ofT l) m := ⟨_, rfl⟩
  have e1 : e = stepK k := by rw [he, ek]; rfl
  have hle : (stepK k).l.length ≤ k.l.length := by rw [ek]; exact hle
  rw [← ek] at hs
  obtain ⟨g1, g2, g3⟩ := adds_full (moreT k.s k.l) ⟨k.l, k.s, dIn k.l k.s k.l k.d⟩ hle
  have g1 : (stepK k).l = k.l := g1
  have g2 : (stepK k).s = k.s := g2
  refine ⟨by rw [e1]; exact hs.step, fun t ht hr => ?_, fun t ht u hu => ?_⟩
  · rw [he]
    exact it_keep (adds_in l (k := ⟨[], [], []⟩) (B := Fr l) ⟨fun t h => (by cases h), rfl⟩ (fun t ht hr => .base ⟨t, ht, rfl⟩ ⟨hr, can_can t⟩) t ht hr) _
  · rw [e1, g2] at hu
    rw [e1, g1] at ht ⊢
    have hm : u ∈ moreT k.s k.l := List.mem_flatMap.2 ⟨t, ht, hu⟩
    have hc := hs.more u hm
    have := g3 u hm (by rw [hc.gd.2]; exact hc.gd.1)
    rw [hc.gd.2] at this
    have this : txtT u ∈ k.s := this
    rw [hs.s] at this
    exact (mem_txt (fun v hv => (hs.cl v hv).gd.1) hc.gd.1).1 this
theorem FinK.txt {l : List Tm} {e : Kn} (h : FinK l e) {t : Tm} (ht : txtT t ≠ []) : txtT t ∈ e.s ↔ t ∈ e.l := by
  rw [h.sd.s]; exact mem_txt (fun v hv => (h.sd.cl v hv).gd.1) ht
theorem mkB_gd {S : List Bs} {t : Tm} (h : mkB S t = true) : txtT t ≠ [] := by
  intro hc
  rw [mkB_eq, if_pos hc] at h
  cases h
/-- What is known is made of what is there in the end. -/
theorem FinK.made {l : List Tm} {e : Kn} (h : FinK l e) {t : Tm} (ht : Cl (Fr l) t) : mkB e.s t = true := by
  have inl : ∀ t, gdT t → t ∈ e.l → mkB e.s t = true := fun t hg ht => by
    rw [mkB_eq, if_neg hg.1, if_pos ((h.txt hg.1).2 ht)]
  -- made, or there
  have split : ∀ t, gdT t → t.kind ≠ 1 → t.kind ≠ 2 → t.kind ≠ 9 → mkB e.s t = true → t ∈ e.l ∨ ∀ u ∈ t.kids, mkB e.s u = true := fun t hg k1 k2 k9 ht => by
    rw [mkB_eq, if_neg hg.1] at ht
    by_cases hm : txtT t ∈ e.s
    · exact .inl ((h.txt hg.1).1 hm)
    · rw [if_neg hm, if_neg k1, if_neg k2, if_neg k9, List.all_eq_true] at ht
      exact .inr ht
  induction ht with
  | base hb hg =>
    obtain ⟨v, hv, rfl⟩ := hb
    exact inl _ hg (h.base v hv hg.1)
  | data hg k => rw [mkB_eq, if_neg hg.1]; split <;> simp [k]
  | comp hg k1 k2 k9 _ ih =>
    rw [mkB_eq, if_neg hg.1]
    split
    · rfl
    · rw [List.all_eq_true]; exact ih
  | sh1 hg k ek _ _ i1 i2 =>
    rw [mkB_eq, if_neg hg.1]
    split
    · rfl
    · rw [ek]; simp [i1, i2, k]
  | sh2 hg k ek _ _ i1 i2 =>
    rw [mkB_eq, if_neg hg.1]
    split
    · rfl
    · rw [ek]; simp [i1, i2, k]
  | pair hc k hu ih =>
    rename_i t u
    rcases split t hc.gd (by rw [k]; decide) (by rw [k]; decide) (by rw [k]; decide) ih with hm | hm
    · refine inl u (gd_kid hc.gd hu) (h.shut t hm u ?_)
      unfold givesT wayT
      rw [if_pos k]
      simpa using hu
    · exact hm u hu
  | enc hc k ek _ i1 i2 =>
    rename_i t x y _
    rcases split t hc.gd (by rw [k]; decide) (by rw [k]; decide) (by rw [k]; decide) i1 with hm | hm
    · refine inl y (gd_kid hc.gd (by rw [ek]; simp)) (h.shut t hm y ?_)
      unfold givesT wayT
      rw [if_neg (by rw [k]; decide), if_pos k, ek]
      simp [i2]
    · exact hm y (by rw [ek]; simp)
  | mask hc k ek _ i1 i2 =>
    rename_i t x y _
    rcases split t hc.gd (by rw [k]; decide) (by rw [k]; decide) (by rw [k]; decide) i1 with hm | hm
    · refine inl x (gd_kid hc.gd (by rw [ek]; simp)) (h.shut t hm x ?_)
      unfold givesT wayT
      rw [if_neg (by rw [k]; decide), if_neg (by rw [k]; decide), if_pos k, ek]
      simp [i2]
    · exact hm x (by rw [ek]; simp)
theorem FinK.iff {l : List Tm} {e : Kn} (h : FinK l e) {t : Tm} (hc : canT t = t) : mkB e.s t = true ↔ Cl (Fr l) t :=
  ⟨fun hm => mk_cl h.sd.cl _ t (Nat.le_refl _) hc (by rw [← h.sd.s]; exact hm), h.made⟩
open Classical in
/-- Is a term known of a frame? -/
noncomputable def knT (l : List Tm) (t : Tm) : Bool := decide (Cl (Fr l) (canT t))
theorem knT_iff {l : List Tm} {t : Tm} : knT l t = true ↔ Cl (Fr l) (canT t) := by unfold knT; exact @decide_eq_true_iff _ (Classical.propDecidable _)
/-- deduce.Knows. -/
theorem knowsT_ok (l : List Tm) (t : Tm) (hf : ∀ t ∈ l, Fit t) (hw : ∀ t ∈ l, wt t ≤ 1000000000) (hs : Tm.sizes l ≤ 2000) (hl : l.length ≤ 2000) (ft : Fit t) (ht : wt t ≤ 1000000000) :
    K true 10 [lv l, tv t] (.pv (.bool (knT l t))) := by
  obtain ⟨e, h1, h2⟩ := knows_ok l hf hw hs hl
  have := h2 t ft ht
  have e : knT l t = mkB e.s (canT t) := by
    rw [Bool.eq_iff_iff, h1.fin.iff (can_can t), knT_iff]
  rw [e]; exact this
/-- Made: of a list that is not taken apart. -/
theorem mkB_iff {l : List Tm} {t : Tm} : mkB (ofT l).s t = true ↔ txtT t ≠ [] ∧ mkB (ofT l).s t = true := ⟨fun h => ⟨mkB_gd h, h⟩, fun h => h.2⟩
end Go.Sl
namespace Go.Sl
open Go Go.Vc Go.Proofs Go.RowKit

/-- What is made of some terms, none taken apart. -/
inductive Mk (B : Tm → Prop) : Tm → Prop where
  | base {t : Tm} : B t → gdT t → Mk B t
  | data {t : Tm} : gdT t → t.kind = 1 → Mk B t
  | comp {t : Tm} : gdT t → t.kind ≠ 1 → t.kind ≠ 2 → t.kind ≠ 9 → (∀ u ∈ t.kids, Mk B u) → Mk B t
  | sh1 {t x y : Tm} : gdT t → t.kind = 9 → t.kids = [x, y] → Mk B x → Mk B (pubT y) → Mk B t
  | sh2 {t x y : Tm} : gdT t → t.kind = 9 → t.kids = [x, y] → Mk B y → Mk B (pubT x) → Mk B t
theorem Mk.gd {B : Tm → Prop} {t : Tm} (h : Mk B t) : gdT t := by cases h <;> assumption
theorem Mk.cl {B : Tm → Prop} {t : Tm} (h : Mk B t) : Cl B t := by
  induction h with
  | base hb hg => exact .base hb hg
  | data h k => exact .data h k
  | comp h k1 k2 k9 _ ih => exact .comp h k1 k2 k9 ih
  | sh1 h k e _ _ i1 i2 => exact .sh1 h k e i1 i2
  | sh2 h k e _ _ i1 i2 => exact .sh2 h k e i1 i2
theorem Mk.cut {B A : Tm → Prop} {t : Tm} (hB : ∀ u, B u → gdT u → Mk A u) (h : Mk B t) : Mk A t := by
  induction h with
  | base hb hg => exact hB _ hb hg
  | data h k => exact .data h k
  | comp h k1 k2 k9 _ ih => exact .comp h k1 k2 k9 ih
  | sh1 h k e _ _ i1 i2 => exact .sh1 h k e i1 i2
  | sh2 h k e _ _ i1 i2 => exact .sh2 h k e i1 i2
theorem Mk.mono {B A : Tm → Prop} {t : Tm} (hB : ∀ u, B u → A u) (h : Mk B t) : Mk A t := h.cut fun u hb hg => .base (hB u hb) hg
/-- Nothing is gained by taking apart. -/
def Apart (B : Tm → Prop) : Prop := ∀ t, B t → gdT t → (t.kind = 3 → ∀ u ∈ t.kids, Mk B u) ∧ (t.kind = 4 → ∀ x y, t.kids = [x, y] → Mk B x → Mk B y) ∧ (t.kind = 10 → ∀ x y, t.kids = [x, y] → Mk B y → Mk B x)
theorem Cl.mk {B : Tm → Prop} (hB : Apart B) {t : Tm} (h : Cl B t) : Mk B t := by
  induction h with
  | base hb hg => exact .base hb hg
  | data h k => exact .data h k
  | comp h k1 k2 k9 _ ih => exact .comp h k1 k2 k9 ih
  | sh1 h k e _ _ i1 i2 => exact .sh1 h k e i1 i2
  | sh2 h k e _ _ i1 i2 => exact .sh2 h k e i1 i2
  | pair hc k hu ih =>
    cases ih with
    | base hb hg => exact (hB _ hb hg).1 k _ hu
    | data hg k' => rw [k] at k'; exact absurd k' (by decide)
    | comp _ _ _ _ h => exact h _ hu
    | sh1 _ k' => rw [k] at k'; exact absurd k' (by decide)
    | sh2 _ k' => rw [k] at k'; exact absurd k' (by decide)
  | enc hc k e _ i1 i2 =>
    cases i1 with
    | base hb hg => exact (hB _ hb hg).2.1 k _ _ e i2
    | data hg k' => rw [k] at k'; exact absurd k' (by decide)
    | comp _ _ _ _ h => exact h _ (by rw [e]; simp)
    | sh1 _ k' => rw [k] at k'; exact absurd k' (by decide)
    | sh2 _ k' => rw [k] at k'; exact absurd k' (by decide)
  | mask hc k e _ i1 i2 =>
    cases i1 with
    | base hb hg => exact (hB _ hb hg).2.2 k _ _ e i2
    | data hg k' => rw [k] at k'; exact absurd k' (by decide)
    | comp _ _ _ _ h => exact h _ (by rw [e]; simp)
    | sh1 _ k' => rw [k] at k'; exact absurd k' (by decide)
    | sh2 _ k' => rw [k] at k'; exact absurd k' (by decide)
theorem cl_mk {B : Tm → Prop} (hB : Apart B) {t : Tm} : Cl B t ↔ Mk B t := ⟨Cl.mk hB, Mk.cl⟩
/-- No term of a kind that is taken apart. -/
theorem apart_of {B : Tm → Prop} (h : ∀ t, B t → t.kind ≠ 3 ∧ t.kind ≠ 4 ∧ t.kind ≠ 10) : Apart B := fun t ht _ =>
  ⟨fun k => absurd k (h t ht).1, fun k => absurd k (h t ht).2.1, fun k => absurd k (h t ht).2.2⟩
/-- One step back. -/
theorem mk_iff {B : Tm → Prop} {t : Tm} : Mk B t ↔ gdT t ∧ (B t ∨ t.kind = 1 ∨ (t.kind ≠ 1 ∧ t.kind ≠ 2 ∧ t.kind ≠ 9 ∧ ∀ u ∈ t.kids, Mk B u) ∨ (t.kind = 9 ∧ ∃ x y, t.kids = [x, y] ∧ (Mk B x ∧ Mk B (pubT y) ∨ Mk B y ∧ Mk B (pubT x)))) := by
  constructor
  · intro h
    refine ⟨h.gd, ?_⟩
    cases h with
    | base hb _ => exact .inl hb
    | data _ k => exact .inr (.inl k)
    | comp _ k1 k2 k9 h => exact .inr (.inr (.inl ⟨k1, k2, k9, h⟩))
    | sh1 _ k e h1 h2 => exact .inr (.inr (.inr ⟨k, _, _, e, .inl ⟨h1, h2⟩⟩))
    | sh2 _ k e h1 h2 => exact .inr (.inr (.inr ⟨k, _, _, e, .inr ⟨h1, h2⟩⟩))
  · rintro ⟨hg, h | h | ⟨k1, k2, k9, h⟩ | ⟨k, x, y, e, ⟨h1, h2⟩ | ⟨h1, h2⟩⟩⟩
    · exact .base h hg
    · exact .data hg h
    · exact .comp hg k1 k2 k9 h
    · exact .sh1 hg k e h1 h2
    · exact .sh2 hg k e h1 h2
theorem mk_atom {B : Tm → Prop} {n : Bs} {l : List Tm} : Mk B (.mk 2 n l) ↔ gdT (.mk 2 n l) ∧ B (.mk 2 n l) := by
  rw [mk_iff]; simp [Tm.kind]
theorem mk_comp {B : Tm → Prop} {k : Int} {n : Bs} {l : List Tm} (k1 : k ≠ 1) (k2 : k ≠ 2) (k9 : k ≠ 9) : Mk B (.mk k n l) ↔ gdT (.mk k n l) ∧ (B (.mk k n l) ∨ ∀ u ∈ l, Mk B u) := by
  rw [mk_iff]; simp [Tm.kind, Tm.kids, k1, k2, k9]
theorem mk_share {B : Tm → Prop} {n : Bs} {x y : Tm} : Mk B (.mk 9 n [x, y]) ↔ gdT (.mk 9 n [x, y]) ∧ (B (.mk 9 n [x, y]) ∨ Mk B x ∧ Mk B (pubT y) ∨ Mk B y ∧ Mk B (pubT x)) := by
  rw [mk_iff]
  show _ ∧ (_ ∨ (9 : Int) = 1 ∨ ((9 : Int) ≠ 1 ∧ (9 : Int) ≠ 2 ∧ (9 : Int) ≠ 9 ∧ _) ∨ ((9 : Int) = 9 ∧ ∃ x' y', [x, y] = [x', y'] ∧ _)) ↔ _
  constructor
  · rintro ⟨hg, h | h | h | ⟨_, x', y', e, h⟩⟩
    · exact ⟨hg, .inl h⟩
    · exact absurd h (by decide)
    · exact absurd rfl h.2.2.1
    · cases e; exact ⟨hg, .inr h⟩
  · rintro ⟨hg, h | h⟩
    · exact ⟨hg, .inl h⟩
    · exact ⟨hg, .inr (.inr (.inr ⟨rfl, x, y, rfl, h⟩))⟩
theorem Mk.of {B : Tm → Prop} {k : Int} {n : Bs} {l : List Tm} (hg : gdT (.mk k n l)) (k1 : k ≠ 1) (k2 : k ≠ 2) (k9 : k ≠ 9) (h : ∀ u ∈ l, Mk B u) : Mk B (.mk k n l) := .comp hg k1 k2 k9 h
/-- When a term may be. -/
theorem gd_of {k : Int} {n : Bs} {l : List Tm} (h1 : Tm.known k = true) (h2 : (Tm.named k == !n.isEmpty) = true) (h3 : Tm.arity k < 0 ∨ (l.length : Int) = Tm.arity k) (h9 : k ≠ 9) (hl : ∀ u ∈ l, gdT u) (hd : (Tm.mk k n l).depth ≤ 60) : gdT (.mk k n l) := by
  refine ⟨txt_ne.2 ⟨(shp_mk _).2 ⟨⟨h1, h2, h3⟩, fun u hu => (txt_ne.1 (hl u hu).1).1⟩, hd⟩, ?_⟩
  rw [canT_eq]
  have e : l.map canT = l := by
    have : ∀ m : List Tm, (∀ u ∈ m, gdT u) → m.map canT = m := by
      intro m
      induction m with
      | nil => intro _; rfl
      | cons u m ih => intro h; rw [List.map_cons, (h u (List.mem_cons_self ..)).2, ih fun v hv => h v (List.mem_cons_of_mem _ hv)]
    exact this l hl
  simp only [Tm.kind, Tm.name, Tm.kids, e]
  unfold swapT
  split
  · rw [if_neg (fun h => h9 h.1)]
  · rfl
theorem gd_atom {n : Bs} (h : n ≠ []) : gdT (.mk 2 n []) := gd_of rfl (by cases n <;> simp_all [Tm.named]) (.inr rfl) (by decide) (fun u h => (by cases h)) (by simp [Tm.depth, Tm.depths])
theorem gd_data {n : Bs} (h : n ≠ []) : gdT (.mk 1 n []) := gd_of rfl (by cases n <;> simp_all [Tm.named]) (.inr rfl) (by decide) (fun u h => (by cases h)) (by simp [Tm.depth, Tm.depths])
theorem can_kind (t : Tm) : (canT t).kind = t.kind := by rw [canT_eq]; exact (swapT_kind _ _ _).1
theorem fr_kind {l : List Tm} {t : Tm} (h : Fr l t) : ∃ v ∈ l, v.kind = t.kind := by
  obtain ⟨v, hv, rfl⟩ := h
  exact ⟨v, hv, (can_kind v).symm⟩
theorem knT_true {l : List Tm} {t : Tm} (hc : canT t = t) (h : Mk (Fr l) t) : knT l t = true := by
  rw [knT_iff, hc]; exact h.cl
theorem knT_false {l : List Tm} {t : Tm} (hc : canT t = t) (ha : Apart (Fr l)) (h : ¬ Mk (Fr l) t) : knT l t = false := by
  rw [← Bool.not_eq_true, knT_iff, hc]; exact fun hk => h (hk.mk ha)
theorem apart_l {l : List Tm} (h : ∀ v ∈ l, v.kind ≠ 3 ∧ v.kind ≠ 4 ∧ v.kind ≠ 10) : Apart (Fr l) := apart_of fun t ht => by
  obtain ⟨v, hv, e⟩ := fr_kind ht
  rw [← e]; exact h v hv
theorem knowsL_ok {l : List Tm} {t : Tm} {L : List PV} {v : Bool} (hL : L = tmvs l) (hv : knT l t = v) (hf : ∀ t ∈ l, Fit t) (hw : ∀ t ∈ l, wt t ≤ 1000000000) (hs : Tm.sizes l ≤ 2000) (hl : l.length ≤ 2000) (ft : Fit t) (ht : wt t ≤ 1000000000) :
    K true 10 [.p (.lst L), tv t] (.pv (.bool v)) := by
  rw [hL, ← hv]; exact knowsT_ok l t hf hw hs hl ft ht
theorem canT_mk1 (k : Int) (n : Bs) (x : Tm) : canT (.mk k n [x]) = .mk k n [canT x] := by rw [canT_eq]; simp [Tm.kind, Tm.name, Tm.kids, swapT]
theorem canT_atom (k : Int) (n : Bs) : canT (.mk k n []) = .mk k n [] := by rw [canT_eq]; simp [Tm.kind, Tm.name, Tm.kids, swapT]
theorem gd_kdf {x : Tm} {n : Bs} (hn : n ≠ []) (hx : gdT x) (hd : x.depth ≤ 59) : gdT (kdfT x n) :=
  gd_of rfl (by cases n <;> simp_all [Tm.named]) (.inr rfl) (by decide) (by simpa using hx) (by simp only [Tm.depth, Tm.depths]; omega)
theorem gd_hash {x : Tm} (hx : gdT x) (hd : x.depth ≤ 59) : gdT (hashT x) :=
  gd_of rfl rfl (.inr rfl) (by decide) (by simpa using hx) (by simp only [Tm.depth, Tm.depths]; omega)
theorem gd_pair {l : List Tm} (hx : ∀ x ∈ l, gdT x) (hd : Tm.depths l ≤ 59) : gdT (pairT l) :=
  gd_of rfl rfl (.inl (by decide)) (by decide) hx (by simp only [Tm.depth]; omega)
theorem fr_one {a t : Tm} (h : Fr [a] t) : t = canT a := by
  obtain ⟨v, hv, rfl⟩ := h
  rw [List.mem_singleton.1 hv]
end Go.Sl
