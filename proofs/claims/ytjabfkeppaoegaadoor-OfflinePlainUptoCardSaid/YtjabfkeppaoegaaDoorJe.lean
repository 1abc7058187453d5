/- Layer 9 in plain theory: what a frame is taken apart into; what a test is. -/
import Derived.Test.YtjabfkeppaoegaaDoorJd
set_option linter.unusedVariables false
set_option linter.unusedSimpArgs false
namespace Go.Sl
open Go Go.Vc Go.Proofs Go.RowKit

/-- What is taken out of what was sent. -/
inductive An (B : Tm → Prop) : Tm → Prop where
  | base {t : Tm} : B t → gdT t → An B t
  | pair {t u : Tm} : An B t → t.kind = 3 → u ∈ t.kids → An B u
  | enc {t x y : Tm} : An B t → t.kind = 4 → t.kids = [x, y] → Cl B x → An B y
  | mask {t x y : Tm} : An B t → t.kind = 10 → t.kids = [x, y] → Cl B y → An B x
theorem An.cl {B : Tm → Prop} {t : Tm} (h : An B t) : Cl B t := by
  induction h with
  | base hb hg => exact .base hb hg
  | pair _ k hu ih => exact .pair ih k hu
  | enc _ k e hx ih => exact .enc ih k e hx
  | mask _ k e hy ih => exact .mask ih k e hy
theorem An.mono {B A : Tm → Prop} {t : Tm} (hB : ∀ u, B u → A u) (h : An B t) : An A t := by
  induction h with
  | base hb hg => exact .base (hB _ hb) hg
  | pair _ k hu ih => exact .pair ih k hu
  | enc _ k e hx ih => exact .enc ih k e (hx.mono hB)
  | mask _ k e hy ih => exact .mask ih k e (hy.mono hB)
structure Sa (B : Tm → Prop) (k : Kn) : Prop where
  an : ∀ t ∈ k.l, An B t
  s : k.s = k.l.map txtT
theorem Sa.sd {B : Tm → Prop} {k : Kn} (h : Sa B k) : Sd B k := ⟨fun t ht => (h.an t ht).cl, h.s⟩
theorem Sa.add {B : Tm → Prop} {k : Kn} (h : Sa B k) {t : Tm} (ht : txtT (canT t) ≠ [] → An B (canT t)) : Sa B (addT k t) := by
  unfold addT
  split
  · exact h
  · rename_i hn
    simp only [not_or] at hn
    refine ⟨fun u hu => ?_, by simp [h.s]⟩
    rcases List.mem_append.1 hu with hu | hu
    · exact h.an u hu
    · rw [List.mem_singleton.1 hu]; exact ht hn.1
theorem Sa.adds {B : Tm → Prop} : ∀ (m : List Tm) {k : Kn}, Sa B k → (∀ t ∈ m, txtT (canT t) ≠ [] → An B (canT t)) → Sa B (m.foldl addT k)
  | [], k, h, _ => h
  | t :: m, k, h, hm => Sa.adds m (h.add (hm t (List.mem_cons_self ..))) fun u hu => hm u (List.mem_cons_of_mem _ hu)
theorem Sa.more {B : Tm → Prop} {k : Kn} (h : Sa B k) : ∀ u ∈ moreT k.s k.l, An B u := by
  intro u hu
  obtain ⟨t, ht, hu⟩ := List.mem_flatMap.1 hu
  have hc := h.an t ht
  have hg := hc.cl.gd
  unfold givesT at hu
  split at hu
  · rename_i n g e
    split at hu
    · rename_i hn
      unfold wayT at e
      split at e
      · rename_i k3
        cases e
        exact .pair hc k3 hu
      · split at e
        · rename_i k4
          obtain ⟨x, y, ek⟩ := kids2 hg (.inl k4)
          rw [ek] at e
          cases e
          simp only [List.all_cons, List.all_nil, Bool.and_true] at hn
          simp only [List.mem_singleton] at hu
          subst hu
          have hx : x ∈ t.kids := by rw [ek]; simp
          refine .enc hc k4 ek (mk_cl h.sd.cl _ x (Nat.le_refl _) (gd_kid hg hx).2 (by rw [← h.s]; exact hn))
        · split at e
          · rename_i k10
            obtain ⟨x, y, ek⟩ := kids2 hg (.inr (.inr (.inr k10)))
            rw [ek] at e
            cases e
            simp only [List.all_cons, List.all_nil, Bool.and_true] at hn
            simp only [List.mem_singleton] at hu
            subst hu
            have hy : y ∈ t.kids := by rw [ek]; simp
            refine .mask hc k10 ek (mk_cl h.sd.cl _ y (Nat.le_refl _) (gd_kid hg hy).2 (by rw [← h.s]; exact hn))
          · cases e
    · cases hu
  · cases hu
theorem Sa.step {B : Tm → Prop} {k : Kn} (h : Sa B k) : Sa B (stepK k) := by
  have h' : Sa B ⟨k.l, k.s, dIn k.l k.s k.l k.d⟩ := ⟨h.an, h.s⟩
  refine Sa.adds _ h' fun t ht _ => ?_
  have := h.more t ht
  rw [this.cl.gd.2]; exact this
theorem Sa.of (l : List Tm) : Sa (Fr l) (ofT l) :=
  Sa.adds l (k := ⟨[], [], []⟩) ⟨fun t h => (by cases h), rfl⟩ fun t ht hr => .base ⟨t, ht, rfl⟩ ⟨hr, can_can t⟩
theorem Sa.it {B : Tm → Prop} {k : Kn} (h : Sa B k) : ∀ j, Sa B (itK k j)
  | 0 => h
  | j + 1 => (Sa.it h j).step
theorem an_iff {l : List Tm} (h : Frm l) {t : Tm} : t ∈ anT l ↔ An (Fr l) t := by
  constructor
  · intro ht
    obtain ⟨m, hm, _⟩ := h.end.k.2
    have := (Sa.of l).it (m + 1)
    rw [← hm] at this
    exact this.an t ht
  · intro ht
    have hf := h.fin
    induction ht with
    | base hb hg =>
      obtain ⟨v, hv, rfl⟩ := hb
      exact hf.base v hv hg.1
    | pair _ k hu ih => exact an_pair h ih k hu
    | enc _ k e hx ih =>
      refine hf.shut _ ih _ ?_
      have i2 := (hf.iff hx.gd.2).2 hx
      unfold givesT wayT
      rw [if_neg (by rw [k]; decide), if_pos k, e]
      simp [i2]
    | mask _ k e hy ih =>
      refine hf.shut _ ih _ ?_
      have i2 := (hf.iff hy.gd.2).2 hy
      unfold givesT wayT
      rw [if_neg (by rw [k]; decide), if_neg (by rw [k]; decide), if_pos k, e]
      simp [i2]
theorem mkC_iff {l : List Tm} (h : Frm l) {u : Tm} (g : gdT u) : mkC (ofT (anT l)).s u = true ↔ Cl (Fr l) u := by
  rw [mkC, g.2, an_s h]; exact h.fin.iff g.2
/-- What makes a term a test: what was known, what is known with the secret, what is there without. -/
inductive Tst (K0 K1 A0 : Tm → Prop) (t : Tm) : Prop where
  | enc {x y : Tm} : t.kind = 4 → t.kids = [x, y] → K1 x → ¬ K0 x → Tst K0 K1 A0 t
  | part : (t.kind = 5 ∨ t.kind = 6 ∨ t.kind = 7 ∨ t.kind = 8) → A0 t → (∀ u ∈ t.kids, K1 u) → ¬ (∀ u ∈ t.kids, K0 u) → Tst K0 K1 A0 t
  | share {x y : Tm} : t.kind = 9 → t.kids = [x, y] → A0 t → (K1 x ∧ K1 (pubT y) ∨ K1 y ∧ K1 (pubT x)) → ¬ (K0 x ∧ K0 (pubT y) ∨ K0 y ∧ K0 (pubT x)) → Tst K0 K1 A0 t
  | mask {x y : Tm} : t.kind = 10 → t.kids = [x, y] → A0 t → K0 x → K1 y → ¬ K0 y → Tst K0 K1 A0 t
theorem tstB_iff {l : List Tm} {s : Tm} (h : FrmS l s) {t : Tm} (g : gdT t) : tstB (vwT l (canT s)) t = true ↔ Tst (Cl (Fr l)) (Cl (Fr (l ++ [canT s]))) (An (Fr l)) t := by
  have k0 : ∀ {u}, gdT u → (mkC (vwT l (canT s)).s0 u = true ↔ Cl (Fr l) u) := fun g => mkC_iff h.f0 g
  have k1 : ∀ {u}, gdT u → (mkC (vwT l (canT s)).s1 u = true ↔ Cl (Fr (l ++ [canT s])) u) := fun g => mkC_iff h.f1 g
  have a0 : (decide (txtT t ∈ (vwT l (canT s)).th) = true) ↔ An (Fr l) t := by
    rw [decide_eq_true_iff, ← an_iff h.f0]
    exact mem_txt (fun u hu => (an_gd h.f0 u hu).1) g.1
  generalize vwT l (canT s) = V at k0 k1 a0 ⊢
  have gain1 : ∀ x, gdT x → (gainB V [[x]] = true ↔ Cl (Fr (l ++ [canT s])) x ∧ ¬ Cl (Fr l) x) := fun x gx => by
    simp only [gainB, List.any_cons, List.any_nil, List.all_cons, List.all_nil, Bool.and_true, Bool.or_false, Bool.and_eq_true, Bool.not_eq_true', ← Bool.not_eq_true, k0 gx, k1 gx]
  by_cases e4 : t.kind = 4
  · obtain ⟨x, y, e⟩ := kids2 g (.inl e4)
    have gx := gd_kid g (u := x) (by rw [e]; simp)
    have : tstB V t = gainB V [[x]] := by unfold tstB; rw [if_pos e4, e]
    rw [this, gain1 x gx]
    constructor
    · exact fun h => .enc e4 e h.1 h.2
    · intro h
      cases h with
      | enc k e' h1 h2 => rw [e] at e'; cases e'; exact ⟨h1, h2⟩
      | part k => omega
      | share k => omega
      | mask k => omega
  by_cases e5 : t.kind = 5 ∨ t.kind = 6 ∨ t.kind = 7 ∨ t.kind = 8
  · have : tstB V t = partsB V t := by unfold tstB; rw [if_neg e4, if_pos e5]
    have c0 : (t.kids.all (mkC V.s0) = true) ↔ ∀ u ∈ t.kids, Cl (Fr l) u := by
      rw [List.all_eq_true]; exact ⟨fun h u hu => (k0 (gd_kid g hu)).1 (h u hu), fun h u hu => (k0 (gd_kid g hu)).2 (h u hu)⟩
    have c1 : (t.kids.all (mkC V.s1) = true) ↔ ∀ u ∈ t.kids, Cl (Fr (l ++ [canT s])) u := by
      rw [List.all_eq_true]; exact ⟨fun h u hu => (k1 (gd_kid g hu)).1 (h u hu), fun h u hu => (k1 (gd_kid g hu)).2 (h u hu)⟩
    rw [this, partsB, Bool.and_eq_true, a0]
    simp only [gainB, List.any_cons, List.any_nil, Bool.or_false, Bool.and_eq_true, Bool.not_eq_true', ← Bool.not_eq_true, c0, c1]
    constructor
    · exact fun h => .part e5 h.1 h.2.1 h.2.2
    · intro h
      cases h with
      | enc k => omega
      | part k a h1 h2 => exact ⟨a, h1, h2⟩
      | share k => omega
      | mask k => omega
  by_cases e9 : t.kind = 9
  · obtain ⟨x, y, e⟩ := kids2 g (.inr (.inr (.inl e9)))
    have hx : x ∈ t.kids := by rw [e]; simp
    have hy : y ∈ t.kids := by rw [e]; simp
    have gx := gd_kid g hx
    have gy := gd_kid g hy
    have px := gd_pub g hx
    have py := gd_pub g hy
    have : tstB V t = shareB V t x y := by unfold tstB; rw [if_neg e4, if_neg e5, if_pos e9, e]
    rw [this, shareB, Bool.and_eq_true, a0]
    simp only [gainB, List.any_cons, List.any_nil, List.all_cons, List.all_nil, Bool.and_true, Bool.or_false, Bool.and_eq_true, Bool.or_eq_true, Bool.not_eq_true', ← Bool.not_eq_true, k0 gx, k0 gy, k0 px, k0 py, k1 gx, k1 gy, k1 px, k1 py]
    constructor
    · exact fun h => .share e9 e h.1 h.2.1 h.2.2
    · intro h
      cases h with
      | enc k => omega
      | part k => omega
      | share k e' a h1 h2 => rw [e] at e'; cases e'; exact ⟨a, h1, h2⟩
      | mask k => omega
  by_cases e10 : t.kind = 10
  · obtain ⟨x, y, e⟩ := kids2 g (.inr (.inr (.inr e10)))
    have gx := gd_kid g (u := x) (by rw [e]; simp)
    have gy := gd_kid g (u := y) (by rw [e]; simp)
    have : tstB V t = maskB V t x y := by unfold tstB; rw [if_neg e4, if_neg e5, if_neg e9, if_pos e10, e]
    rw [this, maskB, Bool.and_eq_true, a0, Bool.and_eq_true, gain1 y gy, k0 gx]
    constructor
    · exact fun h => .mask e10 e h.1 h.2.1 h.2.2.1 h.2.2.2
    · intro h
      cases h with
      | enc k => omega
      | part k => omega
      | share k => omega
      | mask k e' a h1 h2 h3 => rw [e] at e'; cases e'; exact ⟨a, h1, h2, h3⟩
  · have : tstB V t = false := by unfold tstB; rw [if_neg e4, if_neg e5, if_neg e9, if_neg e10]
    rw [this]
    refine ⟨fun h => (by cases h), fun h => ?_⟩
    cases h with
    | enc k => exact absurd k e4
    | part k => exact absurd k e5
    | share k => exact absurd k e9
    | mask k => exact absurd k e10
/-- Is there a test? -/
def HasT (l : List Tm) (c : Tm) : Prop := ∃ t, An (Fr (l ++ [c])) t ∧ Tst (Cl (Fr l)) (Cl (Fr (l ++ [c]))) (An (Fr l)) t
inductive TestIs (l : List Tm) (c : Tm) : Tm × Bool → Prop where
  | known : gdT c → Cl (Fr l) c → TestIs l c (c, true)
  | test {t : Tm} : gdT c → ¬ Cl (Fr l) c → An (Fr (l ++ [c])) t → Tst (Cl (Fr l)) (Cl (Fr (l ++ [c]))) (An (Fr l)) t → TestIs l c (t, true)
  | none : gdT c → ¬ Cl (Fr l) c → ¬ HasT l c → TestIs l c (noTm, false)
  | no : ¬ gdT c → TestIs l c (noTm, false)
theorem test_is {l : List Tm} {s : Tm} (h : FrmS l s) : TestIs l (canT s) (testT l s) := by
  unfold testT
  by_cases hr : rightT (canT s) = true
  · have g := gd_right hr
    rw [if_pos hr]
    by_cases hm : mkC (ofT (anT l)).s (canT s) = true
    · rw [if_pos hm]; exact .known g ((mkC_iff h.f0 g).1 hm)
    · rw [if_neg hm]
      have hn : ¬ Cl (Fr l) (canT s) := fun hc => hm ((mkC_iff h.f0 g).2 hc)
      cases e : (anT (l ++ [canT s])).find? (tstB (vwT l (canT s))) with
      | some t =>
        have h1 := List.find?_some e
        have h2 := List.mem_of_find?_eq_some e
        exact .test g hn ((an_iff h.f1).1 h2) ((tstB_iff h (an_gd h.f1 t h2)).1 h1)
      | none =>
        refine .none g hn fun ⟨t, h1, h2⟩ => ?_
        rw [List.find?_eq_none] at e
        have h3 := (an_iff h.f1).2 h1
        exact e t h3 ((tstB_iff h (an_gd h.f1 t h3)).2 h2)
  · rw [if_neg hr]; exact .no fun g => hr (right_gd g)
theorem TestIs.iff {l : List Tm} {c : Tm} {x : Tm × Bool} (h : TestIs l c x) : x.2 = true ↔ gdT c ∧ (Cl (Fr l) c ∨ HasT l c) := by
  cases h with
  | known g k => exact ⟨fun _ => ⟨g, .inl k⟩, fun _ => rfl⟩
  | test g k a t => exact ⟨fun _ => ⟨g, .inr ⟨_, a, t⟩⟩, fun _ => rfl⟩
  | none g k n => exact ⟨fun h => (by cases h), fun h => absurd h.2 (fun h => h.elim k n)⟩
  | no g => exact ⟨fun h => (by cases h), fun h => absurd h.1 g⟩
end Go.Sl
namespace Go.Sl
open Go Go.Vc Go.Proofs Go.RowKit

/-- That something does not stand in a term. -/
structure FreeP (P : Tm → Prop) : Prop where
  kid : ∀ {t u : Tm}, P t → u ∈ t.kids → P u
  up : ∀ {t : Tm}, t.kind ≠ 2 → (∀ u ∈ t.kids, P u) → P t
theorem FreeP.pub {P : Tm → Prop} (h : FreeP P) {y : Tm} : P (pubT y) ↔ P y :=
  ⟨fun hp => h.kid hp (by simp [Tm.kids]), fun hy => h.up (by simp [Tm.kind]) (by simpa [Tm.kids] using hy)⟩
theorem free_one (s : Bs) : FreeP (fun u => frA s ∉ inT u) := ⟨fun h hu => free_kid h hu, fun k h => free_kids k h⟩
theorem free_two (s s' : Bs) : FreeP (fun u => frA s ∉ inT u ∧ frA s' ∉ inT u) :=
  ⟨fun h hu => ⟨free_kid h.1 hu, free_kid h.2 hu⟩, fun k h => ⟨free_kids k fun u hu => (h u hu).1, free_kids k fun u hu => (h u hu).2⟩⟩
section
variable {P : Tm → Prop} {L : List Tm} {F : Tm → Prop}
theorem clP {B : Tm → Prop} (hP : FreeP P) (hB : ∀ u, B u → gdT u → P u) {t : Tm} (h : Cl B t) : P t := by
  induction h with
  | base hb hg => exact hB _ hb hg
  | data hg k => exact hP.up (by rw [k]; decide) (by rw [kids0 hg (.inl k)]; simp)
  | comp _ _ k2 _ _ ih => exact hP.up k2 ih
  | sh1 _ k e _ _ i1 i2 =>
    refine hP.up (by rw [k]; decide) ?_
    rw [e]; simp only [List.mem_cons, List.not_mem_nil, or_false, forall_eq_or_imp, forall_eq]
    exact ⟨i1, hP.pub.1 i2⟩
  | sh2 _ k e _ _ i1 i2 =>
    refine hP.up (by rw [k]; decide) ?_
    rw [e]; simp only [List.mem_cons, List.not_mem_nil, or_false, forall_eq_or_imp, forall_eq]
    exact ⟨hP.pub.1 i2, i1⟩
  | pair _ _ hu ih => exact hP.kid ih hu
  | enc _ _ e _ ih _ => exact hP.kid ih (by rw [e]; simp)
  | mask _ _ e _ ih _ => exact hP.kid ih (by rw [e]; simp)
theorem mkP (hP : FreeP P) (hF : ∀ u, F u → ¬ P u) {t : Tm} (h : Mk (BF L F) t) : P t → Cl (Fr L) t := by
  induction h with
  | base hb hg =>
    intro hf
    rcases hb with hb | hb
    · exact hb
    · exact absurd hf (hF _ hb)
  | data hg k => exact fun _ => .data hg k
  | comp hg k1 k2 k9 _ ih => exact fun hf => .comp hg k1 k2 k9 fun u hu => ih u hu (hP.kid hf hu)
  | sh1 hg k e _ _ i1 i2 => exact fun hf => .sh1 hg k e (i1 (hP.kid hf (by rw [e]; simp))) (i2 (hP.pub.2 (hP.kid hf (by rw [e]; simp))))
  | sh2 hg k e _ _ i1 i2 => exact fun hf => .sh2 hg k e (i1 (hP.kid hf (by rw [e]; simp))) (i2 (hP.pub.2 (hP.kid hf (by rw [e]; simp))))
def ApF (L : List Tm) (F : Tm → Prop) : Prop := ∀ t, F t → gdT t → (t.kind = 3 → ∀ u ∈ t.kids, Mk (BF L F) u) ∧ (t.kind = 4 → ∀ x y, t.kids = [x, y] → Mk (BF L F) x → Mk (BF L F) y) ∧ (t.kind = 10 → ∀ x y, t.kids = [x, y] → Mk (BF L F) y → Mk (BF L F) x)
theorem apP (hP : FreeP P) (hL : ∀ u, Fr L u → P u) (hF : ∀ u, F u → ¬ P u) (hA : ApF L F) : Apart (BF L F) := by
  intro t ht hg
  rcases ht with hc | hf
  · have hfr : P t := clP hP (fun u hu _ => hL u hu) hc
    have b : ∀ u, Cl (Fr L) u → Mk (BF L F) u := fun u h => .base (.inl h) h.gd
    refine ⟨fun k u hu => b u (.pair hc k hu), fun k x y e h => b y (.enc hc k e (mkP hP hF h (hP.kid hfr (by rw [e]; simp)))), fun k x y e h => b x (.mask hc k e (mkP hP hF h (hP.kid hfr (by rw [e]; simp))))⟩
  · exact hA t hf hg
theorem frP (hP : FreeP P) (hL : ∀ u, Fr L u → P u) (hF : ∀ u, F u → ¬ P u) (hA : ApF L F) {B : Tm → Prop} (hM : ∀ u, B u → gdT u → Mk (BF L F) u) {t : Tm} (h : Cl B t) : Mk (BF L F) t :=
  (h.cut fun u hu hg => (hM u hu hg).cl).mk (apP hP hL hF hA)
/-- What is known of what stands nowhere: an atom just if it was told. -/
theorem no_atom (hP : FreeP P) (hL : ∀ u, Fr L u → P u) {n : Bs} (h1 : ¬ P (frA n)) (h2 : ¬ F (frA n)) : ¬ Mk (BF L F) (frA n) := fun h => by
  rcases (mk_atom.1 h).2 with h | h
  · exact h1 (clP hP (fun u hu _ => hL u hu) h)
  · exact h2 h
theorem no_comp (hP : FreeP P) (hL : ∀ u, Fr L u → P u) {k : Int} {n : Bs} {l : List Tm} (k1 : k ≠ 1) (k2 : k ≠ 2) (k9 : k ≠ 9) (h1 : ¬ P (.mk k n l)) (h2 : ¬ F (.mk k n l)) (h3 : ¬ ∀ u ∈ l, Mk (BF L F) u) : ¬ Mk (BF L F) (.mk k n l) := fun h => by
  rcases ((mk_comp k1 k2 k9).1 h).2 with (h | h) | h
  · exact h1 (clP hP (fun u hu _ => hL u hu) h)
  · exact h2 h
  · exact h3 h
/-- No test where what is gained stands nowhere. -/
theorem no_tst (hP : FreeP P) {K0 K1 A0 : Tm → Prop} (h : ∀ u, P u → K1 u → K0 u) {t : Tm} (ht : P t) : ¬ Tst K0 K1 A0 t := by
  intro hT
  cases hT with
  | enc k e h1 h2 => exact h2 (h _ (hP.kid ht (by rw [e]; simp)) h1)
  | part k a h1 h2 => exact h2 fun u hu => h u (hP.kid ht hu) (h1 u hu)
  | share k e a h1 h2 =>
    rename_i x y
    have px : P x := hP.kid ht (by rw [e]; simp)
    have py : P y := hP.kid ht (by rw [e]; simp)
    refine h2 (h1.imp (fun h1 => ⟨h _ px h1.1, h _ (hP.pub.2 py) h1.2⟩) (fun h1 => ⟨h _ py h1.1, h _ (hP.pub.2 px) h1.2⟩))
  | mask k e a h1 h2 h3 => exact h3 (h _ (hP.kid ht (by rw [e]; simp)) h2)
end
theorem kA {s : Bs} {n : Int} (h : (2 : Int) ≠ n) : (frA s).kind ≠ n := h
theorem tst_kind {K0 K1 A0 : Tm → Prop} {t : Tm} (h : Tst K0 K1 A0 t) : 4 ≤ t.kind := by
  cases h with
  | enc k => omega
  | part k => omega
  | share k => omega
  | mask k => omega
theorem atom_free {s n : Bs} (h : s ≠ n) : frA s ∉ inT (frA n) := by
  simp only [inT, inTs, List.mem_singleton]
  intro e
  injection e with _ e _
  exact h e
theorem frL {L : List Tm} {P : Tm → Prop} (h : ∀ v ∈ L, P v) (hc : ∀ v, P v → P (canT v)) : ∀ u, Fr L u → P u := by
  rintro u ⟨v, hv, rfl⟩
  exact hc v (h v hv)
theorem can_two {s s' : Bs} (v : Tm) (h : frA s ∉ inT v ∧ frA s' ∉ inT v) : frA s ∉ inT (canT v) ∧ frA s' ∉ inT (canT v) := ⟨fun hc => h.1 (in_can hc), fun hc => h.2 (in_can hc)⟩
theorem can_one {s : Bs} (v : Tm) (h : frA s ∉ inT v) : frA s ∉ inT (canT v) := fun hc => h (in_can hc)
/-- What can not be taken apart. -/
theorem apf_of {L : List Tm} {F : Tm → Prop} (h : ∀ t, F t → t.kind ≠ 3 ∧ t.kind ≠ 4 ∧ t.kind ≠ 10) : ApF L F := fun t ht _ =>
  ⟨fun k => absurd k (h t ht).1, fun k => absurd k (h t ht).2.1, fun k => absurd k (h t ht).2.2⟩
/-- What stands nowhere can not be tested. -/
theorem fresh_not {L : List Tm} {s : Bs} (hs : s ≠ []) (hL : ∀ v ∈ L, frA s ∉ inT v) : ¬ Cl (Fr L) (frA s) ∧ ¬ HasT L (frA s) := by
  have g : gdT (frA s) := gd_atom hs
  have hP := free_one s
  have hLP : ∀ u, Fr L u → frA s ∉ inT u := frL hL (fun v h => can_one v h)
  have hF : ∀ u, u = frA s → ¬ (frA s ∉ inT u) := fun u e h => h (by rw [e]; exact inT_self _)
  have hA : ApF L (fun u => u = frA s) := apf_of fun t e => by subst e; exact ⟨kA (by decide), kA (by decide), kA (by decide)⟩
  have hM : ∀ u, Fr (L ++ [frA s]) u → gdT u → Mk (BF L fun u => u = frA s) u := fun u hu hg => by
    rcases fr_app.1 hu with hu | hu
    · exact .base (.inl (.base hu hg)) hg
    · have := fr_one hu; rw [g.2] at this; exact .base (.inr this) hg
  have hK : ∀ u, frA s ∉ inT u → Cl (Fr (L ++ [frA s])) u → Cl (Fr L) u := fun u hu hc => mkP (P := fun u => frA s ∉ inT u) hP hF (frP hP hLP hF hA hM hc) hu
  refine ⟨fun h => clP hP (fun u hu _ => hLP u hu) h (inT_self _), fun ⟨t, h1, h2⟩ => ?_⟩
  have key : frA s ∉ inT t ∨ t = frA s := by
    clear h2
    induction h1 with
    | base hb hg =>
      rcases fr_app.1 hb with hb | hb
      · exact .inl (hLP _ hb)
      · have := fr_one hb; rw [g.2] at this; exact .inr this
    | pair _ k hu ih =>
      rcases ih with ih | ih
      · exact .inl (free_kid ih hu)
      · rw [ih] at k; exact absurd k (kA (by decide))
    | enc _ k e _ ih =>
      rcases ih with ih | ih
      · exact .inl (free_kid ih (by rw [e]; simp))
      · rw [ih] at k; exact absurd k (kA (by decide))
    | mask _ k e _ ih =>
      rcases ih with ih | ih
      · exact .inl (free_kid ih (by rw [e]; simp))
      · rw [ih] at k; exact absurd k (kA (by decide))
  rcases key with h | h
  · exact no_tst (P := fun u => frA s ∉ inT u) hP hK h h2
  · subst h
    exact absurd (tst_kind h2) (show ¬ (4 : Int) ≤ 2 by decide)
end Go.Sl
namespace Go.Sl
open Go Go.Vc Go.Proofs Go.RowKit

abbrev maskT (x y : Tm) : Tm := .mk 10 [] [x, y]
theorem gd_maskT {x y : Tm} (hx : gdT x) (hy : gdT y) (h1 : x.depth ≤ 59) (h2 : y.depth ≤ 59) : gdT (maskT x y) :=
  gd_of rfl rfl (.inr rfl) (by decide) (by simp [hx, hy]) (by simp only [Tm.depth, Tm.depths]; omega)
/-- A secret and a fresh atom, which stand nowhere. -/
structure Two (L : List Tm) (s s' : Bs) : Prop where
  hs : s ≠ []
  hs' : s' ≠ []
  ne : s ≠ s'
  hL : ∀ v ∈ L, frA s ∉ inT v ∧ frA s' ∉ inT v
section
variable {L : List Tm} {s s' n : Bs}
theorem dA (s : Bs) : (frA s).depth = 1 := by simp [Tm.depth, Tm.depths]
theorem Two.ga (h : Two L s s') : gdT (frA s) := gd_atom h.hs
theorem Two.gx (h : Two L s s') : gdT (frA s') := gd_atom h.hs'
theorem Two.gp (h : Two L s s') : gdT (pubT (frA s')) := gd_pubT h.gx (by rw [dA]; decide)
theorem Two.gw (h : Two L s s') (hn : n ≠ []) : gdT (kdfT (frA s) n) := gd_kdf hn h.ga (by rw [dA]; decide)
theorem Two.gm (h : Two L s s') (hn : n ≠ []) : gdT (maskT (pubT (frA s')) (kdfT (frA s) n)) := gd_maskT h.gp (h.gw hn) (by simp [Tm.depth, Tm.depths]) (by simp [Tm.depth, Tm.depths])
theorem Two.fr (h : Two L s s') : ∀ u, Fr L u → frA s ∉ inT u ∧ frA s' ∉ inT u := frL h.hL can_two
abbrev P2 (s s' : Bs) (u : Tm) : Prop := frA s ∉ inT u ∧ frA s' ∉ inT u
theorem nP_a : ¬ P2 s s' (frA s) := fun h => h.1 (inT_self _)
theorem nP_x : ¬ P2 s s' (frA s') := fun h => h.2 (inT_self _)
theorem nP_of {t u : Tm} (hu : u ∈ t.kids) (h : ¬ P2 s s' u) : ¬ P2 s s' t := fun hp => h ((free_two s s').kid hp hu)
theorem nP_p : ¬ P2 s s' (pubT (frA s')) := nP_of (u := frA s') (by simp [Tm.kids]) nP_x
theorem nP_w : ¬ P2 s s' (kdfT (frA s) n) := nP_of (u := frA s) (by simp [Tm.kids]) nP_a
theorem nP_m : ¬ P2 s s' (maskT (pubT (frA s')) (kdfT (frA s) n)) := nP_of (u := pubT (frA s')) (by simp [Tm.kids]) nP_p
/-- What is not known: no atom, no key of the secret. -/
theorem no_w (h : Two L s s') {F : Tm → Prop} (h1 : ¬ F (frA s)) (h2 : ¬ F (kdfT (frA s) n)) : ¬ Mk (BF L F) (kdfT (frA s) n) :=
  no_comp (free_two s s') h.fr (by decide) (by decide) (by decide) nP_w h2 fun hc => no_atom (free_two s s') h.fr nP_a h1 (hc _ (List.mem_singleton.2 rfl))
theorem no_p (h : Two L s s') {F : Tm → Prop} (h1 : ¬ F (frA s')) (h2 : ¬ F (pubT (frA s'))) : ¬ Mk (BF L F) (pubT (frA s')) :=
  no_comp (free_two s s') h.fr (by decide) (by decide) (by decide) nP_p h2 fun hc => no_atom (free_two s s') h.fr nP_x h1 (hc _ (List.mem_singleton.2 rfl))
theorem fr_gone {l : List Tm} {m : Tm} (g : gdT m) {u : Tm} (h : Fr (l ++ [m]) u) : Fr l u ∨ u = m := by
  rcases fr_app.1 h with h | h
  · exact .inl h
  · have := fr_one h; rw [g.2] at this; exact .inr this
/-- Masked under the secret a fresh point is no test. -/
theorem masked_not (h : Two L s s') (hn : n ≠ []) : ¬ Cl (Fr (L ++ [maskT (pubT (frA s')) (kdfT (frA s) n)])) (frA s) ∧ ¬ HasT (L ++ [maskT (pubT (frA s')) (kdfT (frA s) n)]) (frA s) := by
  obtain ⟨m, em⟩ : ∃ m, m = maskT (pubT (frA s')) (kdfT (frA s) n) := ⟨_, rfl⟩
  have gm : gdT m := by rw [em]; exact h.gm hn
  have hP := free_two s s'
  have nm : ¬ P2 s s' m := by rw [em]; exact nP_m
  rw [← em]
  -- without the secret
  have F0 : ∀ u, u = m → ¬ P2 s s' u := fun u e => by rw [e]; exact nm
  have na0 : ¬ (fun u => u = m) (frA s) := fun e => by rw [em] at e; cases e
  have nx0 : ¬ (fun u => u = m) (frA s') := fun e => by rw [em] at e; cases e
  have nw0 : ¬ (fun u => u = m) (kdfT (frA s) n) := fun e => by rw [em] at e; cases e
  have np0 : ¬ (fun u => u = m) (pubT (frA s')) := fun e => by rw [em] at e; cases e
  have A0 : ApF L (fun u => u = m) := fun t e _ => by
    rw [e, em]
    exact ⟨fun k => absurd k (show (10 : Int) ≠ 3 by decide), fun k => absurd k (show (10 : Int) ≠ 4 by decide), fun _ x y e hy => by cases e; rw [← em] at hy; exact absurd hy (no_w h na0 nw0)⟩
  have M0 : ∀ u, Fr (L ++ [m]) u → gdT u → Mk (BF L fun u => u = m) u := fun u hu hg => by
    rcases fr_gone gm hu with hu | hu
    · exact .base (.inl (.base hu hg)) hg
    · exact .base (.inr hu) hg
  have K0 : ∀ {u}, Cl (Fr (L ++ [m])) u → Mk (BF L fun u => u = m) u := fun hc => frP hP h.fr F0 A0 M0 hc
  -- with it
  let F : Tm → Prop := fun u => u = frA s ∨ u = m ∨ u = pubT (frA s')
  have F1 : ∀ u, F u → ¬ P2 s s' u := fun u e => by
    rcases e with rfl | rfl | rfl
    · exact nP_a
    · exact nm
    · exact nP_p
  have A1 : ApF L F := fun t e _ => by
    rcases e with rfl | e | rfl
    · exact ⟨fun k => absurd k (kA (by decide)), fun k => absurd k (kA (by decide)), fun k => absurd k (kA (by decide))⟩
    · rw [e, em]
      exact ⟨fun k => absurd k (show (10 : Int) ≠ 3 by decide), fun k => absurd k (show (10 : Int) ≠ 4 by decide), fun _ x y e hy => by cases e; exact .base (.inr (.inr (.inr rfl))) h.gp⟩
    · exact ⟨fun k => absurd k (show (8 : Int) ≠ 3 by decide), fun k => absurd k (show (8 : Int) ≠ 4 by decide), fun k => absurd k (show (8 : Int) ≠ 10 by decide)⟩
  have M1 : ∀ u, Fr (L ++ [m] ++ [frA s]) u → gdT u → Mk (BF L F) u := fun u hu hg => by
    rcases fr_gone h.ga hu with hu | hu
    · rcases fr_gone gm hu with hu | hu
      · exact .base (.inl (.base hu hg)) hg
      · exact .base (.inr (.inr (.inl hu))) hg
    · exact .base (.inr (.inl hu)) hg
  have K1 : ∀ u, P2 s s' u → Cl (Fr (L ++ [m] ++ [frA s])) u → Cl (Fr (L ++ [m])) u := fun u hu hc =>
    (mkP hP F1 (frP hP h.fr F1 A1 M1 hc) hu).mono fun v hv => fr_app.2 (.inl hv)
  have np : ¬ Cl (Fr (L ++ [m])) (pubT (frA s')) := fun hc => no_p h nx0 np0 (K0 hc)
  refine ⟨fun hc => no_atom hP h.fr nP_a na0 (K0 hc), fun ⟨t, h1, h2⟩ => ?_⟩
  have key : P2 s s' t ∨ F t := by
    clear h2
    induction h1 with
    | base hb hg =>
      rcases fr_gone h.ga hb with hb | hb
      · rcases fr_gone gm hb with hb | hb
        · exact .inl (h.fr _ hb)
        · exact .inr (.inr (.inl hb))
      · exact .inr (.inl hb)
    | pair _ k hu ih =>
      rcases ih with ih | rfl | ih | rfl
      · exact .inl (hP.kid ih hu)
      · exact absurd k (kA (by decide))
      · rw [ih, em] at k; exact absurd k (show (10 : Int) ≠ 3 by decide)
      · exact absurd k (show (8 : Int) ≠ 3 by decide)
    | enc _ k e _ ih =>
      rcases ih with ih | rfl | ih | rfl
      · exact .inl (hP.kid ih (by rw [e]; simp))
      · exact absurd k (kA (by decide))
      · rw [ih, em] at k; exact absurd k (show (10 : Int) ≠ 4 by decide)
      · exact absurd k (show (8 : Int) ≠ 4 by decide)
    | mask _ k e _ ih =>
      rcases ih with ih | rfl | ih | rfl
      · exact .inl (hP.kid ih (by rw [e]; simp))
      · exact absurd k (kA (by decide))
      · rw [ih, em] at e; cases e; exact .inr (.inr (.inr rfl))
      · exact absurd k (show (8 : Int) ≠ 10 by decide)
  rcases key with ht | rfl | ht | rfl
  · exact no_tst hP K1 ht h2
  · exact absurd (tst_kind h2) (show ¬ (4 : Int) ≤ 2 by decide)
  · rw [ht, em] at h2
    cases h2 with
    | enc k => exact absurd k (show (10 : Int) ≠ 4 by decide)
    | part k => exact absurd k (show ¬ ((10 : Int) = 5 ∨ (10 : Int) = 6 ∨ (10 : Int) = 7 ∨ (10 : Int) = 8) by decide)
    | share k => exact absurd k (show (10 : Int) ≠ 9 by decide)
    | mask k e a hx => cases e; rw [← em] at hx; exact np hx
  · cases h2 with
    | enc k => exact absurd k (show (8 : Int) ≠ 4 by decide)
    | part k a => exact np a.cl
    | share k => exact absurd k (show (8 : Int) ≠ 9 by decide)
    | mask k => exact absurd k (show (8 : Int) ≠ 10 by decide)
/-- With the point sent it is one. -/
theorem masked_has (h : Two L s s') (hn : n ≠ []) : HasT (L ++ [maskT (pubT (frA s')) (kdfT (frA s) n), pubT (frA s')]) (frA s) := by
  obtain ⟨m, em⟩ : ∃ m, m = maskT (pubT (frA s')) (kdfT (frA s) n) := ⟨_, rfl⟩
  have gm : gdT m := by rw [em]; exact h.gm hn
  have hP := free_two s s'
  have nm : ¬ P2 s s' m := by rw [em]; exact nP_m
  rw [← em]
  let F : Tm → Prop := fun u => u = m ∨ u = pubT (frA s')
  have F1 : ∀ u, F u → ¬ P2 s s' u := fun u e => by
    rcases e with rfl | rfl
    · exact nm
    · exact nP_p
  have na : ¬ F (frA s) := fun e => by
    rcases e with e | e
    · rw [em] at e; cases e
    · cases e
  have nw : ¬ F (kdfT (frA s) n) := fun e => by
    rcases e with e | e
    · rw [em] at e; cases e
    · cases e
  have A1 : ApF L F := fun t e _ => by
    rcases e with e | rfl
    · rw [e, em]
      exact ⟨fun k => absurd k (show (10 : Int) ≠ 3 by decide), fun k => absurd k (show (10 : Int) ≠ 4 by decide), fun _ x y e hy => by cases e; exact .base (.inr (.inr rfl)) h.gp⟩
    · exact ⟨fun k => absurd k (show (8 : Int) ≠ 3 by decide), fun k => absurd k (show (8 : Int) ≠ 4 by decide), fun k => absurd k (show (8 : Int) ≠ 10 by decide)⟩
  have mem : ∀ v ∈ [m, pubT (frA s')], gdT v := fun v hv => by
    simp only [List.mem_cons, List.not_mem_nil, or_false] at hv
    rcases hv with rfl | rfl
    · exact gm
    · exact h.gp
  have M1 : ∀ u, Fr (L ++ [m, pubT (frA s')]) u → gdT u → Mk (BF L F) u := fun u hu hg => by
    rcases fr_app.1 hu with hu | hu
    · exact .base (.inl (.base hu hg)) hg
    · have := (fr_gd mem).1 hu
      simp only [List.mem_cons, List.not_mem_nil, or_false] at this
      exact .base (.inr this) hg
  have b0 : ∀ v ∈ [m, pubT (frA s')], Fr (L ++ [m, pubT (frA s')]) v := fun v hv => fr_app.2 (.inr (in_fr hv (mem v hv)))
  refine ⟨m, .base (fr_app.2 (.inl (b0 m (by simp)))) gm, ?_⟩
  refine .mask (x := pubT (frA s')) (y := kdfT (frA s) n) (by rw [em]; rfl) (by rw [em]; rfl) (.base (b0 m (by simp)) gm) (.base (b0 _ (by simp)) h.gp) ?_ fun hc => ?_
  · exact .comp (h.gw hn) (show (7 : Int) ≠ 1 by decide) (show (7 : Int) ≠ 2 by decide) (show (7 : Int) ≠ 9 by decide) fun u hu => by
      have hu : u ∈ [frA s] := hu
      rw [List.mem_singleton.1 hu]
      exact .base (fr_app.2 (.inr (in_fr (List.mem_singleton.2 rfl) h.ga))) h.ga
  · exact no_w h na nw (frP hP h.fr F1 A1 M1 hc)
end
end Go.Sl
