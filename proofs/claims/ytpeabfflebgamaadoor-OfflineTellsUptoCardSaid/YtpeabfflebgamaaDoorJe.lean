/- Layer 9 in plain theory: what a frame is taken apart into; what a test is. -/
import Derived.Test.YtpeabfflebgamaaDoorJd
set_option linter.unusedVariables false
set_option linter.unusedSimpArgs false
namespace Go.Sl
open Go Go.Vc Go.Proofs Go.RowKit

/-- What is taken out of what was sent. -/
inductive An (B : Tm → Prop) : Tm → Prop where
  | base {t : Tm} : B t → gdT t → An B t
  | pair {t u : Tm} : An B t → t.kind = 3 → u ∈ t.kids → An B u
  | enc {t x y : Tm} : An B t → t.kind = 4 → t.kids = [x, y] → Cl B x → An B y
  | mask {t x y : Tm} : An B t → t.kind = 10 → t.kids = [x, y] → Cl B y → An B x
theorem An.cl {B : Tm → Prop} {t : Tm} (h : An B t) : Cl B t := by
  induction h with
  | base hb hg => exact .base hb hg
  | pair _ k hu ih => exact .pair ih k hu
  | enc _ k e hx ih => exact .enc ih k e hx
  | mask _ k e hy ih => exact .mask ih k e hy
theorem An.mono {B A : Tm → Prop} {t : Tm} (hB : ∀ u, B u → A u) (h : An B t) : An A t := by
  induction h with
  | base hb hg => exact .base (hB _ hb) hg
  | pair _ k hu ih => exact .pair ih k hu
  | enc _ k e hx ih => exact .enc ih k e (hx.mono hB)
  | mask _ k e hy ih => exact .mask ih k e (hy.mono hB)
structure Sa (B : Tm → Prop) (k : Kn) : Prop where
  an : ∀ t ∈ k.l, An B t
  s : k.s = k.l.map txtT
theorem Sa.sd {B : Tm → Prop} {k : Kn} (h : Sa B k) : Sd B k := ⟨fun t ht => (h.an t ht).cl, h.s⟩
theorem Sa.add {B : Tm → Prop} {k : Kn} (h : Sa B k) {t : Tm} (ht : txtT (canT t) ≠ [] → An B (canT t)) : Sa B (addT k t) := by
  unfold addT
  split
  · exact h
  · rename_i hn
    simp only [not_or] at hn
    refine ⟨fun u hu => ?_, by simp [h.s]⟩
    rcases List.mem_append.1 hu with hu | hu
    · exact h.an u hu
    · rw [List.mem_singleton.1 hu]; exact ht hn.1
theorem Sa.adds {B : Tm → Prop} : ∀ (m : List Tm) {k : Kn}, Sa B k → (∀ t ∈ m, txtT (canT t) ≠ [] → An B (canT t)) → Sa B (m.foldl addT k)
  | [], k, h, _ => h
  | t :: m, k, h, hm => Sa.adds m (h.add (hm t (List.mem_cons_self ..))) fun u hu => hm u (List.mem_cons_of_mem _ hu)
theorem Sa.more {B : Tm → Prop} {k : Kn} (h : Sa B k) : ∀ u ∈ moreT k.s k.l, An B u := by
  intro u hu
  obtain ⟨t, ht, hu⟩ := List.mem_flatMap.1 hu
  have hc := h.an t ht
  have hg := hc.cl.gd
  unfold givesT at hu
  split at hu
  · rename_i n g e
    split at hu
    · rename_i hn
      unfold wayT at e
      split at e
      · rename_i k3
        cases e
        exact .pair hc k3 hu
      · split at e
        · rename_i k4
          obtain ⟨x, y, ek⟩ := kids2 hg (.inl k4)
          rw [ek] at e
          cases e
          simp only [List.all_cons, List.all_nil, Bool.and_true] at hn
          simp only [List.mem_singleton] at hu
          subst hu
          have hx : x ∈ t.kids := by rw [ek]; simp
          refine .enc hc k4 ek (mk_cl h.sd.cl _ x (Nat.le_refl _) (gd_kid hg hx).2 (by rw [← h.s]; exact hn))
        · split at e
          · rename_i k10
            obtain ⟨x, y, ek⟩ := kids2 hg (.inr (.inr (.inr k10)))
            rw [ek] at e
            cases e
            simp only [List.all_cons, List.all_nil, Bool.and_true] at hn
            simp only [List.mem_singleton] at hu
            subst hu
            have hy : y ∈ t.kids := by rw [ek]; simp
            refine .mask hc k10 ek (mk_cl h.sd.cl _ y (Nat.le_refl _) (gd_kid hg hy).2 (by rw [← h.s]; exact hn))
          · cases e
    · cases hu
  · cases hu
theorem Sa.step {B : Tm → Prop} {k : Kn} (h : Sa B k) : Sa B (stepK k) := by
  have h' : Sa B ⟨k.l, k.s, dIn k.l k.s k.l k.d⟩ := ⟨h.an, h.s⟩
  refine Sa.adds _ h' fun t ht _ => ?_
  have := h.more t ht
  rw [this.cl.gd.2]; exact this
theorem Sa.of (l : List Tm) : Sa (Fr l) (ofT l) :=
  Sa.adds l (k := ⟨[], [], []⟩) ⟨fun t h => (by cases h), rfl⟩ fun t ht hr => .base ⟨t, ht, rfl⟩ ⟨hr, can_can t⟩
theorem Sa.it {B : Tm → Prop} {k : Kn} (h : Sa B k) : ∀ j, Sa B (itK k j)
  | 0 => h
  | j + 1 => (Sa.it h j).step
theorem an_iff {l : List Tm} (h : Frm l) {t : Tm} : t ∈ anT l ↔ An (Fr l) t := by
  constructor
  · intro ht
    obtain ⟨m, hm, _⟩ := h.end.k.2
    have := (Sa.of l).it (m + 1)
    rw [← hm] at this
    exact this.an t ht
  · intro ht
    have hf := h.fin
    induction ht with
    | base hb hg =>
      obtain ⟨v, hv, rfl⟩ := hb
      exact hf.base v hv hg.1
    | pair _ k hu ih => exact an_pair h ih k hu
    | enc _ k e hx ih =>
      refine hf.shut _ ih _ ?_
      have i2 := (hf.iff hx.gd.2).2 hx
      unfold givesT wayT
      rw [if_neg (by rw [k]; decide), if_pos k, e]
      simp [i2]
    | mask _ k e hy ih =>
      refine hf.shut _ ih _ ?_
      have i2 := (hf.iff hy.gd.2).2 hy
      unfold givesT wayT
      rw [if_neg (by rw [k]; decide), if_neg (by rw [k]; decide), if_pos k, e]
      simp [i2]
theorem mkC_iff {l : List Tm} (h : Frm l) {u : Tm} (g : gdT u) : mkC (ofT (anT l)).s u = true ↔ Cl (Fr l) u := by
  rw [mkC, g.2, an_s h]; exact h.fin.iff g.2
/-- What makes a term a test: what was known, what is known with the secret, what is there without. -/
inductive Tst (K0 K1 A0 : Tm → Prop) (t : Tm) : Prop where
  | enc {x y : Tm} : t.kind = 4 → t.kids = [x, y] → K1 x → ¬ K0 x → Tst K0 K1 A0 t
  | part : (t.kind = 5 ∨ t.kind = 6 ∨ t.kind = 7 ∨ t.kind = 8) → A0 t → (∀ u ∈ t.kids, K1 u) → ¬ (∀ u ∈ t.kids, K0 u) → Tst K0 K1 A0 t
  | share {x y : Tm} : t.kind = 9 → t.kids = [x, y] → A0 t → (K1 x ∧ K1 (pubT y) ∨ K1 y ∧ K1 (pubT x)) → ¬ (K0 x ∧ K0 (pubT y) ∨ K0 y ∧ K0 (pubT x)) → Tst K0 K1 A0 t
  | mask {x y : Tm} : t.kind = 10 → t.kids = [x, y] → A0 t → K0 x → K1 y → ¬ K0 y → Tst K0 K1 A0 t
theorem tstB_iff {l : List Tm} {s : Tm} (h : FrmS l s) {t : Tm} (g : gdT t) : tstB (vwT l (canT s)) t = true ↔ Tst (Cl (Fr l)) (Cl (Fr (l ++ [canT s]))) (An (Fr l)) t := by
  have k0 : ∀ {u}, gdT u → (mkC (vwT l (canT s)).s0 u = true ↔ Cl (Fr l) u) := fun g => mkC_iff h.f0 g
  have k1 : ∀ {u}, gdT u → (mkC (vwT l (canT s)).s1 u = true ↔ Cl (Fr (l ++ [canT s])) u) := fun g => mkC_iff h.f1 g
  have a0 : (decide (txtT t ∈ (vwT l (canT s)).th) = true) ↔ An (Fr l) t := by
    rw [decide_eq_true_iff, ← an_iff h.f0]
    exact mem_txt (fun u hu => (an_gd h.f0 u hu).1) g.1
  generalize vwT l (canT s) = V at k0 k1 a0 ⊢
  have gain1 : ∀ x, gdT x → (gainB V [[x]] = true ↔ Cl (Fr (l ++ [canT s])) x ∧ ¬ Cl (Fr l) x) := fun x gx => by
    simp only [gainB, List.any_cons, List.any_nil, List.all_cons, List.all_nil, Bool.and_true, Bool.or_false, Bool.and_eq_true, Bool.not_eq_true', ← Bool.not_eq_true, k0 gx, k1 gx]
  by_cases e4 : t.kind = 4
  · obtain ⟨x, y, e⟩ := kids2 g (.inl e4)
    have gx := gd_kid g (u := x) (by rw [e]; simp)
    have : tstB V t = gainB V [[x]] := by unfold tstB; rw [if_pos e4, e]
    rw [this, gain1 x gx]
    constructor
    · exact fun h => .enc e4 e h.1 h.2
    · intro h
      cases h with
      | enc k e' h1 h2 => rw [e] at e'; cases e'; exact ⟨h1, h2⟩
      | part k => omega
      | share k => omega
      | mask k => omega
  by_cases e5 : t.kind = 5 ∨ t.kind = 6 ∨ t.kind = 7 ∨ t.kind = 8
  · have : tstB V t = partsB V t := by unfold tstB; rw [if_neg e4, if_pos e5]
    have c0 : (t.kids.all (mkC V.s0) = true) ↔ ∀ u ∈ t.kids, Cl (Fr l) u := by
      rw [List.all_eq_true]; exact ⟨fun h u hu => (k0 (gd_kid g hu)).1 (h u hu), fun h u hu => (k0 (gd_kid g hu)).2 (h u hu)⟩
    have c1 : (t.kids.all (mkC V.s1) = true) ↔ ∀ u ∈ t.kids, Cl (Fr (l ++ [canT s])) u := by
      rw [List.all_eq_true]; exact ⟨fun h u hu => (k1 (gd_kid g hu)).1 (h u hu), fun h u hu => (k1 (gd_kid g hu)).2 (h u hu)⟩
    rw [this, partsB, Bool.and_eq_true, a0]
    simp only [gainB, List.any_cons, List.any_nil, Bool.or_false, Bool.and_eq_true, Bool.not_eq_true', ← Bool.not_eq_true, c0, c1]
    constructor
    · exact fun h => .part e5 h.1 h.2.1 h.2.2
    · intro h
      cases h with
      | enc k => omega
      | part k a h1 h2 => exact ⟨a, h1, h2⟩
      | share k => omega
      | mask k => omega
  by_cases e9 : t.kind = 9
  · obtain ⟨x, y, e⟩ := kids2 g (.inr (.inr (.inl e9)))
    have hx : x ∈ t.kids := by rw [e]; simp
    have hy : y ∈ t.kids := by rw [e]; simp
    have gx := gd_kid g hx
    have gy := gd_kid g hy
    have px := gd_pub g hx
    have py := gd_pub g hy
    have : tstB V t = shareB V t x y := by unfold tstB; rw [if_neg e4, if_neg e5, if_pos e9, e]
    rw [this, shareB, Bool.and_eq_true, a0]
    simp only [gainB, List.any_cons, List.any_nil, List.all_cons, List.all_nil, Bool.and_true, Bool.or_false, Bool.and_eq_true, Bool.or_eq_true, Bool.not_eq_true', ← Bool.not_eq_true, k0 gx, k0 gy, k0 px, k0 py, k1 gx, k1 gy, k1 px, k1 py]
    constructor
    · exact fun h => .share e9 e h.1 h.2.1 h.2.2
    · intro h
      cases h with
      | enc k => omega
      | part k => omega
      | share k e' a h1 h2 => rw [e] at e'; cases e'; exact ⟨a, h1, h2⟩
      | mask k => omega
  by_cases e10 : t.kind = 10
  · obtain ⟨x, y, e⟩ := kids2 g (.inr (.inr (.inr e10)))
    have gx := gd_kid g (u := x) (by rw [e]; simp)
    have gy := gd_kid g (u := y) (by rw [e]; simp)
    have : tstB V t = maskB V t x y := by unfold tstB; rw [if_neg e4, if_neg e5, if_neg e9, if_pos e10, e]
    rw [this, maskB, Bool.and_eq_true, a0, Bool.and_eq_true, gain1 y gy, k0 gx]
    constructor
    · exact fun h => .mask e10 e h.1 h.2.1 h.2.2.1 h.2.2.2
    · intro h
      cases h with
      | enc k => omega
      | part k => omega
      | share k => omega
      | mask k e' a h1 h2 h3 => rw [e] at e'; cases e'; exact ⟨a, h1, h2, h3⟩
  · have : tstB V t = false := by unfold tstB; rw [if_neg e4, if_neg e5, if_neg e9, if_neg e10]
    rw [this]
    refine ⟨fun h => (by cases h), fun h => ?_⟩
    cases h with
    | enc k => exact absurd k e4
    | part k => exact absurd k e5
    | share k => exact absurd k e9
    | mask k => exact absurd k e10
/-- Is there a test? -/
def HasT (l : List Tm) (c : Tm) : Prop := ∃ t, An (Fr (l ++ [c])) t ∧ Tst (Cl (Fr l)) (Cl (Fr (l ++ [c]))) (An (Fr l)) t
inductive TestIs (l : List Tm) (c : Tm) : Tm × Bool → Prop where
  | known : gdT c → Cl (Fr l) c → TestIs l c (c, true)
  | test {t : Tm} : gdT c → ¬ Cl (Fr l) c → An (Fr (l ++ [c])) t → Tst (Cl (Fr l)) (Cl (Fr (l ++ [c]))) (An (Fr l)) t → TestIs l c (t, true)
  | none : gdT c → ¬ Cl (Fr l) c → ¬ HasT l c → TestIs l c (noTm, false)
  | no : ¬ gdT c → TestIs l c (noTm, false)
theorem test_is {l : List Tm} {s : Tm} (h : FrmS l s) : TestIs l (canT s) (testT l s) := by
  unfold testT
  by_cases hr : rightT (canT s) = true
  · have g := gd_right hr
    rw [if_pos hr]
    by_cases hm : mkC (ofT (anT l)).s (canT s) = true
    · rw [if_pos hm]; exact .known g ((mkC_iff h.f0 g).1 hm)
    · rw [if_neg hm]
      have hn : ¬ Cl (Fr l) (canT s) := fun hc => hm ((mkC_iff h.f0 g).2 hc)
      cases e : (anT (l ++ [canT s])).find? (tstB (vwT l (canT s))) with
      | some t =>
        have h1 := List.find?_some e
        have h2 := List.mem_of_find?_eq_some e
        exact .test g hn ((an_iff h.f1).1 h2) ((tstB_iff h (an_gd h.f1 t h2)).1 h1)
      | none =>
        refine .none g hn fun ⟨t, h1, h2⟩ => ?_
        rw [List.find?_eq_none] at e
        have h3 := (an_iff h.f1).2 h1
        exact e t h3 ((tstB_iff h (an_gd h.f1 t h3)).2 h2)
  · rw [if_neg hr]; exact .no fun g => hr (right_gd g)
theorem TestIs.iff {l : List Tm} {c : Tm} {x : Tm × Bool} (h : TestIs l c x) : x.2 = true ↔ gdT c ∧ (Cl (Fr l) c ∨ HasT l c) := by
  cases h with
  | known g k => exact ⟨fun _ => ⟨g, .inl k⟩, fun _ => rfl⟩
  | test g k a t => exact ⟨fun _ => ⟨g, .inr ⟨_, a, t⟩⟩, fun _ => rfl⟩
  | none g k n => exact ⟨fun h => (by cases h), fun h => absurd h.2 (fun h => h.elim k n)⟩
  | no g => exact ⟨fun h => (by cases h), fun h => absurd h.1 g⟩
end Go.Sl
