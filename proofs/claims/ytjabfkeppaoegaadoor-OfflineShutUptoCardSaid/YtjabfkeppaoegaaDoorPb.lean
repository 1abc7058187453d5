/- OfflineShut: what is shut up under a key that nobody knows can not be tested; with the key it can. -/
import Derived.Test.YtjabfkeppaoegaaDoorOl
set_option linter.unusedVariables false
set_option linter.unusedSimpArgs false
namespace Go.Sl
open Go Go.Vc Go.Proofs Go.RowKit

theorem Tst.congr {P : Tm → Prop} (hP : FreeP P) {K0 K1 A0 K0' K1' A0' : Tm → Prop} {t : Tm} (ht : P t) (h0 : ∀ u, P u → (K0 u ↔ K0' u)) (h1 : ∀ u, P u → K1 u → K1' u) (hA : A0 t → A0' t) (h : Tst K0 K1 A0 t) : Tst K0' K1' A0' t := by
  have kd : ∀ {u}, u ∈ t.kids → P u := fun hu => hP.kid ht hu
  cases h with
  | @enc x y k e a b =>
    have px := kd (u := x) (by rw [e]; simp)
    exact .enc k e (h1 _ px a) fun hc => b ((h0 _ px).2 hc)
  | part k a b c => exact .part k (hA a) (fun u hu => h1 u (kd hu) (b u hu)) fun hc => c fun u hu => (h0 u (kd hu)).2 (hc u hu)
  | @share x y k e a b c =>
    have px := kd (u := x) (by rw [e]; simp)
    have py := kd (u := y) (by rw [e]; simp)
    exact .share k e (hA a) (b.imp (fun z => ⟨h1 _ px z.1, h1 _ (hP.pub.2 py) z.2⟩) (fun z => ⟨h1 _ py z.1, h1 _ (hP.pub.2 px) z.2⟩)) fun hc =>
      c (hc.imp (fun z => ⟨(h0 _ px).2 z.1, (h0 _ (hP.pub.2 py)).2 z.2⟩) (fun z => ⟨(h0 _ py).2 z.1, (h0 _ (hP.pub.2 px)).2 z.2⟩))
  | @mask x y k e a b c d =>
    have px := kd (u := x) (by rw [e]; simp)
    have py := kd (u := y) (by rw [e]; simp)
    exact .mask k e (hA a) ((h0 _ px).1 b) (h1 _ py c) fun hc => d ((h0 _ py).2 hc)
theorem An.free {P : Tm → Prop} (hP : FreeP P) {B : Tm → Prop} (hB : ∀ u, B u → P u) {t : Tm} (h : An B t) : P t := by
  induction h with
  | base hb _ => exact hB _ hb
  | pair _ _ hu ih => exact hP.kid ih hu
  | enc _ _ e _ ih => exact hP.kid ih (by rw [e]; simp)
  | mask _ _ e _ ih => exact hP.kid ih (by rw [e]; simp)
/-- What is shut up, the key, the secret. -/
structure Shut (L R : List Tm) (n s : Bs) : Prop where
  hn : n ≠ []
  hs : s ≠ []
  ne : s ≠ n
  hL : ∀ v ∈ L, frA s ∉ inT v
  hR : ∀ u, u ∈ R ↔ Fr L u ∧ gdT u
  dp : Tm.depths R ≤ 52
section
variable {L R : List Tm} {n s : Bs}
abbrev sE (R : List Tm) (s : Bs) : Tm := encT (frA s) (pairT R)
theorem Shut.ga (h : Shut L R n s) : gdT (frA n) := gd_atom h.hn
theorem Shut.gk (h : Shut L R n s) : gdT (frA s) := gd_atom h.hs
theorem Shut.gp (h : Shut L R n s) : gdT (pairT R) := gd_pair (fun x hx => ((h.hR x).1 hx).2) (by have := h.dp; omega)
theorem Shut.ge (h : Shut L R n s) : gdT (sE R s) := gd_encT h.gk h.gp (by rw [dA]; decide) (by have := h.dp; simp only [Tm.depth]; omega)
abbrev P1 (s : Bs) (u : Tm) : Prop := frA s ∉ inT u
theorem Shut.pa (h : Shut L R n s) : P1 s (frA n) := atom_free h.ne
theorem nP_k : ¬ P1 s (frA s) := fun h => h (inT_self _)
theorem nP_e : ¬ P1 s (sE R s) := fun h => nP_k (s := s) ((free_one s).kid h (by simp [Tm.kids]))
theorem Shut.fr (h : Shut L R n s) : ∀ u, Fr L u → P1 s u := frL h.hL (fun v hv => can_one v hv)
theorem Shut.fr1 (h : Shut L R n s) : ∀ u, Fr (L ++ [frA n]) u → P1 s u := fun u hu => by
  rcases fr_gone h.ga hu with hu | rfl
  · exact h.fr u hu
  · exact h.pa
/-- With the key all is as if it were not shut; in general, with some more. -/
theorem shut_gen (h : Shut L R n s) {X : List Tm} (gX : ∀ x ∈ X, gdT x) (hX : ∀ u, Fr (L ++ X) u → P1 s u) :
    (∀ u, P1 s u → (Cl (Fr ([sE R s, frA s] ++ X)) u ↔ Cl (Fr (L ++ X)) u)) ∧
    (∀ t, An (Fr ([sE R s, frA s] ++ X)) t → t = sE R s ∨ t = frA s ∨ t = pairT R ∨ An (Fr (L ++ X)) t) ∧ (∀ t, An (Fr (L ++ X)) t → An (Fr ([sE R s, frA s] ++ X)) t) := by
  have hP := free_one s
  obtain ⟨e, ee⟩ : ∃ e, e = sE R s := ⟨_, rfl⟩
  have gE : gdT e := by rw [ee]; exact h.ge
  have nE : ¬ P1 s e := by rw [ee]; exact nP_e
  rw [← ee]
  have g2 : ∀ v ∈ [e, frA s], gdT v := fun v hv => by
    simp only [List.mem_cons, List.not_mem_nil, or_false] at hv
    rcases hv with rfl | rfl
    · exact gE
    · exact h.gk
  have fM : ∀ {u}, Fr ([e, frA s] ++ X) u → u = e ∨ u = frA s ∨ Fr X u := fun hu => by
    rcases fr_app.1 hu with hu | hu
    · have := (fr_gd g2).1 hu
      simp only [List.mem_cons, List.not_mem_nil, or_false] at this
      exact this.imp id .inl
    · exact .inr (.inr hu)
  have bE : An (Fr ([e, frA s] ++ X)) e := .base (fr_app.2 (.inl (in_fr (by simp) gE))) gE
  have bK : An (Fr ([e, frA s] ++ X)) (frA s) := .base (fr_app.2 (.inl (in_fr (by simp) h.gk))) h.gk
  have bP : An (Fr ([e, frA s] ++ X)) (pairT R) := .enc (x := frA s) bE (by rw [ee]; rfl) (by rw [ee]; rfl) bK.cl
  have bR : ∀ v ∈ R, An (Fr ([e, frA s] ++ X)) v := fun v hv => .pair bP rfl hv
  have back : ∀ u, Cl (Fr (L ++ X)) u → Cl (Fr ([e, frA s] ++ X)) u := fun u hc => hc.cut fun v hv hg => by
    rcases fr_app.1 hv with hv | hv
    · exact (bR v ((h.hR v).2 ⟨hv, hg⟩)).cl
    · exact .base (fr_app.2 (.inr hv)) hg
  have cR : ∀ v ∈ R, Cl (Fr (L ++ X)) v := fun v hv => .base (fr_app.2 (.inl ((h.hR v).1 hv).1)) ((h.hR v).1 hv).2
  have cP : Cl (Fr (L ++ X)) (pairT R) := .comp h.gp (show (3 : Int) ≠ 1 by decide) (show (3 : Int) ≠ 2 by decide) (show (3 : Int) ≠ 9 by decide) cR
  have hF : ∀ u, (u = e ∨ u = frA s) → ¬ P1 s u := fun u hu => by
    rcases hu with rfl | rfl
    · exact nE
    · exact nP_k
  have hA : ApF (L ++ X) (fun u => u = e ∨ u = frA s) := fun t ht _ => by
    rcases ht with ht | rfl
    · rw [ht, ee]
      exact ⟨fun k => absurd k (show (4 : Int) ≠ 3 by decide), fun _ x y ek _ => by cases ek; exact .base (.inl cP) h.gp, fun k => absurd k (show (4 : Int) ≠ 10 by decide)⟩
    · exact ⟨fun k => absurd k (kA (by decide)), fun k => absurd k (kA (by decide)), fun k => absurd k (kA (by decide))⟩
  have fwd : ∀ u, P1 s u → Cl (Fr ([e, frA s] ++ X)) u → Cl (Fr (L ++ X)) u := fun u hu hc =>
    mkP hP hF (frP hP hX hF hA (fun v hv hg => by
      rcases fM hv with hv | hv | hv
      · exact .base (.inr (.inl hv)) hg
      · exact .base (.inr (.inr hv)) hg
      · exact .base (.inl (.base (fr_app.2 (.inr hv)) hg)) hg) hc) hu
  refine ⟨fun u hu => ⟨fwd u hu, back u⟩, fun t ht => ?_, fun t ht => ?_⟩
  · induction ht with
    | base hb hg =>
      rcases fM hb with hb | hb | hb
      · exact .inl hb
      · exact .inr (.inl hb)
      · exact .inr (.inr (.inr (.base (fr_app.2 (.inr hb)) hg)))
    | pair _ k hu ih =>
      rcases ih with ih | ih | ih | ih
      · rw [ih, ee] at k; exact absurd k (show (4 : Int) ≠ 3 by decide)
      · rw [ih] at k; exact absurd k (kA (by decide))
      · rw [ih] at hu; exact .inr (.inr (.inr (.base (fr_app.2 (.inl ((h.hR _).1 hu).1)) ((h.hR _).1 hu).2)))
      · exact .inr (.inr (.inr (.pair ih k hu)))
    | enc _ k e' hx ih =>
      rcases ih with ih | ih | ih | ih
      · rw [ih, ee] at e'; cases e'; exact .inr (.inr (.inl rfl))
      · rw [ih] at k; exact absurd k (kA (by decide))
      · rw [ih] at k; exact absurd k (show (3 : Int) ≠ 4 by decide)
      · exact .inr (.inr (.inr (.enc ih k e' (fwd _ (hP.kid (ih.free hP hX) (by rw [e']; simp)) hx))))
    | mask _ k e' hx ih =>
      rcases ih with ih | ih | ih | ih
      · rw [ih, ee] at k; exact absurd k (show (4 : Int) ≠ 10 by decide)
      · rw [ih] at k; exact absurd k (kA (by decide))
      · rw [ih] at k; exact absurd k (show (3 : Int) ≠ 10 by decide)
      · exact .inr (.inr (.inr (.mask ih k e' (fwd _ (hP.kid (ih.free hP hX) (by rw [e']; simp)) hx))))
  · induction ht with
    | base hb hg =>
      rcases fr_app.1 hb with hb | hb
      · exact bR _ ((h.hR _).2 ⟨hb, hg⟩)
      · exact .base (fr_app.2 (.inr hb)) hg
    | pair _ k hu ih => exact .pair ih k hu
    | enc _ k e' hx ih => exact .enc ih k e' (back _ hx)
    | mask _ k e' hx ih => exact .mask ih k e' (back _ hx)
theorem shut_two (h : Shut L R n s) : (Cl (Fr [sE R s, frA s]) (frA n) ∨ HasT [sE R s, frA s] (frA n)) ↔ (Cl (Fr L) (frA n) ∨ HasT L (frA n)) := by
  have hP := free_one s
  obtain ⟨c0, a0, b0⟩ := shut_gen h (X := []) (fun x hx => by cases hx) (fun u hu => h.fr u (by rwa [List.append_nil] at hu))
  obtain ⟨c1, a1, b1⟩ := shut_gen h (X := [frA n]) (fun x hx => by rw [List.mem_singleton.1 hx]; exact h.ga) h.fr1
  simp only [List.append_nil] at c0 a0 b0
  refine or_congr (c0 _ h.pa) ⟨fun ⟨t, h1, h2⟩ => ?_, fun ⟨t, h1, h2⟩ => ?_⟩
  · have hk := tst_kind h2
    rcases a1 t h1 with rfl | rfl | rfl | ha
    · cases h2 with
      | enc k e hx hn =>
        cases e
        exact absurd (.base (in_fr (by simp) h.gk) h.gk) hn
      | part k => exact absurd k (show ¬ ((4 : Int) = 5 ∨ (4 : Int) = 6 ∨ (4 : Int) = 7 ∨ (4 : Int) = 8) by decide)
      | share k => exact absurd k (show (4 : Int) ≠ 9 by decide)
      | mask k => exact absurd k (show (4 : Int) ≠ 10 by decide)
    · exact absurd hk (show ¬ (4 : Int) ≤ 2 by decide)
    · exact absurd hk (show ¬ (4 : Int) ≤ 3 by decide)
    · have pt := ha.free hP h.fr1
      refine ⟨t, ha, h2.congr hP pt c0 (fun u hu => (c1 u hu).1) fun hA => ?_⟩
      rcases a0 t hA with rfl | rfl | rfl | hA
      · exact absurd pt nP_e
      · exact absurd pt nP_k
      · exact absurd hk (show ¬ (4 : Int) ≤ 3 by decide)
      · exact hA
  · have pt := h1.free hP h.fr1
    exact ⟨t, b1 t h1, h2.congr hP pt (fun u hu => (c0 u hu).symm) (fun u hu => (c1 u hu).2) (b0 t)⟩
theorem shut_one (h : Shut L R n s) : ¬ Cl (Fr [sE R s]) (frA n) ∧ ¬ HasT [sE R s] (frA n) := by
  have hP := free_one s
  obtain ⟨e, ee⟩ : ∃ e, e = sE R s := ⟨_, rfl⟩
  have gE : gdT e := by rw [ee]; exact h.ge
  have nE : ¬ P1 s e := by rw [ee]; exact nP_e
  have ke : e ≠ frA s := fun hc => by rw [ee] at hc; cases hc
  have ae : e ≠ frA n := fun hc => by rw [ee] at hc; cases hc
  rw [← ee]
  have gen : ∀ (X : List Tm), (∀ u, Fr X u → P1 s u) → ApF X (fun u => u = e) ∧ ∀ {B : Tm → Prop}, (∀ u, B u → u = e ∨ Fr X u) → ∀ {u}, Cl B u → Mk (BF X fun u => u = e) u := by
    intro X hX
    have hA : ApF X (fun u => u = e) := fun t ht _ => by
      rw [ht]
      refine ⟨fun k => ?_, fun _ x y ek hm => ?_, fun k => ?_⟩
      · rw [ee] at k; exact absurd k (show (4 : Int) ≠ 3 by decide)
      · have : x = frA s := by rw [ee] at ek; injection ek with e1 _; exact e1.symm
        rw [this] at hm
        exact absurd hm (no_atom hP hX nP_k fun hc => ke hc.symm)
      · rw [ee] at k; exact absurd k (show (4 : Int) ≠ 10 by decide)
    exact ⟨hA, fun hB u hc => frP hP hX (fun u hu => by rw [hu]; exact nE) hA (fun v hv hg => by
      rcases hB v hv with hv | hv
      · exact .base (.inr hv) hg
      · exact .base (.inl (.base hv hg)) hg) hc⟩
  have x0 : ∀ u, Fr [] u → P1 s u := fun u ⟨v, hv, _⟩ => by cases hv
  have x1 : ∀ u, Fr [frA n] u → P1 s u := fun u hu => by have := fr_one hu; rw [h.ga.2] at this; rw [this]; exact h.pa
  obtain ⟨_, m0⟩ := gen [] x0
  obtain ⟨_, m1⟩ := gen [frA n] x1
  have f0 : ∀ u, Fr [e] u → u = e ∨ Fr [] u := fun u hu => by have := fr_one hu; rw [gE.2] at this; exact .inl this
  have f1 : ∀ u, Fr ([e] ++ [frA n]) u → u = e ∨ Fr [frA n] u := fun u hu => (fr_app.1 hu).imp (fun hu => by have := fr_one hu; rw [gE.2] at this; exact this) id
  have nk : ¬ Cl (Fr ([e] ++ [frA n])) (frA s) := fun hc => no_atom hP x1 nP_k (fun hc => ke hc.symm) (m1 f1 hc)
  refine ⟨fun hc => ?_, fun ⟨t, h1, h2⟩ => ?_⟩
  · rcases (mk_atom.1 (m0 f0 hc)).2 with hc | hc
    · exact clP (free_one n) (fun u hu _ => by obtain ⟨v, hv, _⟩ := hu; cases hv) hc (inT_self _)
    · exact ae hc.symm
  · have key : t = e ∨ t = frA n := by
      clear h2
      induction h1 with
      | base hb hg =>
        rcases f1 _ hb with hb | hb
        · exact .inl hb
        · have := fr_one hb; rw [h.ga.2] at this; exact .inr this
      | pair _ k hu ih =>
        rcases ih with ih | ih
        · rw [ih, ee] at k; exact absurd k (show (4 : Int) ≠ 3 by decide)
        · rw [ih] at k; exact absurd k (kA (by decide))
      | enc _ k e' hx ih =>
        rcases ih with ih | ih
        · rw [ih, ee] at e'; cases e'; exact absurd hx nk
        · rw [ih] at k; exact absurd k (kA (by decide))
      | mask _ k e' hx ih =>
        rcases ih with ih | ih
        · rw [ih, ee] at k; exact absurd k (show (4 : Int) ≠ 10 by decide)
        · rw [ih] at k; exact absurd k (kA (by decide))
    rcases key with rfl | rfl
    · cases h2 with
      | enc k e' hx => rw [ee] at e'; cases e'; exact nk hx
      | part k => rw [ee] at k; exact absurd k (show ¬ ((4 : Int) = 5 ∨ (4 : Int) = 6 ∨ (4 : Int) = 7 ∨ (4 : Int) = 8) by decide)
      | share k => rw [ee] at k; exact absurd k (show (4 : Int) ≠ 9 by decide)
      | mask k => rw [ee] at k; exact absurd k (show (4 : Int) ≠ 10 by decide)
    · exact absurd (tst_kind h2) (show ¬ (4 : Int) ≤ 2 by decide)
end
end Go.Sl
