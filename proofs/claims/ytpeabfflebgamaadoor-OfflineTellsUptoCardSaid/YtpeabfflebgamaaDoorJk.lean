/- Layer 9 in plain theory: what stands nowhere. -/
import Derived.Test.YtpeabfflebgamaaDoorJe
set_option linter.unusedVariables false
set_option linter.unusedSimpArgs false
namespace Go.Sl
open Go Go.Vc Go.Proofs Go.RowKit

/-- That something does not stand in a term. -/
structure FreeP (P : Tm → Prop) : Prop where
  kid : ∀ {t u : Tm}, P t → u ∈ t.kids → P u
  up : ∀ {t : Tm}, t.kind ≠ 2 → (∀ u ∈ t.kids, P u) → P t
theorem FreeP.pub {P : Tm → Prop} (h : FreeP P) {y : Tm} : P (pubT y) ↔ P y :=
  ⟨fun hp => h.kid hp (by simp [Tm.kids]), fun hy => h.up (by simp [Tm.kind]) (by simpa [Tm.kids] using hy)⟩
theorem free_one (s : Bs) : FreeP (fun u => frA s ∉ inT u) := ⟨fun h hu => free_kid h hu, fun k h => free_kids k h⟩
theorem free_two (s s' : Bs) : FreeP (fun u => frA s ∉ inT u ∧ frA s' ∉ inT u) :=
  ⟨fun h hu => ⟨free_kid h.1 hu, free_kid h.2 hu⟩, fun k h => ⟨free_kids k fun u hu => (h u hu).1, free_kids k fun u hu => (h u hu).2⟩⟩
section
variable {P : Tm → Prop} {L : List Tm} {F : Tm → Prop}
theorem clP {B : Tm → Prop} (hP : FreeP P) (hB : ∀ u, B u → gdT u → P u) {t : Tm} (h : Cl B t) : P t := by
  induction h with
  | base hb hg => exact hB _ hb hg
  | data hg k => exact hP.up (by rw [k]; decide) (by rw [kids0 hg (.inl k)]; simp)
  | comp _ _ k2 _ _ ih => exact hP.up k2 ih
  | sh1 _ k e _ _ i1 i2 =>
    refine hP.up (by rw [k]; decide) ?_
    rw [e]; simp only [List.mem_cons, List.not_mem_nil, or_false, forall_eq_or_imp, forall_eq]
    exact ⟨i1, hP.pub.1 i2⟩
  | sh2 _ k e _ _ i1 i2 =>
    refine hP.up (by rw [k]; decide) ?_
    rw [e]; simp only [List.mem_cons, List.not_mem_nil, or_false, forall_eq_or_imp, forall_eq]
    exact ⟨hP.pub.1 i2, i1⟩
  | pair _ _ hu ih => exact hP.kid ih hu
  | enc _ _ e _ ih _ => exact hP.kid ih (by rw [e]; simp)
  | mask _ _ e _ ih _ => exact hP.kid ih (by rw [e]; simp)
theorem mkP (hP : FreeP P) (hF : ∀ u, F u → ¬ P u) {t : Tm} (h : Mk (BF L F) t) : P t → Cl (Fr L) t := by
  induction h with
  | base hb hg =>
    intro hf
    rcases hb with hb | hb
    · exact hb
    · exact absurd hf (hF _ hb)
  | data hg k => exact fun _ => .data hg k
  | comp hg k1 k2 k9 _ ih => exact fun hf => .comp hg k1 k2 k9 fun u hu => ih u hu (hP.kid hf hu)
  | sh1 hg k e _ _ i1 i2 => exact fun hf => .sh1 hg k e (i1 (hP.kid hf (by rw [e]; simp))) (i2 (hP.pub.2 (hP.kid hf (by rw [e]; simp))))
  | sh2 hg k e _ _ i1 i2 => exact fun hf => .sh2 hg k e (i1 (hP.kid hf (by rw [e]; simp))) (i2 (hP.pub.2 (hP.kid hf (by rw [e]; simp))))
def ApF (L : List Tm) (F : Tm → Prop) : Prop := ∀ t, F t → gdT t → (t.kind = 3 → ∀ u ∈ t.kids, Mk (BF L F) u) ∧ (t.kind = 4 → ∀ x y, t.kids = [x, y] → Mk (BF L F) x → Mk (BF L F) y) ∧ (t.kind = 10 → ∀ x y, t.kids = [x, y] → Mk (BF L F) y → Mk (BF L F) x)
theorem apP (hP : FreeP P) (hL : ∀ u, Fr L u → P u) (hF : ∀ u, F u → ¬ P u) (hA : ApF L F) : Apart (BF L F) := by
  intro t ht hg
  rcases ht with hc | hf
  · have hfr : P t := clP hP (fun u hu _ => hL u hu) hc
    have b : ∀ u, Cl (Fr L) u → Mk (BF L F) u := fun u h => .base (.inl h) h.gd
    refine ⟨fun k u hu => b u (.pair hc k hu), fun k x y e h => b y (.enc hc k e (mkP hP hF h (hP.kid hfr (by rw [e]; simp)))), fun k x y e h => b x (.mask hc k e (mkP hP hF h (hP.kid hfr (by rw [e]; simp))))⟩
  · exact hA t hf hg
theorem frP (hP : FreeP P) (hL : ∀ u, Fr L u → P u) (hF : ∀ u, F u → ¬ P u) (hA : ApF L F) {B : Tm → Prop} (hM : ∀ u, B u → gdT u → Mk (BF L F) u) {t : Tm} (h : Cl B t) : Mk (BF L F) t :=
  (h.cut fun u hu hg => (hM u hu hg).cl).mk (apP hP hL hF hA)
/-- What is known of what stands nowhere: an atom just if it was told. -/
theorem no_atom (hP : FreeP P) (hL : ∀ u, Fr L u → P u) {n : Bs} (h1 : ¬ P (frA n)) (h2 : ¬ F (frA n)) : ¬ Mk (BF L F) (frA n) := fun h => by
  rcases (mk_atom.1 h).2 with h | h
  · exact h1 (clP hP (fun u hu _ => hL u hu) h)
  · exact h2 h
theorem no_comp (hP : FreeP P) (hL : ∀ u, Fr L u → P u) {k : Int} {n : Bs} {l : List Tm} (k1 : k ≠ 1) (k2 : k ≠ 2) (k9 : k ≠ 9) (h1 : ¬ P (.mk k n l)) (h2 : ¬ F (.mk k n l)) (h3 : ¬ ∀ u ∈ l, Mk (BF L F) u) : ¬ Mk (BF L F) (.mk k n l) := fun h => by
  rcases ((mk_comp k1 k2 k9).1 h).2 with (h | h) | h
  · exact h1 (clP hP (fun u hu _ => hL u hu) h)
  · exact h2 h
  · exact h3 h
/-- No test where what is gained stands nowhere. -/
theorem no_tst (hP : FreeP P) {K0 K1 A0 : Tm → Prop} (h : ∀ u, P u → K1 u → K0 u) {t : Tm} (ht : P t) : ¬ Tst K0 K1 A0 t := by
  intro hT
  cases hT with
  | enc k e h1 h2 => exact h2 (h _ (hP.kid ht (by rw [e]; simp)) h1)
  | part k a h1 h2 => exact h2 fun u hu => h u (hP.kid ht hu) (h1 u hu)
  | share k e a h1 h2 =>
    rename_i x y
    have px : P x := hP.kid ht (by rw [e]; simp)
    have py : P y := hP.kid ht (by rw [e]; simp)
    refine h2 (h1.imp (fun h1 => ⟨h _ px h1.1, h _ (hP.pub.2 py) h1.2⟩) (fun h1 => ⟨h _ py h1.1, h _ (hP.pub.2 px) h1.2⟩))
  | mask k e a h1 h2 h3 => exact h3 (h _ (hP.kid ht (by rw [e]; simp)) h2)
end
theorem kA {s : Bs} {n : Int} (h : (2 : Int) ≠ n) : (frA s).kind ≠ n := h
theorem tst_kind {K0 K1 A0 : Tm → Prop} {t : Tm} (h : Tst K0 K1 A0 t) : 4 ≤ t.kind := by
  cases h with
  | enc k => omega
  | part k => omega
  | share k => omega
  | mask k => omega
theorem atom_free {s n : Bs} (h : s ≠ n) : frA s ∉ inT (frA n) := by
  simp only [inT, inTs, List.mem_singleton]
  intro e
  injection e with _ e _
  exact h e
theorem frL {L : List Tm} {P : Tm → Prop} (h : ∀ v ∈ L, P v) (hc : ∀ v, P v → P (canT v)) : ∀ u, Fr L u → P u := by
  rintro u ⟨v, hv, rfl⟩
  exact hc v (h v hv)
theorem can_two {s s' : Bs} (v : Tm) (h : frA s ∉ inT v ∧ frA s' ∉ inT v) : frA s ∉ inT (canT v) ∧ frA s' ∉ inT (canT v) := ⟨fun hc => h.1 (in_can hc), fun hc => h.2 (in_can hc)⟩
theorem can_one {s : Bs} (v : Tm) (h : frA s ∉ inT v) : frA s ∉ inT (canT v) := fun hc => h (in_can hc)
/-- What can not be taken apart. -/
theorem apf_of {L : List Tm} {F : Tm → Prop} (h : ∀ t, F t → t.kind ≠ 3 ∧ t.kind ≠ 4 ∧ t.kind ≠ 10) : ApF L F := fun t ht _ =>
  ⟨fun k => absurd k (h t ht).1, fun k => absurd k (h t ht).2.1, fun k => absurd k (h t ht).2.2⟩
/-- What stands nowhere can not be tested. -/
theorem fresh_not {L : List Tm} {s : Bs} (hs : s ≠ []) (hL : ∀ v ∈ L, frA s ∉ inT v) : ¬ Cl (Fr L) (frA s) ∧ ¬ HasT L (frA s) := by
  have g : gdT (frA s) := gd_atom hs
  have hP := free_one s
  have hLP : ∀ u, Fr L u → frA s ∉ inT u := frL hL (fun v h => can_one v h)
  have hF : ∀ u, u = frA s → ¬ (frA s ∉ inT u) := fun u e h => h (by rw [e]; exact inT_self _)
  have hA : ApF L (fun u => u = frA s) := apf_of fun t e => by subst e; exact ⟨kA (by decide), kA (by decide), kA (by decide)⟩
  have hM : ∀ u, Fr (L ++ [frA s]) u → gdT u → Mk (BF L fun u => u = frA s) u := fun u hu hg => by
    rcases fr_app.1 hu with hu | hu
    · exact .base (.inl (.base hu hg)) hg
    · have := fr_one hu; rw [g.2] at this; exact .base (.inr this) hg
  have hK : ∀ u, frA s ∉ inT u → Cl (Fr (L ++ [frA s])) u → Cl (Fr L) u := fun u hu hc => mkP (P := fun u => frA s ∉ inT u) hP hF (frP hP hLP hF hA hM hc) hu
  refine ⟨fun h => clP hP (fun u hu _ => hLP u hu) h (inT_self _), fun ⟨t, h1, h2⟩ => ?_⟩
  have key : frA s ∉ inT t ∨ t = frA s := by
    clear h2
    induction h1 with
    | base hb hg =>
      rcases fr_app.1 hb with hb | hb
      · exact .inl (hLP _ hb)
      · have := fr_one hb; rw [g.2] at this; exact .inr this
    | pair _ k hu ih =>
      rcases ih with ih | ih
      · exact .inl (free_kid ih hu)
      · rw [ih] at k; exact absurd k (kA (by decide))
    | enc _ k e _ ih =>
      rcases ih with ih | ih
      · exact .inl (free_kid ih (by rw [e]; simp))
      · rw [ih] at k; exact absurd k (kA (by decide))
    | mask _ k e _ ih =>
      rcases ih with ih | ih
      · exact .inl (free_kid ih (by rw [e]; simp))
      · rw [ih] at k; exact absurd k (kA (by decide))
  rcases key with h | h
  · exact no_tst (P := fun u => frA s ∉ inT u) hP hK h h2
  · subst h
    exact absurd (tst_kind h2) (show ¬ (4 : Int) ≤ 2 by decide)
end Go.Sl
namespace Go.Sl
open Go Go.Vc Go.Proofs Go.RowKit

abbrev maskT (x y : Tm) : Tm := .mk 10 [] [x, y]
theorem gd_maskT {x y : Tm} (hx : gdT x) (hy : gdT y) (h1 : x.depth ≤ 59) (h2 : y.depth ≤ 59) : gdT (maskT x y) :=
  gd_of rfl rfl (.inr rfl) (by decide) (by simp [hx, hy]) (by simp only [Tm.depth, Tm.depths]; omega)
/-- A secret and a fresh atom, which stand nowhere. -/
structure Two (L : List Tm) (s s' : Bs) : Prop where
  hs : s ≠ []
  hs' : s' ≠ []
  ne : s ≠ s'
  hL : ∀ v ∈ L, frA s ∉ inT v ∧ frA s' ∉ inT v
section
variable {L : List Tm} {s s' n : Bs}
theorem dA (s : Bs) : (frA s).depth = 1 := by simp [Tm.depth, Tm.depths]
theorem Two.ga (h : Two L s s') : gdT (frA s) := gd_atom h.hs
theorem Two.gx (h : Two L s s') : gdT (frA s') := gd_atom h.hs'
theorem Two.gp (h : Two L s s') : gdT (pubT (frA s')) := gd_pubT h.gx (by rw [dA]; decide)
theorem Two.gw (h : Two L s s') (hn : n ≠ []) : gdT (kdfT (frA s) n) := gd_kdf hn h.ga (by rw [dA]; decide)
theorem Two.gm (h : Two L s s') (hn : n ≠ []) : gdT (maskT (pubT (frA s')) (kdfT (frA s) n)) := gd_maskT h.gp (h.gw hn) (by simp [Tm.depth, Tm.depths]) (by simp [Tm.depth, Tm.depths])
theorem Two.fr (h : Two L s s') : ∀ u, Fr L u → frA s ∉ inT u ∧ frA s' ∉ inT u := frL h.hL can_two
abbrev P2 (s s' : Bs) (u : Tm) : Prop := frA s ∉ inT u ∧ frA s' ∉ inT u
theorem nP_a : ¬ P2 s s' (frA s) := fun h => h.1 (inT_self _)
theorem nP_x : ¬ P2 s s' (frA s') := fun h => h.2 (inT_self _)
theorem nP_of {t u : Tm} (hu : u ∈ t.kids) (h : ¬ P2 s s' u) : ¬ P2 s s' t := fun hp => h ((free_two s s').kid hp hu)
theorem nP_p : ¬ P2 s s' (pubT (frA s')) := nP_of (u := frA s') (by simp [Tm.kids]) nP_x
theorem nP_w : ¬ P2 s s' (kdfT (frA s) n) := nP_of (u := frA s) (by simp [Tm.kids]) nP_a
theorem nP_m : ¬ P2 s s' (maskT (pubT (frA s')) (kdfT (frA s) n)) := nP_of (u := pubT (frA s')) (by simp [Tm.kids]) nP_p
/-- What is not known: no atom, no key of the secret. -/
theorem no_w (h : Two L s s') {F : Tm → Prop} (h1 : ¬ F (frA s)) (h2 : ¬ F (kdfT (frA s) n)) : ¬ Mk (BF L F) (kdfT (frA s) n) :=
  no_comp (free_two s s') h.fr (by decide) (by decide) (by decide) nP_w h2 fun hc => no_atom (free_two s s') h.fr nP_a h1 (hc _ (List.mem_singleton.2 rfl))
theorem no_p (h : Two L s s') {F : Tm → Prop} (h1 : ¬ F (frA s')) (h2 : ¬ F (pubT (frA s'))) : ¬ Mk (BF L F) (pubT (frA s')) :=
  no_comp (free_two s s') h.fr (by decide) (by decide) (by decide) nP_p h2 fun hc => no_atom (free_two s s') h.fr nP_x h1 (hc _ (List.mem_singleton.2 rfl))
theorem fr_gone {l : List Tm} {m : Tm} (g : gdT m) {u : Tm} (h : Fr (l ++ [m]) u) : Fr l u ∨ u = m := by
  rcases fr_app.1 h with h | h
  · exact .inl h
  · have := fr_one h; rw [g.2] at this; exact .inr this
/-- Masked under the secret a fresh point is no test. -/
theorem masked_not (h : Two L s s') (hn : n ≠ []) : ¬ Cl (Fr (L ++ [maskT (pubT (frA s')) (kdfT (frA s) n)])) (frA s) ∧ ¬ HasT (L ++ [maskT (pubT (frA s')) (kdfT (frA s) n)]) (frA s) := by
  obtain ⟨m, em⟩ : ∃ m, m = maskT (pubT (frA s')) (kdfT (frA s) n) := ⟨_, rfl⟩
  have gm : gdT m := by rw [em]; exact h.gm hn
  have hP := free_two s s'
  have nm : ¬ P2 s s' m := by rw [em]; exact nP_m
  rw [← em]
  -- without the secret
  have F0 : ∀ u, u = m → ¬ P2 s s' u := fun u e => by rw [e]; exact nm
  have na0 : ¬ (fun u => u = m) (frA s) := fun e => by rw [em] at e; cases e
  have nx0 : ¬ (fun u => u = m) (frA s') := fun e => by rw [em] at e; cases e
  have nw0 : ¬ (fun u => u = m) (kdfT (frA s) n) := fun e => by rw [em] at e; cases e
  have np0 : ¬ (fun u => u = m) (pubT (frA s')) := fun e => by rw [em] at e; cases e
  have A0 : ApF L (fun u => u = m) := fun t e _ => by
    rw [e, em]
    exact ⟨fun k => absurd k (show (10 : Int) ≠ 3 by decide), fun k => absurd k (show (10 : Int) ≠ 4 by decide), fun _ x y e hy => by cases e; rw [← em] at hy; exact absurd hy (no_w h na0 nw0)⟩
  have M0 : ∀ u, Fr (L ++ [m]) u → gdT u → Mk (BF L fun u => u = m) u := fun u hu hg => by
    rcases fr_gone gm hu with hu | hu
    · exact .base (.inl (.base hu hg)) hg
    · exact .base (.inr hu) hg
  have K0 : ∀ {u}, Cl (Fr (L ++ [m])) u → Mk (BF L fun u => u = m) u := fun hc => frP hP h.fr F0 A0 M0 hc
  -- with it
  let F : Tm → Prop := fun u => u = frA s ∨ u = m ∨ u = pubT (frA s')
  have F1 : ∀ u, F u → ¬ P2 s s' u := fun u e => by
    rcases e with rfl | rfl | rfl
    · exact nP_a
    · exact nm
    · exact nP_p
  have A1 : ApF L F := fun t e _ => by
    rcases e with rfl | e | rfl
    · exact ⟨fun k => absurd k (kA (by decide)), fun k => absurd k (kA (by decide)), fun k => absurd k (kA (by decide))⟩
    · rw [e, em]
      exact ⟨fun k => absurd k (show (10 : Int) ≠ 3 by decide), fun k => absurd k (show (10 : Int) ≠ 4 by decide), fun _ x y e hy => by cases e; exact .base (.inr (.inr (.inr rfl))) h.gp⟩
    · exact ⟨fun k => absurd k (show (8 : Int) ≠ 3 by decide), fun k => absurd k (show (8 : Int) ≠ 4 by decide), fun k => absurd k (show (8 : Int) ≠ 10 by decide)⟩
  have M1 : ∀ u, Fr (L ++ [m] ++ [frA s]) u → gdT u → Mk (BF L F) u := fun u hu hg => by
    rcases fr_gone h.ga hu with hu | hu
    · rcases fr_gone gm hu with hu | hu
      · exact .base (.inl (.base hu hg)) hg
      · exact .base (.inr (.inr (.inl hu))) hg
    · exact .base (.inr (.inl hu)) hg
  have K1 : ∀ u, P2 s s' u → Cl (Fr (L ++ [m] ++ [frA s])) u → Cl (Fr (L ++ [m])) u := fun u hu hc =>
    (mkP hP F1 (frP hP h.fr F1 A1 M1 hc) hu).mono fun v hv => fr_app.2 (.inl hv)
  have np : ¬ Cl (Fr (L ++ [m])) (pubT (frA s')) := fun hc => no_p h nx0 np0 (K0 hc)
  refine ⟨fun hc => no_atom hP h.fr nP_a na0 (K0 hc), fun ⟨t, h1, h2⟩ => ?_⟩
  have key : P2 s s' t ∨ F t := by
    clear h2
    induction h1 with
    | base hb hg =>
      rcases fr_gone h.ga hb with hb | hb
      · rcases fr_gone gm hb with hb | hb
        · exact .inl (h.fr _ hb)
        · exact .inr (.inr (.inl hb))
      · exact .inr (.inl hb)
    | pair _ k hu ih =>
      rcases ih with ih | rfl | ih | rfl
      · exact .inl (hP.kid ih hu)
      · exact absurd k (kA (by decide))
      · rw [ih, em] at k; exact absurd k (show (10 : Int) ≠ 3 by decide)
      · exact absurd k (show (8 : Int) ≠ 3 by decide)
    | enc _ k e _ ih =>
      rcases ih with ih | rfl | ih | rfl
      · exact .inl (hP.kid ih (by rw [e]; simp))
      · exact absurd k (kA (by decide))
      · rw [ih, em] at k; exact absurd k (show (10 : Int) ≠ 4 by decide)
      · exact absurd k (show (8 : Int) ≠ 4 by decide)
    | mask _ k e _ ih =>
      rcases ih with ih | rfl | ih | rfl
      · exact .inl (hP.kid ih (by rw [e]; simp))
      · exact absurd k (kA (by decide))
      · rw [ih, em] at e; cases e; exact .inr (.inr (.inr rfl))
      · exact absurd k (show (8 : Int) ≠ 10 by decide)
  rcases key with ht | rfl | ht | rfl
  · exact no_tst hP K1 ht h2
  · exact absurd (tst_kind h2) (show ¬ (4 : Int) ≤ 2 by decide)
  · rw [ht, em] at h2
    cases h2 with
    | enc k => exact absurd k (show (10 : Int) ≠ 4 by decide)
    | part k => exact absurd k (show ¬ ((10 : Int) = 5 ∨ (10 : Int) = 6 ∨ (10 : Int) = 7 ∨ (10 : Int) = 8) by decide)
    | share k => exact absurd k (show (10 : Int) ≠ 9 by decide)
    | mask k e a hx => cases e; rw [← em] at hx; exact np hx
  · cases h2 with
    | enc k => exact absurd k (show (8 : Int) ≠ 4 by decide)
    | part k a => exact np a.cl
    | share k => exact absurd k (show (8 : Int) ≠ 9 by decide)
    | mask k => exact absurd k (show (8 : Int) ≠ 10 by decide)
/-- With the point sent it is one. -/
theorem masked_has (h : Two L s s') (hn : n ≠ []) : HasT (L ++ [maskT (pubT (frA s')) (kdfT (frA s) n), pubT (frA s')]) (frA s) := by
  obtain ⟨m, em⟩ : ∃ m, m = maskT (pubT (frA s')) (kdfT (frA s) n) := ⟨_, rfl⟩
  have gm : gdT m := by rw [em]; exact h.gm hn
  have hP := free_two s s'
  have nm : ¬ P2 s s' m := by rw [em]; exact nP_m
  rw [← em]
  let F : Tm → Prop := fun u => u = m ∨ u = pubT (frA s')
  have F1 : ∀ u, F u → ¬ P2 s s' u := fun u e => by
    rcases e with rfl | rfl
    · exact nm
    · exact nP_p
  have na : ¬ F (frA s) := fun e => by
    rcases e with e | e
    · rw [em] at e; cases e
    · cases e
  have nw : ¬ F (kdfT (frA s) n) := fun e => by
    rcases e with e | e
    · rw [em] at e; cases e
    · cases e
  have A1 : ApF L F := fun t e _ => by
    rcases e with e | rfl
    · rw [e, em]
      exact ⟨fun k => absurd k (show (10 : Int) ≠ 3 by decide), fun k => absurd k (show (10 : Int) ≠ 4 by decide), fun _ x y e hy => by cases e; exact .base (.inr (.inr rfl)) h.gp⟩
    · exact ⟨fun k => absurd k (show (8 : Int) ≠ 3 by decide), fun k => absurd k (show (8 : Int) ≠ 4 by decide), fun k => absurd k (show (8 : Int) ≠ 10 by decide)⟩
  have mem : ∀ v ∈ [m, pubT (frA s')], gdT v := fun v hv => by
    simp only [List.mem_cons, List.not_mem_nil, or_false] at hv
    rcases hv with rfl | rfl
    · exact gm
    · exact h.gp
  have M1 : ∀ u, Fr (L ++ [m, pubT (frA s')]) u → gdT u → Mk (BF L F) u := fun u hu hg => by
    rcases fr_app.1 hu with hu | hu
    · exact .base (.inl (.base hu hg)) hg
    · have := (fr_gd mem).1 hu
      simp only [List.mem_cons, List.not_mem_nil, or_false] at this
      exact .base (.inr this) hg
  have b0 : ∀ v ∈ [m, pubT (frA s')], Fr (L ++ [m, pubT (frA s')]) v := fun v hv => fr_app.2 (.inr (in_fr hv (mem v hv)))
  refine ⟨m, .base (fr_app.2 (.inl (b0 m (by simp)))) gm, ?_⟩
  refine .mask (x := pubT (frA s')) (y := kdfT (frA s) n) (by rw [em]; rfl) (by rw [em]; rfl) (.base (b0 m (by simp)) gm) (.base (b0 _ (by simp)) h.gp) ?_ fun hc => ?_
  · exact .comp (h.gw hn) (show (7 : Int) ≠ 1 by decide) (show (7 : Int) ≠ 2 by decide) (show (7 : Int) ≠ 9 by decide) fun u hu => by
      have hu : u ∈ [frA s] := hu
      rw [List.mem_singleton.1 hu]
      exact .base (fr_app.2 (.inr (in_fr (List.mem_singleton.2 rfl) h.ga))) h.ga
  · exact no_w h na nw (frP hP h.fr F1 A1 M1 hc)
end
end Go.Sl
