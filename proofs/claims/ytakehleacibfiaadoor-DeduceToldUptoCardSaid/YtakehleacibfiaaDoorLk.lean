/- KeysHide: keys that are made of a key do not tell it. -/
import Derived.Test.YtakehleacibfiaaDoorMb
import Derived.Test.YtakehleacibfiaaDoorKa
import Derived.Test.YtakehleacibfiaaDoorFi
set_option linter.unusedVariables false
set_option linter.unusedSimpArgs false
namespace Go.Sl
open Go Go.Vc Go.Proofs Go.RowKit

theorem can_kind (t : Tm) : (canT t).kind = t.kind := by rw [canT_eq]; exact (swapT_kind _ _ _).1
theorem fr_kind {l : List Tm} {t : Tm} (h : Fr l t) : ∃ v ∈ l, v.kind = t.kind := by
  obtain ⟨v, hv, rfl⟩ := h
  exact ⟨v, hv, (can_kind v).symm⟩
theorem knT_true {l : List Tm} {t : Tm} (hc : canT t = t) (h : Mk (Fr l) t) : knT l t = true := by
  rw [knT_iff, hc]; exact h.cl
theorem knT_false {l : List Tm} {t : Tm} (hc : canT t = t) (ha : Apart (Fr l)) (h : ¬ Mk (Fr l) t) : knT l t = false := by
  rw [← Bool.not_eq_true, knT_iff, hc]; exact fun hk => h (hk.mk ha)
theorem apart_l {l : List Tm} (h : ∀ v ∈ l, v.kind ≠ 3 ∧ v.kind ≠ 4 ∧ v.kind ≠ 10) : Apart (Fr l) := apart_of fun t ht => by
  obtain ⟨v, hv, e⟩ := fr_kind ht
  rw [← e]; exact h v hv
theorem knowsL_ok {l : List Tm} {t : Tm} {L : List PV} {v : Bool} (hL : L = tmvs l) (hv : knT l t = v) (hf : ∀ t ∈ l, Fit t) (hw : ∀ t ∈ l, wt t ≤ 1000000000) (hs : Tm.sizes l ≤ 2000) (hl : l.length ≤ 2000) (ft : Fit t) (ht : wt t ≤ 1000000000) :
    K true 19 [.p (.lst L), tv t] (.pv (.bool v)) := by
  rw [hL, ← hv]; exact knowsT_ok l t hf hw hs hl ft ht
/-- What is made of one key, and of both. -/
abbrev aloneT (a : Tm) (n : Int) (s : Bs) : List Tm := [numT a useW n, numT a otpW n, kdfT a wordW, kdfT a (longW ++ ([120] ++ s))]
abbrev bothT (a b : Tm) : List Tm := [joinT a b [120] [121], joinT a b subW tickW, joinT a b strW repW]
theorem canT_mk1 (k : Int) (n : Bs) (x : Tm) : canT (.mk k n [x]) = .mk k n [canT x] := by rw [canT_eq]; simp [Tm.kind, Tm.name, Tm.kids, swapT]
theorem canT_atom (k : Int) (n : Bs) : canT (.mk k n []) = .mk k n [] := by rw [canT_eq]; simp [Tm.kind, Tm.name, Tm.kids, swapT]
theorem gd_kdf {x : Tm} {n : Bs} (hn : n ≠ []) (hx : gdT x) (hd : x.depth ≤ 59) : gdT (kdfT x n) :=
  gd_of rfl (by cases n <;> simp_all [Tm.named]) (.inr rfl) (by decide) (by simpa using hx) (by simp only [Tm.depth, Tm.depths]; omega)
theorem gd_hash {x : Tm} (hx : gdT x) (hd : x.depth ≤ 59) : gdT (hashT x) :=
  gd_of rfl rfl (.inr rfl) (by decide) (by simpa using hx) (by simp only [Tm.depth, Tm.depths]; omega)
theorem gd_pair {l : List Tm} (hx : ∀ x ∈ l, gdT x) (hd : Tm.depths l ≤ 59) : gdT (pairT l) :=
  gd_of rfl rfl (.inl (by decide)) (by decide) hx (by simp only [Tm.depth]; omega)
theorem fr_one {a t : Tm} (h : Fr [a] t) : t = canT a := by
  obtain ⟨v, hv, rfl⟩ := h
  rw [List.mem_singleton.1 hv]
section
variable {x y : Bs} {p q : Bs}
/-- What is made of a key alone. -/
theorem alone_has (hx : x ≠ []) (hp : p ≠ []) : knT [atomT x] (kdfT (atomT x) p) = true := by
  have g := gd_atom hx
  refine knT_true (gd_kdf hp g (by simp [Tm.depth, Tm.depths])).2 (.of (gd_kdf hp g (by simp [Tm.depth, Tm.depths])) (by decide) (by decide) (by decide) fun u hu => ?_)
  simp only [List.mem_singleton] at hu
  subst hu
  exact .base ⟨_, List.mem_singleton.2 rfl, g.2⟩ g
theorem alone_no (hx : x ≠ []) (hp : p ≠ []) (hxy : x ≠ y) : knT [atomT y] (kdfT (atomT x) p) = false := by
  have g := gd_atom hx
  refine knT_false (gd_kdf hp g (by simp [Tm.depth, Tm.depths])).2 (apart_l (by simp [Tm.kind])) fun h => ?_
  rcases ((mk_comp (by decide) (by decide) (by decide)).1 h).2 with h | h
  · have := fr_one h
    rw [canT_atom] at this
    cases this
  · have h := (mk_atom.1 (h _ (List.mem_singleton.2 rfl))).2
    have := fr_one h
    rw [canT_atom] at this
    injection this with _ e
    exact hxy e
theorem join_gd (hx : x ≠ []) (hy : y ≠ []) : gdT (joinT (atomT x) (atomT y) p q) := by
  have g1 : gdT (kdfT (atomT x) (joinW ++ p)) := gd_kdf (by simp) (gd_atom hx) (by simp [Tm.depth, Tm.depths])
  have g2 : gdT (kdfT (atomT y) (joinW ++ q)) := gd_kdf (by simp) (gd_atom hy) (by simp [Tm.depth, Tm.depths])
  refine gd_hash (gd_pair (fun u hu => ?_) (by simp [Tm.depth, Tm.depths])) (by simp [Tm.depth, Tm.depths])
  simp only [List.mem_cons, List.not_mem_nil, or_false] at hu
  rcases hu with rfl | rfl
  · exact g1
  · exact g2
theorem both_has (hx : x ≠ []) (hy : y ≠ []) : knT [atomT x, atomT y] (joinT (atomT x) (atomT y) p q) = true := by
  have hj := join_gd (p := p) (q := q) hx hy
  refine knT_true hj.2 ?_
  have b1 : Mk (Fr [atomT x, atomT y]) (atomT x) := .base ⟨_, by simp, (gd_atom hx).2⟩ (gd_atom hx)
  have b2 : Mk (Fr [atomT x, atomT y]) (atomT y) := .base ⟨_, List.mem_cons_of_mem _ (List.mem_singleton.2 rfl), (gd_atom hy).2⟩ (gd_atom hy)
  have hp := gd_kid hj (u := pairT [kdfT (atomT x) (joinW ++ p), kdfT (atomT y) (joinW ++ q)]) (by simp [joinT, Tm.kids])
  refine .of hj (by decide) (by decide) (by decide) fun u hu => ?_
  simp only [List.mem_singleton] at hu
  subst hu
  refine .of hp (by decide) (by decide) (by decide) fun u hu => ?_
  have gu := gd_kid hp hu
  simp only [List.mem_cons, List.not_mem_nil, or_false] at hu
  rcases hu with rfl | rfl
  · refine .comp gu (by simp [Tm.kind]) (by simp [Tm.kind]) (by simp [Tm.kind]) fun u hu => ?_
    simp only [Tm.kids, List.mem_singleton] at hu
    subst hu; exact b1
  · refine .comp gu (by simp [Tm.kind]) (by simp [Tm.kind]) (by simp [Tm.kind]) fun u hu => ?_
    simp only [Tm.kids, List.mem_singleton] at hu
    subst hu; exact b2
theorem both_no {z : Bs} (hx : x ≠ []) (hy : y ≠ []) (hz : z ≠ x ∨ z ≠ y) : knT [atomT z] (joinT (atomT x) (atomT y) p q) = false := by
  have hj := join_gd (p := p) (q := q) hx hy
  refine knT_false hj.2 (apart_l (by simp [Tm.kind])) fun h => ?_
  have no : ∀ k n l, k ≠ 2 → ¬ Fr [atomT z] (.mk k n l) := fun k n l hk h => by
    have := fr_one h
    rw [canT_atom] at this
    injection this with e
    exact hk e
  have at1 : ∀ w : Bs, Mk (Fr [atomT z]) (atomT w) → w = z := fun w h => by
    have := fr_one (mk_atom.1 h).2
    rw [canT_atom] at this
    injection this
  have h1 := (((mk_comp (by decide) (by decide) (by decide)).1 h).2.resolve_left (no _ _ _ (by decide))) _ (List.mem_singleton.2 rfl)
  have h2 := (((mk_comp (by decide) (by decide) (by decide)).1 h1).2.resolve_left (no _ _ _ (by decide)))
  have h3 := h2 (kdfT (atomT x) (joinW ++ p)) (by simp)
  have h4 := h2 (kdfT (atomT y) (joinW ++ q)) (by simp)
  have h5 := at1 x ((((mk_comp (by decide) (by decide) (by decide)).1 h3).2.resolve_left (no _ _ _ (by decide))) _ (List.mem_singleton.2 rfl))
  have h6 := at1 y ((((mk_comp (by decide) (by decide) (by decide)).1 h4).2.resolve_left (no _ _ _ (by decide))) _ (List.mem_singleton.2 rfl))
  rcases hz with hz | hz
  · exact hz h5.symm
  · exact hz h6.symm
end
/-- Hashes and keys tell no atom. -/
theorem all_no {l : List Tm} {x : Bs} (hx : x ≠ []) (hl : ∀ v ∈ l, v.kind = 6 ∨ v.kind = 7) : knT l (atomT x) = false := by
  refine knT_false (gd_atom hx).2 (apart_l fun v hv => by rcases hl v hv with e | e <;> rw [e] <;> decide) fun h => ?_
  obtain ⟨v, hv, e⟩ := fr_kind (mk_atom.1 h).2
  rcases hl v hv with e' | e' <;> rw [e'] at e <;> simp [Tm.kind] at e
abbrev keyA (s : Bs) : Tm := atomT ([97, 32] ++ s)
abbrev keyB (s : Bs) : Tm := atomT ([98, 32] ++ s)
end Go.Sl
