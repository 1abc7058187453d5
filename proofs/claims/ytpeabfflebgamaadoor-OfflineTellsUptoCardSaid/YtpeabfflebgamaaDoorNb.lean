/- Contracts of layer 8: Analyze, Made; what is shown first. -/
import Derived.Test.YtpeabfflebgamaaDoorNa
import Derived.Test.YtpeabfflebgamaaDoorLi
set_option linter.unusedVariables false
set_option linter.unusedSimpArgs false
namespace Go.Sl
open Go Go.Vc Go.Proofs Go.RowKit

/-- What is made of a list, by its texts. -/
theorem mkB_mk {L : List Tm} (hg : ∀ t ∈ L, gdT t) : ∀ (n : Nat) (t : Tm), t.size ≤ n → canT t = t → (mkB (L.map txtT) t = true ↔ Mk (· ∈ L) t)
  | 0, t, hn, _ => by have := Tm.size_pos t; omega
  | n + 1, t, hn, hc => by
    have ih : ∀ u, u.size < t.size → canT u = u → (mkB (L.map txtT) u = true ↔ Mk (· ∈ L) u) := fun u hu => mkB_mk hg n u (by omega)
    rw [mkB_eq]
    by_cases h1 : txtT t = []
    · rw [if_pos h1]
      exact ⟨fun h => (by cases h), fun h => absurd h1 h.gd.1⟩
    have g : gdT t := ⟨h1, hc⟩
    have hm := mem_txt (fun t ht => (hg t ht).1) h1
    rw [if_neg h1]
    by_cases h2 : txtT t ∈ L.map txtT
    · rw [if_pos h2]; exact ⟨fun _ => .base (hm.1 h2) g, fun _ => rfl⟩
    have h3 : t ∉ L := fun h => h2 (hm.2 h)
    rw [if_neg h2, mk_iff]
    by_cases k1 : t.kind = 1
    · rw [if_pos k1]; exact ⟨fun _ => ⟨g, .inr (.inl k1)⟩, fun _ => rfl⟩
    rw [if_neg k1]
    by_cases k2 : t.kind = 2
    · rw [if_pos k2]
      refine ⟨fun h => (by cases h), ?_⟩
      rintro ⟨_, h | h | h | h⟩
      · exact absurd h h3
      · exact absurd h k1
      · exact absurd k2 h.2.1
      · rw [k2] at h; exact absurd h.1 (by decide)
    rw [if_neg k2]
    by_cases k9 : t.kind = 9
    · rw [if_pos k9]
      obtain ⟨x, y, e⟩ := kids2 g (.inr (.inr (.inl k9)))
      have hp := size_pub e
      have hx : x ∈ t.kids := by rw [e]; simp
      have hy : y ∈ t.kids := by rw [e]; simp
      have ix := ih x (size_mem hx) (gd_kid g hx).2
      have iy := ih y (size_mem hy) (gd_kid g hy).2
      have ipx := ih _ hp.1 (gd_pub g hx).2
      have ipy := ih _ hp.2 (gd_pub g hy).2
      rw [e]
      simp only [Bool.or_eq_true, Bool.and_eq_true, ix, iy, ipx, ipy]
      constructor
      · intro h; exact ⟨g, .inr (.inr (.inr ⟨k9, x, y, rfl, h⟩))⟩
      · rintro ⟨_, h | h | h | ⟨_, x', y', e', h⟩⟩
        · exact absurd h h3
        · exact absurd h k1
        · exact absurd k9 h.2.2.1
        · cases e'; exact h
    rw [if_neg k9, List.all_eq_true]
    have hk : (∀ u ∈ t.kids, mkB (L.map txtT) u = true) ↔ ∀ u ∈ t.kids, Mk (· ∈ L) u :=
      ⟨fun h u hu => (ih u (size_mem hu) (gd_kid g hu).2).1 (h u hu), fun h u hu => (ih u (size_mem hu) (gd_kid g hu).2).2 (h u hu)⟩
    rw [hk]
    constructor
    · intro h; exact ⟨g, .inr (.inr (.inl ⟨k1, k2, k9, h⟩))⟩
    · rintro ⟨_, h | h | h | h⟩
      · exact absurd h h3
      · exact absurd h k1
      · exact h.2.2.2
      · exact absurd h.1 k9
/-- What is in the list that is made of one. -/
theorem ofT_in {l : List Tm} {t : Tm} : t ∈ (ofT l).l ↔ Fr l t ∧ gdT t := by
  constructor
  · have key : ∀ (m : List Tm) (k : Kn), (∀ v ∈ m, v ∈ l) → (∀ u ∈ k.l, Fr l u ∧ gdT u) → ∀ u ∈ (m.foldl addT k).l, Fr l u ∧ gdT u := by
      intro m
      induction m with
      | nil => intro k _ h; exact h
      | cons v m ih =>
        intro k hm h
        refine ih _ (fun w hw => hm w (List.mem_cons_of_mem _ hw)) fun u hu => ?_
        unfold addT at hu
        split at hu
        · exact h u hu
        · rename_i hn
          simp only [not_or] at hn
          rcases List.mem_append.1 hu with hu | hu
          · exact h u hu
          · rw [List.mem_singleton.1 hu]
            exact ⟨⟨v, hm v (List.mem_cons_self ..), rfl⟩, hn.1, can_can v⟩
    exact key l ⟨[], [], []⟩ (fun v hv => hv) (fun u hu => by cases hu) t
  · rintro ⟨⟨v, hv, rfl⟩, hg⟩
    exact adds_in l (k := ⟨[], [], []⟩) (B := Fr l) ⟨fun t h => (by cases h), rfl⟩ (fun t ht hr => .base ⟨t, ht, rfl⟩ ⟨hr, can_can t⟩) v hv hg.1
theorem Mk.congr {B A : Tm → Prop} (h : ∀ t, gdT t → (B t ↔ A t)) {t : Tm} : Mk B t ↔ Mk A t :=
  ⟨Mk.cut fun u hu hg => .base ((h u hg).1 hu) hg, Mk.cut fun u hu hg => .base ((h u hg).2 hu) hg⟩
theorem ofT_mk {l : List Tm} {t : Tm} (hc : canT t = t) : mkB (ofT l).s t = true ↔ Mk (Fr l) t := by
  rw [(Sd.of l).s, mkB_mk (fun u hu => (ofT_in.1 hu).2) _ t (Nat.le_refl _) hc]
  exact Mk.congr fun u hg => ⟨fun h => (ofT_in.1 h).1, fun h => ofT_in.2 ⟨h, hg⟩⟩
/-- How the rounds end. -/
structure EndX (l : List Tm) (e : Kn) : Prop where
  k : EndK l e
  only : ∀ j, (∀ i, i + 1 < j → (itK (ofT l) i).l.length < (itK (ofT l) (i + 1)).l.length) → 0 < j → (itK (ofT l) j).l.length ≤ (itK (ofT l) (j - 1)).l.length → itK (ofT l) j = e
theorem endX_ex {l : List Tm} (hf : ∀ t ∈ l, Fit t) (hw : ∀ t ∈ l, wt t ≤ 1000000000) : ∃ e, EndX l e := by
  obtain ⟨e, h1, h2, h3⟩ := end_ex (univ_kid l) (of_wk hf hw)
  exact ⟨e, ⟨h1, h2⟩, h3⟩
open Classical in
/-- What a frame is taken apart into, and what was found out. -/
noncomputable def anK (l : List Tm) : Kn := if h : ∃ e, EndX l e then Classical.choose h else ⟨[], [], []⟩
theorem anK_end {l : List Tm} (hf : ∀ t ∈ l, Fit t) (hw : ∀ t ∈ l, wt t ≤ 1000000000) : EndX l (anK l) := by
  have h := endX_ex hf hw
  unfold anK
  rw [dif_pos h]
  exact Classical.choose_spec h
noncomputable abbrev anT (l : List Tm) : List Tm := (anK l).l
structure Frm (l : List Tm) : Prop where
  fit : ∀ t ∈ l, Fit t
  wt : ∀ t ∈ l, Sl.wt t ≤ 1000000000
  sz : Tm.sizes l ≤ 2000
  len : l.length ≤ 2000
theorem Frm.end {l : List Tm} (h : Frm l) : EndX l (anK l) := anK_end h.fit h.wt
theorem Frm.fin {l : List Tm} (h : Frm l) : FinK l (anK l) := h.end.k.fin
theorem Frm.wk {l : List Tm} (h : Frm l) : WK (univ l) (anK l) := h.end.k.1
theorem analyzedX_ok {l : List Tm} (h : Frm l) : PM (cx true) 27 [] [lv l] (anK l).obs (.ptr 2000 0) :=
  analyzed_ok (univ l) (univ_kid l) l h.fit h.wt (by have := h.len; omega) (of_wk h.fit h.wt) (by rw [univ_len]; exact h.sz) (anK l) h.end.only
/-- deduce.Analyze. -/
theorem analyze_ok {l : List Tm} (h : Frm l) : K true 8 [lv l] (.pv (.lst (tmvs (anT l)))) := by
  refine PC_of_vc (cx_ok true) (mixed true) { own := fun q => Nat.beq q 100004 } Tryd.func8 (by kernel_rfl) rfl rfl (by kernel_rfl) ?_
  repeat (conv => whnf); first|refine IndepAnd (by kernel_rfl) ?_|refine TreeAnd (by kernel_rfl) ?_|refine ⟨rfl,?_⟩|refine And.intro (by first|decide|exact trivial|exact ⟨rfl,trivial⟩|exact Nat.le_of_ble_eq_true rfl|exact ⟨_,rfl,rfl⟩|exact ⟨rfl,rfl,trivial⟩|exact ⟨rfl,rfl,rfl,trivial⟩|exact ⟨rfl,rfl,rfl,rfl,trivial⟩|exact ⟨rfl,rfl,rfl,rfl,rfl,trivial⟩) ?_
  conv => whnf
  refine ⟨_, MCallVC.pr (gT [(2000, 1900), (1001, 1901), (2002, 1902), (2003, 1903)]) (analyzedX_ok h) ⟨LE.of rfl, trivial⟩ trivial rfl, ?_⟩
  repeat (conv => whnf); first|refine IndepAnd (by kernel_rfl) ?_|refine TreeAnd (by kernel_rfl) ?_|refine ⟨rfl,?_⟩|refine And.intro (by first|decide|exact trivial|exact ⟨rfl,trivial⟩|exact Nat.le_of_ble_eq_true rfl|exact ⟨_,rfl,rfl⟩|exact ⟨rfl,rfl,trivial⟩|exact ⟨rfl,rfl,rfl,trivial⟩|exact ⟨rfl,rfl,rfl,rfl,trivial⟩|exact ⟨rfl,rfl,rfl,rfl,rfl,trivial⟩) ?_
  conv => whnf
  exact LEP.refl _
open Classical in
/-- Is a term made of a list? -/
noncomputable def mdT (l : List Tm) (t : Tm) : Bool := decide (Mk (Fr l) (canT t))
theorem mdT_iff {l : List Tm} {t : Tm} : mdT l t = true ↔ Mk (Fr l) (canT t) := by unfold mdT; exact @decide_eq_true_iff _ (Classical.propDecidable _)
theorem mdT_eq (l : List Tm) (t : Tm) : mdT l t = mkB (ofT l).s (canT t) := by rw [Bool.eq_iff_iff, mdT_iff, ofT_mk (can_can t)]
/-- deduce.Made. -/
theorem madeL_ok {l : List Tm} {t : Tm} (h : Frm l) (ft : Fit t) (ht : wt t ≤ 1000000000) : K true 9 [lv l, tv t] (.pv (.bool (mdT l t))) := by
  obtain ⟨D', d1, d2⟩ := Makes_ok (ofT l).l (ofT l).s t ft ht (ofT l).d (of_wk h.fit h.wt).d
  rw [mdT_eq]
  refine PC_of_vc (cx_ok true) (mixed true) { own := fun q => Nat.beq q 100006 || Nat.beq q 100008, tr := trT [(1, [0, 1, 0, 7, 15], .one 0 (.alt (.one 1 (.one 2 (.one 3 (.one 4 (.fin))))) (.one 2 (.one 1 (.one 3 (.one 4 (.fin)))))))] } Tryd.func9 (by kernel_rfl) rfl rfl (by kernel_rfl) ?_
  repeat' ((conv => whnf); first | refine IndepAnd (by kernel_rfl) ?_ | refine TreeAnd (by kernel_rfl) ?_ | refine ⟨rfl, ?_⟩ | refine ⟨by decide, ?_⟩ | refine ⟨trivial, ?_⟩ | refine ⟨⟨rfl, trivial⟩, ?_⟩ | refine ⟨Nat.le_of_ble_eq_true rfl, ?_⟩ | refine ⟨⟨_, rfl, rfl⟩, ?_⟩ | refine ⟨⟨rfl, rfl, trivial⟩, ?_⟩ | refine ⟨⟨rfl, rfl, rfl, trivial⟩, ?_⟩ | refine ⟨⟨rfl, rfl, rfl, rfl, trivial⟩, ?_⟩ | refine ⟨⟨rfl, rfl, rfl, rfl, rfl, trivial⟩, ?_⟩ | refine AltAnd ?_ ?_)
  all_goals (conv => whnf)
  all_goals refine ⟨_, MCallVC.pr (gT [(2000, 1900), (1001, 1901), (2002, 1902), (2003, 1903)]) (of_ok l h.fit h.wt (by have := h.len; omega)) ⟨LE.of rfl, trivial⟩ trivial rfl, ?_⟩
  repeat' ((conv => whnf); first | refine IndepAnd (by kernel_rfl) ?_ | refine TreeAnd (by kernel_rfl) ?_ | refine ⟨rfl, ?_⟩ | refine ⟨by decide, ?_⟩ | refine ⟨trivial, ?_⟩ | refine ⟨⟨rfl, trivial⟩, ?_⟩ | refine ⟨Nat.le_of_ble_eq_true rfl, ?_⟩ | refine ⟨⟨_, rfl, rfl⟩, ?_⟩ | refine ⟨⟨rfl, rfl, trivial⟩, ?_⟩ | refine ⟨⟨rfl, rfl, rfl, trivial⟩, ?_⟩ | refine ⟨⟨rfl, rfl, rfl, rfl, trivial⟩, ?_⟩ | refine ⟨⟨rfl, rfl, rfl, rfl, rfl, trivial⟩, ?_⟩ | refine AltAnd ?_ ?_)
  all_goals (conv => whnf)
  all_goals refine ⟨_, MCallVC.pr (gT [(2000, 1900), (2001, 1901), (2002, 1902), (2003, 1903)]) d2 ⟨LE.of rfl, LE.of rfl, trivial⟩ ⟨.inr (.inl rfl), .inr (.inl rfl), .inr (.inl rfl), .inr (.inl rfl), trivial⟩ rfl, ?_⟩
  repeat' ((conv => whnf); first | refine IndepAnd (by kernel_rfl) ?_ | refine TreeAnd (by kernel_rfl) ?_ | refine ⟨rfl, ?_⟩ | refine ⟨by decide, ?_⟩ | refine ⟨trivial, ?_⟩ | refine ⟨⟨rfl, trivial⟩, ?_⟩ | refine ⟨Nat.le_of_ble_eq_true rfl, ?_⟩ | refine ⟨⟨_, rfl, rfl⟩, ?_⟩ | refine ⟨⟨rfl, rfl, trivial⟩, ?_⟩ | refine ⟨⟨rfl, rfl, rfl, trivial⟩, ?_⟩ | refine ⟨⟨rfl, rfl, rfl, rfl, trivial⟩, ?_⟩ | refine ⟨⟨rfl, rfl, rfl, rfl, rfl, trivial⟩, ?_⟩ | refine AltAnd ?_ ?_)
  all_goals (conv => whnf)
  all_goals exact LEP.refl _
theorem knowsF_ok {l : List Tm} {t : Tm} (h : Frm l) (ft : Fit t) (ht : wt t ≤ 1000000000) : K true 10 [lv l, tv t] (.pv (.bool (knT l t))) := knowsT_ok l t h.fit h.wt h.sz h.len ft ht
end Go.Sl
