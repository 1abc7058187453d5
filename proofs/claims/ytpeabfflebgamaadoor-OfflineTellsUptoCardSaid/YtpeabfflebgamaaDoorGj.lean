/- Contracts: Canon. -/
/- mid -/
import Derived.Test.YtpeabfflebgamaaDoorGi
set_option linter.unusedVariables false
set_option linter.unusedSimpArgs false
namespace Go.Sl
open Go Go.Vc Go.Proofs Go.RowKit

def swapT (k : Int) (n : Bs) : List Tm → Tm
  | [x, y] => if k = 9 ∧ lessT y x = true then .mk k n [y, x] else .mk k n [x, y]
  | l => .mk k n l
mutual
/-- Shares put in order. -/
def canT : Tm → Tm
  | .mk k n l => swapT k n (canTs l)
def canTs : List Tm → List Tm
  | [] => []
  | t :: ts => canT t :: canTs ts
end
theorem canTs_map (l : List Tm) : canTs l = l.map canT := by
  induction l with
  | nil => rfl
  | cons t l ih => rw [canTs, ih]; rfl
theorem canT_eq (t : Tm) : canT t = swapT t.kind t.name (t.kids.map canT) := by cases t; rw [canT, canTs_map]; rfl
theorem swapT_kind (k : Int) (n : Bs) (l : List Tm) : (swapT k n l).kind = k ∧ (swapT k n l).name = n ∧ ((swapT k n l).kids = l ∨ ∃ x y, l = [x, y] ∧ (swapT k n l).kids = [y, x]) := by
  unfold swapT
  split
  · split
    · exact ⟨rfl, rfl, .inr ⟨_, _, rfl, rfl⟩⟩
    · exact ⟨rfl, rfl, .inl rfl⟩
  · exact ⟨rfl, rfl, .inl rfl⟩
theorem wts_map {l : List Tm} (h : ∀ u ∈ l, wt (canT u) = wt u) : wts (l.map canT) = wts l := by
  induction l with
  | nil => rfl
  | cons t l ih =>
    simp only [List.map_cons, wts]
    rw [h t (List.mem_cons_self ..), ih fun u hu => h u (List.mem_cons_of_mem _ hu)]
theorem can_wt : ∀ t : Tm, wt (canT t) = wt t := by
  intro t
  induction t using Tm.indk with
  | h t ih =>
  rw [canT_eq]
  obtain ⟨h1, h2, h3⟩ := swapT_kind t.kind t.name (t.kids.map canT)
  have hm := wts_map ih
  rw [wt_eq, wt_eq t, h2]
  rcases h3 with h3 | ⟨x, y, h3, h4⟩
  · rw [h3, hm]
  · rw [h4, ← hm, h3]
    simp only [wts]
    omega
theorem Fit.of {t : Tm} (h1 : t.kids.length ≤ 9223372036854775807) (h2 : t.name.length ≤ 9223372036854775807) (h3 : ∀ u ∈ t.kids, Fit u) : Fit t := by cases t; exact Fit.mk h1 h2 h3
theorem can_fit : ∀ t : Tm, Fit t → Fit (canT t) := by
  intro t
  induction t using Tm.indk with
  | h t ih =>
  intro hf
  rw [canT_eq]
  obtain ⟨h1, h2, h3⟩ := swapT_kind t.kind t.name (t.kids.map canT)
  have hl := hf.len
  have hk : ∀ u ∈ t.kids.map canT, Fit u := fun u hu => by
    obtain ⟨v, hv, rfl⟩ := List.mem_map.1 hu
    exact ih v hv (hf.kid hv)
  refine Fit.of ?_ (by rw [h2]; exact hf.nlen) ?_
  · rcases h3 with h3 | ⟨x, y, h3, h4⟩
    · rw [h3, List.length_map]; exact hl
    · rw [h4]; simp
  · rcases h3 with h3 | ⟨x, y, h3, h4⟩
    · rw [h3]; exact hk
    · rw [h4]
      rw [h3] at hk
      intro u hu
      simp only [List.mem_cons, List.not_mem_nil, or_false] at hu
      rcases hu with rfl | rfl
      · exact hk _ (by simp)
      · exact hk _ (by simp)
theorem text_big {t : Tm} (hf : Fit t) (hw : wt t ≤ 1000000000) : t.text.length ≤ 1099511627776 := by
  have := text_wt t hf
  omega
/-- The row in the midst of it. -/
def midT (l : List Tm) (i : Nat) : List Tm := (l.take i).map canT ++ l.drop i
theorem mid_get {l : List Tm} {i : Nat} (h : i < l.length) : (tmvs (midT l i))[i]? = some (TV l[i]) := by
  rw [tmvs_eq, List.getElem?_map, midT, List.getElem?_append_right (by simp; omega)]
  simp [Nat.min_eq_left (Nat.le_of_lt h), List.getElem?_drop, h]
theorem mid_set {l : List Tm} {i : Nat} (h : i < l.length) : (tmvs (midT l i)).set i (TV (canT l[i])) = tmvs (midT l (i + 1)) := by
  rw [tmvs_eq, tmvs_eq, ← List.map_set]
  congr 1
  rw [midT, midT, List.set_append_right _ _ (by simp; omega), show i - ((l.take i).map canT).length = 0 by simp; omega, List.drop_eq_getElem_cons h, List.set_cons_zero, List.take_succ_eq_append_getElem h, List.map_append, List.append_assoc]
  rfl
theorem mid_len (l : List Tm) (i : Nat) : (tmvs (midT l i)).length = l.length := by
  rw [tmvs_length, midT]
  simp
  omega
theorem mid_end (l : List Tm) : midT l l.length = l.map canT := by simp [midT]
theorem canon_ok : ∀ t, Fit t → wt t ≤ 1000000000 → K true 42 [tv t] (.pv (TV (canT t))) := by
  intro t
  induction t using Tm.indk with
  | h t ih =>
  intro hf hw
  have hsw := size_wt t
  have hkl : t.kids.length ≤ 1000000000 := by
    have h1 := wt_eq t
    have : ∀ l : List Tm, l.length ≤ wts l := by
      intro l
      induction l with
      | nil => simp
      | cons u l ih => have := wt_eq u; simp only [List.length_cons, wts]; omega
    have := this t.kids
    omega
  refine PC_of_vc (cx_ok true) (mixed true) { own := fun q => Nat.beq q 7 || Nat.beq q 100046, kp := kpT [(5, [1, 2, 3, 4, 10, 11, 12], [1, 2, 4, 7]), (7, [1, 2], [1, 2, 7])] } Tryd.func42 (by kernel_rfl) rfl rfl (by kernel_rfl) ?_
  repeat (conv => whnf); first|refine IndepAnd (by kernel_rfl) ?_|refine TreeAnd (by kernel_rfl) ?_|refine ⟨rfl,?_⟩|refine And.intro (by first|decide|exact trivial|exact Nat.le_of_ble_eq_true rfl|exact ⟨_,rfl,rfl⟩|exact ⟨rfl,trivial⟩|exact ⟨rfl,rfl,trivial⟩) ?_
  conv => whnf
  refine ⟨_, CallVC.pr (clone_fresh true t.kids (by omega)) rfl rfl, ?_⟩
  repeat (conv => whnf); first|refine IndepAnd (by kernel_rfl) ?_|refine TreeAnd (by kernel_rfl) ?_|refine ⟨rfl,?_⟩|refine And.intro (by first|decide|exact trivial|exact Nat.le_of_ble_eq_true rfl|exact ⟨_,rfl,rfl⟩|exact ⟨rfl,trivial⟩|exact ⟨rfl,rfl,trivial⟩) ?_
  conv => whnf
  refine ⟨{ i : Nat // i ≤ t.kids.length }, fun i => S.of [(1, .ptr 1 0), (2, .ptr 2 0), (10, .slc 7), (11, iv ((tmvs t.kids).length : Int)), (12, iv (i.1 : Int))] [(1, .var true 24 (.mix [.p (.int .i64 t.kind), .p (.str t.name), .slc 7])), (2, .var true 24 (.p tiTerm.zero)), (7, .row 24 3 (tmvs (midT t.kids i.1)))], fun i => t.kids.length - i.1, ⟨0, Nat.zero_le _⟩, ?_, ?_⟩
  · refine Ge.of rfl ?_ ?_
    · repeat (conv => whnf); refine ⟨LE.of rfl, ?_⟩
      trivial
    · repeat (conv => whnf); refine ⟨OLE.of rfl, ?_⟩
      trivial
  rintro ⟨i, hi⟩
  repeat (conv => whnf); first|refine IndepAnd (by kernel_rfl) ?_|refine TreeAnd (by kernel_rfl) ?_|refine ⟨rfl,?_⟩|refine And.intro (by first|decide|exact trivial|exact Nat.le_of_ble_eq_true rfl|exact ⟨_,rfl,rfl⟩|exact ⟨rfl,trivial⟩|exact ⟨rfl,rfl,trivial⟩) ?_
  conv => whnf
  refine @bool_rec _ _ _ ?_ ?_ <;> intro h1
  · have hlt : i < t.kids.length := by have := of_decide_eq_true h1; rw [tmvs_length] at this; exact Int.ofNat_lt.1 this
    repeat (conv => whnf); first|refine IndepAnd (by kernel_rfl) ?_|refine TreeAnd (by kernel_rfl) ?_|refine ⟨rfl,?_⟩|refine And.intro (by first|decide|exact trivial|exact Nat.le_of_ble_eq_true rfl|exact ⟨_,rfl,rfl⟩|exact ⟨rfl,trivial⟩|exact ⟨rfl,rfl,trivial⟩) ?_
    conv => whnf
    refine ⟨Int.natCast_nonneg _, by show i < (tmvs (midT t.kids i)).length; rw [mid_len]; exact hlt, ?_⟩
    repeat (conv => whnf); first|refine IndepAnd (by kernel_rfl) ?_|refine TreeAnd (by kernel_rfl) ?_|refine ⟨rfl,?_⟩|refine And.intro (by first|decide|exact trivial|exact Nat.le_of_ble_eq_true rfl|exact ⟨_,rfl,rfl⟩|exact ⟨rfl,trivial⟩|exact ⟨rfl,rfl,trivial⟩) ?_
    conv => whnf
    refine ⟨TV t.kids[i], mid_get hlt, rfl, rfl, rfl, ?_⟩
    repeat (conv => whnf); first|refine IndepAnd (by kernel_rfl) ?_|refine TreeAnd (by kernel_rfl) ?_|refine ⟨rfl,?_⟩|refine And.intro (by first|decide|exact trivial|exact Nat.le_of_ble_eq_true rfl|exact ⟨_,rfl,rfl⟩|exact ⟨rfl,trivial⟩|exact ⟨rfl,rfl,trivial⟩) ?_
    conv => whnf
    refine ⟨_, CallVC.pr (ih t.kids[i] (List.getElem_mem hlt) (hf.kid (List.getElem_mem hlt)) (by have := wts_mem (List.getElem_mem hlt); have := wt_eq t; omega)) rfl rfl, ?_⟩
    repeat (conv => whnf); first|refine IndepAnd (by kernel_rfl) ?_|refine TreeAnd (by kernel_rfl) ?_|refine ⟨rfl,?_⟩|refine And.intro (by first|decide|exact trivial|exact Nat.le_of_ble_eq_true rfl|exact ⟨_,rfl,rfl⟩|exact ⟨rfl,trivial⟩|exact ⟨rfl,rfl,trivial⟩) ?_
    conv => whnf
    refine ⟨Int.natCast_nonneg _, by show i < (tmvs (midT t.kids i)).length; rw [mid_len]; exact hlt, ?_⟩
    repeat (conv => whnf); first|refine IndepAnd (by kernel_rfl) ?_|refine TreeAnd (by kernel_rfl) ?_|refine ⟨rfl,?_⟩|refine And.intro (by first|decide|exact trivial|exact Nat.le_of_ble_eq_true rfl|exact ⟨_,rfl,rfl⟩|exact ⟨rfl,trivial⟩|exact ⟨rfl,rfl,trivial⟩) ?_
    conv => whnf
    refine ⟨by show i < (tmvs (midT t.kids i)).length; rw [mid_len]; exact hlt, rfl, rfl, rfl, ?_⟩
    repeat (conv => whnf); first|refine IndepAnd (by kernel_rfl) ?_|refine TreeAnd (by kernel_rfl) ?_|refine ⟨rfl,?_⟩|refine And.intro (by first|decide|exact trivial|exact Nat.le_of_ble_eq_true rfl|exact ⟨_,rfl,rfl⟩|exact ⟨rfl,trivial⟩|exact ⟨rfl,rfl,trivial⟩) ?_
    conv => whnf
    refine ⟨_, wrapN (n := i + 1) rfl (by omega), ?_⟩
    repeat (conv => whnf); first|refine IndepAnd (by kernel_rfl) ?_|refine TreeAnd (by kernel_rfl) ?_|refine ⟨rfl,?_⟩|refine And.intro (by first|decide|exact trivial|exact Nat.le_of_ble_eq_true rfl|exact ⟨_,rfl,rfl⟩|exact ⟨rfl,trivial⟩|exact ⟨rfl,rfl,trivial⟩) ?_
    conv => whnf
    refine ⟨⟨i + 1, hlt⟩, ?_, by show t.kids.length - (i + 1) < t.kids.length - i; omega⟩
    refine Ge.of rfl ?_ ?_
    · repeat (conv => whnf); refine ⟨LE.of rfl, ?_⟩
      trivial
    · repeat (conv => whnf); first | refine ⟨OLE.of rfl, ?_⟩ | refine ⟨OLE.of (congrArg (AO.row 24 3) (mid_set hlt)), ?_⟩
      trivial
  · have hge : i = t.kids.length := by have h1 := of_decide_eq_false h1; rw [tmvs_length] at h1; have h1 : ¬ (i : Int) < (t.kids.length : Int) := h1; omega
    have hL : midT t.kids i = t.kids.map canT := by rw [hge]; exact mid_end _
    have hcan : canT t = swapT t.kind t.name (midT t.kids i) := by rw [hL]; exact canT_eq t
    have hfin : (∀ x y, midT t.kids i = [x, y] → ¬ (t.kind = 9 ∧ lessT y x = true)) → TV (.mk t.kind t.name (midT t.kids i)) = TV (canT t) := by
      intro h
      rw [hcan]
      unfold swapT
      split
      · rename_i x y e
        rw [if_neg (h x y e), e]
      · rfl
    repeat (conv => whnf); first|refine IndepAnd (by kernel_rfl) ?_|refine TreeAnd (by kernel_rfl) ?_|refine ⟨rfl,?_⟩|refine And.intro (by first|decide|exact trivial|exact Nat.le_of_ble_eq_true rfl|exact ⟨_,rfl,rfl⟩|exact ⟨rfl,trivial⟩|exact ⟨rfl,rfl,trivial⟩) ?_
    conv => whnf
    refine @bool_rec _ _ _ ?_ ?_ <;> intro h2
    · have h2 : t.kind = 9 := of_decide_eq_true h2
      repeat (conv => whnf); first|refine IndepAnd (by kernel_rfl) ?_|refine TreeAnd (by kernel_rfl) ?_|refine ⟨rfl,?_⟩|refine And.intro (by first|decide|exact trivial|exact Nat.le_of_ble_eq_true rfl|exact ⟨_,rfl,rfl⟩|exact ⟨rfl,trivial⟩|exact ⟨rfl,rfl,trivial⟩) ?_
      conv => whnf
      refine @bool_rec _ _ _ ?_ ?_ <;> intro h3
      · have h3 : (midT t.kids i).length = 2 := by have := of_decide_eq_true h3; rw [tmvs_length] at this; exact Int.ofNat_inj.1 this
        obtain ⟨x, y, hxy⟩ : ∃ x y, midT t.kids i = [x, y] := by
          match midT t.kids i, h3 with
          | [x, y], _ => exact ⟨x, y, rfl⟩
        have hrow : tmvs (midT t.kids i) = [TV x, TV y] := by rw [hxy]; exact (tmvs2 x y).symm
        have hmem : ∀ u ∈ midT t.kids i, Fit u ∧ wt u ≤ 1000000000 := fun u hu => by
          rw [hL] at hu
          obtain ⟨v, hv, rfl⟩ := List.mem_map.1 hu
          exact ⟨can_fit v (hf.kid hv), by rw [can_wt]; have := wts_mem hv; have := wt_eq t; omega⟩
        have hx := hmem x (by rw [hxy]; simp)
        have hy := hmem y (by rw [hxy]; simp)
        have hless := less_ok y x hy.1 hx.1 (fun _ => text_big hy.1 hy.2) (fun _ => text_big hx.1 hx.2)
        repeat (conv => whnf); first|refine IndepAnd (by kernel_rfl) ?_|refine TreeAnd (by kernel_rfl) ?_|refine ⟨rfl,?_⟩|refine And.intro (by first|decide|exact trivial|exact Nat.le_of_ble_eq_true rfl|exact ⟨_,rfl,rfl⟩|exact ⟨rfl,trivial⟩|exact ⟨rfl,rfl,trivial⟩) ?_
        conv => whnf
        refine ⟨by show 1 < (tmvs (midT t.kids i)).length; rw [hrow]; simp, ?_⟩
        repeat (conv => whnf); first|refine IndepAnd (by kernel_rfl) ?_|refine TreeAnd (by kernel_rfl) ?_|refine ⟨rfl,?_⟩|refine And.intro (by first|decide|exact trivial|exact Nat.le_of_ble_eq_true rfl|exact ⟨_,rfl,rfl⟩|exact ⟨rfl,trivial⟩|exact ⟨rfl,rfl,trivial⟩) ?_
        conv => whnf
        refine ⟨TV y, by show (tmvs (midT t.kids i))[1]? = _; rw [hrow]; rfl, rfl, rfl, rfl, ?_⟩
        repeat (conv => whnf); first|refine IndepAnd (by kernel_rfl) ?_|refine TreeAnd (by kernel_rfl) ?_|refine ⟨rfl,?_⟩|refine And.intro (by first|decide|exact trivial|exact Nat.le_of_ble_eq_true rfl|exact ⟨_,rfl,rfl⟩|exact ⟨rfl,trivial⟩|exact ⟨rfl,rfl,trivial⟩) ?_
        conv => whnf
        refine ⟨by show 0 < (tmvs (midT t.kids i)).length; rw [hrow]; simp, ?_⟩
        repeat (conv => whnf); first|refine IndepAnd (by kernel_rfl) ?_|refine TreeAnd (by kernel_rfl) ?_|refine ⟨rfl,?_⟩|refine And.intro (by first|decide|exact trivial|exact Nat.le_of_ble_eq_true rfl|exact ⟨_,rfl,rfl⟩|exact ⟨rfl,trivial⟩|exact ⟨rfl,rfl,trivial⟩) ?_
        conv => whnf
        refine ⟨TV x, by show (tmvs (midT t.kids i))[0]? = _; rw [hrow]; rfl, rfl, rfl, rfl, ?_⟩
        repeat (conv => whnf); first|refine IndepAnd (by kernel_rfl) ?_|refine TreeAnd (by kernel_rfl) ?_|refine ⟨rfl,?_⟩|refine And.intro (by first|decide|exact trivial|exact Nat.le_of_ble_eq_true rfl|exact ⟨_,rfl,rfl⟩|exact ⟨rfl,trivial⟩|exact ⟨rfl,rfl,trivial⟩) ?_
        conv => whnf
        refine ⟨_, CallVC.pr hless rfl rfl, ?_⟩
        repeat (conv => whnf); first|refine IndepAnd (by kernel_rfl) ?_|refine TreeAnd (by kernel_rfl) ?_|refine ⟨rfl,?_⟩|refine And.intro (by first|decide|exact trivial|exact Nat.le_of_ble_eq_true rfl|exact ⟨_,rfl,rfl⟩|exact ⟨rfl,trivial⟩|exact ⟨rfl,rfl,trivial⟩) ?_
        conv => whnf
        refine @bool_rec _ _ _ ?_ ?_ <;> intro h4
        · have h4 : lessT y x = true := h4
          repeat (conv => whnf); first|refine IndepAnd (by kernel_rfl) ?_|refine TreeAnd (by kernel_rfl) ?_|refine ⟨rfl,?_⟩|refine And.intro (by first|decide|exact trivial|exact Nat.le_of_ble_eq_true rfl|exact ⟨_,rfl,rfl⟩|exact ⟨rfl,trivial⟩|exact ⟨rfl,rfl,trivial⟩) ?_
          conv => whnf
          refine ⟨_, MCallVC.pr (gT [(2000, 7)]) (reverse2 true x y) ⟨LE.of rfl, trivial⟩ (by (conv => whnf); exact ⟨.inr (.inl (congrArg (AO.row 24 3) hrow)), trivial⟩) rfl, ?_⟩
          repeat (conv => whnf); first|refine IndepAnd (by kernel_rfl) ?_|refine TreeAnd (by kernel_rfl) ?_|refine ⟨rfl,?_⟩|refine And.intro (by first|decide|exact trivial|exact Nat.le_of_ble_eq_true rfl|exact ⟨_,rfl,rfl⟩|exact ⟨rfl,trivial⟩|exact ⟨rfl,rfl,trivial⟩) ?_
          conv => whnf
          refine LEP.of ((mk_eq (tmvs2 y x)).trans (congrArg TV ?_))
          rw [hcan, hxy]
          exact (if_pos ⟨h2, h4⟩).symm
        · have h4 : lessT y x = false := h4
          repeat (conv => whnf); first|refine IndepAnd (by kernel_rfl) ?_|refine TreeAnd (by kernel_rfl) ?_|refine ⟨rfl,?_⟩|refine And.intro (by first|decide|exact trivial|exact Nat.le_of_ble_eq_true rfl|exact ⟨_,rfl,rfl⟩|exact ⟨rfl,trivial⟩|exact ⟨rfl,rfl,trivial⟩) ?_
          conv => whnf
          exact LEP.of (hfin fun x' y' e h => by
            rw [hxy] at e
            cases e
            rw [h4] at h
            cases h.2)
      · have h3 : ¬ (midT t.kids i).length = 2 := by have := of_decide_eq_false h3; rw [tmvs_length] at this; exact fun e => this (congrArg Int.ofNat e)
        repeat (conv => whnf); first|refine IndepAnd (by kernel_rfl) ?_|refine TreeAnd (by kernel_rfl) ?_|refine ⟨rfl,?_⟩|refine And.intro (by first|decide|exact trivial|exact Nat.le_of_ble_eq_true rfl|exact ⟨_,rfl,rfl⟩|exact ⟨rfl,trivial⟩|exact ⟨rfl,rfl,trivial⟩) ?_
        conv => whnf
        exact LEP.of (hfin fun x y e => absurd (congrArg List.length e) h3)
    · have h2 : ¬ t.kind = 9 := of_decide_eq_false h2
      repeat (conv => whnf); first|refine IndepAnd (by kernel_rfl) ?_|refine TreeAnd (by kernel_rfl) ?_|refine ⟨rfl,?_⟩|refine And.intro (by first|decide|exact trivial|exact Nat.le_of_ble_eq_true rfl|exact ⟨_,rfl,rfl⟩|exact ⟨rfl,trivial⟩|exact ⟨rfl,rfl,trivial⟩) ?_
      conv => whnf
      exact LEP.of (hfin fun x y e h => h2 h.1)
end Go.Sl
