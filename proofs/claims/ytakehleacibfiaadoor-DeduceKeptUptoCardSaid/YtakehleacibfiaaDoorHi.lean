/- Contracts of layer 8: analyzed, the walk (under way). -/
import Derived.Test.YtakehleacibfiaaDoorHh
set_option linter.unusedVariables false
set_option linter.unusedSimpArgs false
namespace Go.Sl
open Go Go.Vc Go.Proofs Go.RowKit

noncomputable def itK (k : Kn) : Nat → Kn
  | 0 => k
  | j + 1 => stepK (itK k j)
def wasK (k : Kn) (f : Nat → Kn) : Nat → Int
  | 0 => -1
  | j + 1 => ((tmvs (f j).l).length : Int)
abbrev gAn : Nat → Nat := gT [(2000, 1900), (1001, 1901), (2002, 1902), (2003, 1903), (2001, 1901)]
abbrev AN (k : Kn) : List (Nat × AO) := [(1900, .var true 52 (.mix [.slc 1901, .slc 1902, .slc 1903])), (1901, .row 24 3 (tmvs k.l)), (1902, .mp 50 true (isM k.s)), (1903, .mp 50 true (mdM k.d)), (1910, .mp 62 false waysL)]
theorem analyzed_ok (U : List Tm) (hU : ∀ t ∈ U, ∀ u ∈ t.kids, u ∈ U) (l : List Tm) (hf : ∀ t ∈ l, Fit t) (hw : ∀ t ∈ l, wt t ≤ 1000000000) (hl : l.length ≤ 1000000000) (h0 : WK U (ofT l)) (hUl : U.length ≤ 2000)
    (e : Kn) (he : ∀ j, (∀ i, i + 1 < j → (itK (ofT l) i).l.length < (itK (ofT l) (i + 1)).l.length) → 0 < j → (itK (ofT l) j).l.length ≤ (itK (ofT l) (j - 1)).l.length → itK (ofT l) j = e) :
    PM (cx true) 42 [] [lv l] e.obs (.ptr 2000 0) := by
  refine PM_of_vc (cx_ok true) (mixed true) { own := fun q => Nat.beq q 100014 || Nat.beq q 100015 || Nat.beq q 100051 || Nat.beq q 100068 || Nat.beq q 6 || Nat.beq q 58 } Tryd.func42 (by kernel_rfl) rfl rfl (by kernel_rfl) rfl ?_
  repeat (conv => whnf); first | refine IndepAnd (by kernel_rfl) ?_ | refine TreeAnd (by kernel_rfl) ?_ | refine ⟨rfl, ?_⟩ | refine ⟨by decide, ?_⟩ | refine ⟨trivial, ?_⟩ | refine ⟨⟨rfl, trivial⟩, ?_⟩ | refine ⟨Nat.le_of_ble_eq_true rfl, ?_⟩ | refine ⟨⟨_, rfl, rfl⟩, ?_⟩ | refine ⟨⟨rfl, rfl, trivial⟩, ?_⟩ | refine ⟨⟨rfl, rfl, rfl, trivial⟩, ?_⟩ | refine ⟨⟨rfl, rfl, rfl, rfl, trivial⟩, ?_⟩ | refine ⟨⟨rfl, rfl, rfl, rfl, rfl, trivial⟩, ?_⟩
  conv => whnf
  refine ⟨_, MCallVC.pr gAn (of_ok l hf hw hl) ⟨LE.of rfl, trivial⟩ trivial rfl, ?_⟩
  repeat (conv => whnf); first | refine IndepAnd (by kernel_rfl) ?_ | refine TreeAnd (by kernel_rfl) ?_ | refine ⟨rfl, ?_⟩ | refine ⟨by decide, ?_⟩ | refine ⟨trivial, ?_⟩ | refine ⟨⟨rfl, trivial⟩, ?_⟩ | refine ⟨Nat.le_of_ble_eq_true rfl, ?_⟩ | refine ⟨⟨_, rfl, rfl⟩, ?_⟩ | refine ⟨⟨rfl, rfl, trivial⟩, ?_⟩ | refine ⟨⟨rfl, rfl, rfl, trivial⟩, ?_⟩ | refine ⟨⟨rfl, rfl, rfl, rfl, trivial⟩, ?_⟩ | refine ⟨⟨rfl, rfl, rfl, rfl, rfl, trivial⟩, ?_⟩
  conv => whnf
  refine ⟨_, MCallVC.pr (gT [(2010, 1910)]) ways_ok trivial trivial rfl, ?_⟩
  repeat (conv => whnf); first | refine IndepAnd (by kernel_rfl) ?_ | refine TreeAnd (by kernel_rfl) ?_ | refine ⟨rfl, ?_⟩ | refine ⟨by decide, ?_⟩ | refine ⟨trivial, ?_⟩ | refine ⟨⟨rfl, trivial⟩, ?_⟩ | refine ⟨Nat.le_of_ble_eq_true rfl, ?_⟩ | refine ⟨⟨_, rfl, rfl⟩, ?_⟩ | refine ⟨⟨rfl, rfl, trivial⟩, ?_⟩ | refine ⟨⟨rfl, rfl, rfl, trivial⟩, ?_⟩ | refine ⟨⟨rfl, rfl, rfl, rfl, trivial⟩, ?_⟩ | refine ⟨⟨rfl, rfl, rfl, rfl, rfl, trivial⟩, ?_⟩
  conv => whnf
  refine ⟨{ j : Nat // (∀ i, i + 1 < j → (itK (ofT l) i).l.length < (itK (ofT l) (i + 1)).l.length) ∧ WK U (itK (ofT l) j) }, fun j => Vc.S.of [(3, .ptr 1900 0), (4, .slc 1910), (5, iv (wasK (ofT l) (itK (ofT l)) j.1))] (AN (itK (ofT l) j.1)), fun j => U.length + 1 - (wasK (ofT l) (itK (ofT l)) j.1 + 1).toNat, ⟨0, fun i h => absurd h (by omega), h0⟩, ?_, ?_⟩
  · refine Ge.of rfl ?_ ?_
    · repeat (conv => whnf); refine ⟨LE.of rfl, ?_⟩
      trivial
    · repeat (conv => whnf); refine ⟨OLE.of rfl, ?_⟩
      trivial
  rintro ⟨j, hj, hk⟩
  repeat (conv => whnf); first | refine IndepAnd (by kernel_rfl) ?_ | refine TreeAnd (by kernel_rfl) ?_ | refine ⟨rfl, ?_⟩ | refine ⟨by decide, ?_⟩ | refine ⟨trivial, ?_⟩ | refine ⟨⟨rfl, trivial⟩, ?_⟩ | refine ⟨Nat.le_of_ble_eq_true rfl, ?_⟩ | refine ⟨⟨_, rfl, rfl⟩, ?_⟩ | refine ⟨⟨rfl, rfl, trivial⟩, ?_⟩ | refine ⟨⟨rfl, rfl, rfl, trivial⟩, ?_⟩ | refine ⟨⟨rfl, rfl, rfl, rfl, trivial⟩, ?_⟩ | refine ⟨⟨rfl, rfl, rfl, rfl, rfl, trivial⟩, ?_⟩
  conv => whnf
  refine @bool_rec _ _ _ ?_ ?_ <;> intro h1
  · repeat (conv => whnf); first | refine IndepAnd (by kernel_rfl) ?_ | refine TreeAnd (by kernel_rfl) ?_ | refine ⟨rfl, ?_⟩ | refine ⟨by decide, ?_⟩ | refine ⟨trivial, ?_⟩ | refine ⟨⟨rfl, trivial⟩, ?_⟩ | refine ⟨Nat.le_of_ble_eq_true rfl, ?_⟩ | refine ⟨⟨_, rfl, rfl⟩, ?_⟩ | refine ⟨⟨rfl, rfl, trivial⟩, ?_⟩ | refine ⟨⟨rfl, rfl, rfl, trivial⟩, ?_⟩ | refine ⟨⟨rfl, rfl, rfl, rfl, trivial⟩, ?_⟩ | refine ⟨⟨rfl, rfl, rfl, rfl, rfl, trivial⟩, ?_⟩
    conv => whnf
    obtain ⟨k, ek⟩ : ∃ k, k = itK (ofT l) j := ⟨_, rfl⟩
    have hk : WK U k := by rw [ek]; exact hk
    have hkl := hk.len
    have hdi : ∀ i, DOk k.s (dIn k.l k.s (k.l.take i) k.d) := fun i => dIn_ok k.l k.s _ k.d hk.d (fun t ht => hk.fit t (List.mem_of_mem_take ht)) (fun t ht => hk.wt t (List.mem_of_mem_take ht))
    refine ⟨{ i : Nat // i ≤ k.l.length }, fun i => Vc.S.of [(3, .ptr 1900 0), (4, .slc 1910), (5, iv ((tmvs k.l).length : Int)), (6, .slc 6), (31, .slc 1901), (32, iv ((tmvs k.l).length : Int)), (33, iv (i.1 : Int))] ((6, .row 24 3 (tmvs (moreT k.s (k.l.take i.1)))) :: AN ⟨k.l, k.s, dIn k.l k.s (k.l.take i.1) k.d⟩), fun i => k.l.length - i.1, ⟨0, Nat.zero_le _⟩, ?_, ?_⟩
    · subst ek
      refine Ge.of rfl ?_ ?_
      · repeat (conv => whnf); refine ⟨LE.of rfl, ?_⟩
        trivial
      · repeat (conv => whnf); refine ⟨OLE.of rfl, ?_⟩
        trivial
    rintro ⟨i, hi⟩
    repeat (conv => whnf); first | refine IndepAnd (by kernel_rfl) ?_ | refine TreeAnd (by kernel_rfl) ?_ | refine ⟨rfl, ?_⟩ | refine ⟨by decide, ?_⟩ | refine ⟨trivial, ?_⟩ | refine ⟨⟨rfl, trivial⟩, ?_⟩ | refine ⟨Nat.le_of_ble_eq_true rfl, ?_⟩ | refine ⟨⟨_, rfl, rfl⟩, ?_⟩ | refine ⟨⟨rfl, rfl, trivial⟩, ?_⟩ | refine ⟨⟨rfl, rfl, rfl, trivial⟩, ?_⟩ | refine ⟨⟨rfl, rfl, rfl, rfl, trivial⟩, ?_⟩ | refine ⟨⟨rfl, rfl, rfl, rfl, rfl, trivial⟩, ?_⟩
    conv => whnf
    refine @bool_rec _ _ _ ?_ ?_ <;> intro h2
    · have hlt : i < k.l.length := by have := of_decide_eq_true h2; rw [tmvs_length] at this; exact Int.ofNat_lt.1 this
      have hm : k.l[i] ∈ k.l := List.getElem_mem hlt
      have hml : (moreT k.s (k.l.take i)).length ≤ 2000000000000 := by
        have h1 := more_len (S := k.s) (l := k.l.take i) fun t ht => hk.wt t (List.mem_of_mem_take ht)
        have h2 : (k.l.take i).length ≤ 2000 := by rw [List.length_take]; omega
        have h3 : (k.l.take i).length * 1000000000 ≤ 2000 * 1000000000 := Nat.mul_le_mul_right _ h2
        omega
      have hby : ∀ g : List Tm, g.length ≤ 1000000000 → ((tmvs (moreT k.s (k.l.take i))).length + (tmvs g).length) * 48 ≤ 140737488355328 := fun g hg => by
        rw [tmvs_length, tmvs_length]
        omega
      repeat (conv => whnf); first | refine IndepAnd (by kernel_rfl) ?_ | refine TreeAnd (by kernel_rfl) ?_ | refine ⟨rfl, ?_⟩ | refine ⟨by decide, ?_⟩ | refine ⟨trivial, ?_⟩ | refine ⟨⟨rfl, trivial⟩, ?_⟩ | refine ⟨Nat.le_of_ble_eq_true rfl, ?_⟩ | refine ⟨⟨_, rfl, rfl⟩, ?_⟩ | refine ⟨⟨rfl, rfl, trivial⟩, ?_⟩ | refine ⟨⟨rfl, rfl, rfl, trivial⟩, ?_⟩ | refine ⟨⟨rfl, rfl, rfl, rfl, trivial⟩, ?_⟩ | refine ⟨⟨rfl, rfl, rfl, rfl, rfl, trivial⟩, ?_⟩
      conv => whnf
      refine ⟨Int.natCast_nonneg _, by show i < (tmvs k.l).length; rw [tmvs_length]; exact hlt, ?_⟩
      repeat (conv => whnf); first | refine IndepAnd (by kernel_rfl) ?_ | refine TreeAnd (by kernel_rfl) ?_ | refine ⟨rfl, ?_⟩ | refine ⟨by decide, ?_⟩ | refine ⟨trivial, ?_⟩ | refine ⟨⟨rfl, trivial⟩, ?_⟩ | refine ⟨Nat.le_of_ble_eq_true rfl, ?_⟩ | refine ⟨⟨_, rfl, rfl⟩, ?_⟩ | refine ⟨⟨rfl, rfl, trivial⟩, ?_⟩ | refine ⟨⟨rfl, rfl, rfl, trivial⟩, ?_⟩ | refine ⟨⟨rfl, rfl, rfl, rfl, trivial⟩, ?_⟩ | refine ⟨⟨rfl, rfl, rfl, rfl, rfl, trivial⟩, ?_⟩
      conv => whnf
      refine ⟨TV k.l[i], tmvs_get hlt, rfl, rfl, rfl, ?_⟩
      repeat (conv => whnf); first | refine IndepAnd (by kernel_rfl) ?_ | refine TreeAnd (by kernel_rfl) ?_ | refine ⟨rfl, ?_⟩ | refine ⟨by decide, ?_⟩ | refine ⟨trivial, ?_⟩ | refine ⟨⟨rfl, trivial⟩, ?_⟩ | refine ⟨Nat.le_of_ble_eq_true rfl, ?_⟩ | refine ⟨⟨_, rfl, rfl⟩, ?_⟩ | refine ⟨⟨rfl, rfl, trivial⟩, ?_⟩ | refine ⟨⟨rfl, rfl, rfl, trivial⟩, ?_⟩ | refine ⟨⟨rfl, rfl, rfl, rfl, trivial⟩, ?_⟩ | refine ⟨⟨rfl, rfl, rfl, rfl, rfl, trivial⟩, ?_⟩
      conv => whnf
      by_cases k3 : k.l[i].kind = 3
      · refine ⟨some (wayP 73 76), by show mget (.n k.l[i].kind) waysL = _; rw [k3]; rfl, ?_⟩
        repeat (conv => whnf); first | refine IndepAnd (by kernel_rfl) ?_ | refine TreeAnd (by kernel_rfl) ?_ | refine ⟨rfl, ?_⟩ | refine ⟨by decide, ?_⟩ | refine ⟨trivial, ?_⟩ | refine ⟨⟨rfl, trivial⟩, ?_⟩ | refine ⟨Nat.le_of_ble_eq_true rfl, ?_⟩ | refine ⟨⟨_, rfl, rfl⟩, ?_⟩ | refine ⟨⟨rfl, rfl, trivial⟩, ?_⟩ | refine ⟨⟨rfl, rfl, rfl, trivial⟩, ?_⟩ | refine ⟨⟨rfl, rfl, rfl, rfl, trivial⟩, ?_⟩ | refine ⟨⟨rfl, rfl, rfl, rfl, rfl, trivial⟩, ?_⟩
        conv => whnf
        refine ⟨_, CallVC.pr (none_ok k.l[i]) rfl rfl, ?_⟩
        repeat (conv => whnf); first | refine IndepAnd (by kernel_rfl) ?_ | refine TreeAnd (by kernel_rfl) ?_ | refine ⟨rfl, ?_⟩ | refine ⟨by decide, ?_⟩ | refine ⟨trivial, ?_⟩ | refine ⟨⟨rfl, trivial⟩, ?_⟩ | refine ⟨Nat.le_of_ble_eq_true rfl, ?_⟩ | refine ⟨⟨_, rfl, rfl⟩, ?_⟩ | refine ⟨⟨rfl, rfl, trivial⟩, ?_⟩ | refine ⟨⟨rfl, rfl, rfl, trivial⟩, ?_⟩ | refine ⟨⟨rfl, rfl, rfl, rfl, trivial⟩, ?_⟩ | refine ⟨⟨rfl, rfl, rfl, rfl, rfl, trivial⟩, ?_⟩
        conv => whnf
        refine ⟨_, MCallVC.pr gAn (allD_ok k.l k.s [] (dIn k.l k.s (k.l.take i) k.d) (hdi i) (by simp) (by simp) (by simp)).2 ⟨LE.of rfl, LE.of rfl, trivial⟩ ⟨.inr (.inl rfl), .inr (.inl rfl), .inr (.inl rfl), .inr (.inl rfl), trivial⟩ rfl, ?_⟩
        repeat (conv => whnf); first | refine IndepAnd (by kernel_rfl) ?_ | refine TreeAnd (by kernel_rfl) ?_ | refine ⟨rfl, ?_⟩ | refine ⟨by decide, ?_⟩ | refine ⟨trivial, ?_⟩ | refine ⟨⟨rfl, trivial⟩, ?_⟩ | refine ⟨Nat.le_of_ble_eq_true rfl, ?_⟩ | refine ⟨⟨_, rfl, rfl⟩, ?_⟩ | refine ⟨⟨rfl, rfl, trivial⟩, ?_⟩ | refine ⟨⟨rfl, rfl, rfl, trivial⟩, ?_⟩ | refine ⟨⟨rfl, rfl, rfl, rfl, trivial⟩, ?_⟩ | refine ⟨⟨rfl, rfl, rfl, rfl, rfl, trivial⟩, ?_⟩
        conv => whnf
        refine ⟨_, CallVC.pr (every_ok k.l[i]) rfl rfl, ?_⟩
        repeat (conv => whnf); first | refine IndepAnd (by kernel_rfl) ?_ | refine TreeAnd (by kernel_rfl) ?_ | refine ⟨rfl, ?_⟩ | refine ⟨by decide, ?_⟩ | refine ⟨trivial, ?_⟩ | refine ⟨⟨rfl, trivial⟩, ?_⟩ | refine ⟨Nat.le_of_ble_eq_true rfl, ?_⟩ | refine ⟨⟨_, rfl, rfl⟩, ?_⟩ | refine ⟨⟨rfl, rfl, trivial⟩, ?_⟩ | refine ⟨⟨rfl, rfl, rfl, trivial⟩, ?_⟩ | refine ⟨⟨rfl, rfl, rfl, rfl, trivial⟩, ?_⟩ | refine ⟨⟨rfl, rfl, rfl, rfl, rfl, trivial⟩, ?_⟩
        conv => whnf
        refine ⟨tmvs_sz _, ?_⟩
        repeat (conv => whnf); first | refine IndepAnd (by kernel_rfl) ?_ | refine TreeAnd (by kernel_rfl) ?_ | refine ⟨rfl, ?_⟩ | refine ⟨by decide, ?_⟩ | refine ⟨trivial, ?_⟩ | refine ⟨⟨rfl, trivial⟩, ?_⟩ | refine ⟨Nat.le_of_ble_eq_true rfl, ?_⟩ | refine ⟨⟨_, rfl, rfl⟩, ?_⟩ | refine ⟨⟨rfl, rfl, trivial⟩, ?_⟩ | refine ⟨⟨rfl, rfl, rfl, trivial⟩, ?_⟩ | refine ⟨⟨rfl, rfl, rfl, rfl, trivial⟩, ?_⟩ | refine ⟨⟨rfl, rfl, rfl, rfl, rfl, trivial⟩, ?_⟩
        conv => whnf
        refine ⟨hby _ (Nat.le_trans (kids_wt _) (by have := hk.wt _ hm; have := wt_eq k.l[i]; omega)), ?_⟩
        repeat (conv => whnf); first | refine IndepAnd (by kernel_rfl) ?_ | refine TreeAnd (by kernel_rfl) ?_ | refine ⟨rfl, ?_⟩ | refine ⟨by decide, ?_⟩ | refine ⟨trivial, ?_⟩ | refine ⟨⟨rfl, trivial⟩, ?_⟩ | refine ⟨Nat.le_of_ble_eq_true rfl, ?_⟩ | refine ⟨⟨_, rfl, rfl⟩, ?_⟩ | refine ⟨⟨rfl, rfl, trivial⟩, ?_⟩ | refine ⟨⟨rfl, rfl, rfl, trivial⟩, ?_⟩ | refine ⟨⟨rfl, rfl, rfl, rfl, trivial⟩, ?_⟩ | refine ⟨⟨rfl, rfl, rfl, rfl, rfl, trivial⟩, ?_⟩
        conv => whnf
        have ew : wayT k.l[i] = some ([], k.l[i].kids) := by unfold wayT; rw [if_pos k3]
        have eg : givesT k.s k.l[i] = k.l[i].kids := by unfold givesT; rw [ew]; rfl
        refine ⟨_, wrapN (n := i + 1) rfl (by omega), ?_⟩
        repeat (conv => whnf); first | refine IndepAnd (by kernel_rfl) ?_ | refine TreeAnd (by kernel_rfl) ?_ | refine ⟨rfl, ?_⟩ | refine ⟨by decide, ?_⟩ | refine ⟨trivial, ?_⟩ | refine ⟨⟨rfl, trivial⟩, ?_⟩ | refine ⟨Nat.le_of_ble_eq_true rfl, ?_⟩ | refine ⟨⟨_, rfl, rfl⟩, ?_⟩ | refine ⟨⟨rfl, rfl, trivial⟩, ?_⟩ | refine ⟨⟨rfl, rfl, rfl, trivial⟩, ?_⟩ | refine ⟨⟨rfl, rfl, rfl, rfl, trivial⟩, ?_⟩ | refine ⟨⟨rfl, rfl, rfl, rfl, rfl, trivial⟩, ?_⟩
        conv => whnf
        refine ⟨⟨i + 1, hlt⟩, ?_, by show k.l.length - (i + 1) < k.l.length - i; omega⟩
        refine Ge.of rfl ?_ ?_
        · repeat (conv => whnf); refine ⟨LE.of rfl, ?_⟩
          trivial
        · repeat (conv => whnf); first | refine ⟨OLE.of rfl, ?_⟩ | refine ⟨OLE.of (congrArg (AO.row 24 3) (by show tmvs (moreT k.s (k.l.take i)) ++ tmvs k.l[i].kids = tmvs (moreT k.s (k.l.take (i + 1))); rw [more_take _ hlt, eg, tmvs_append])), ?_⟩ | refine ⟨OLE.of (congrArg (fun d => AO.mp 50 true (mdM d)) (by show allD k.l k.s [] (dIn k.l k.s (k.l.take i) k.d) = dIn k.l k.s (k.l.take (i + 1)) k.d; rw [dIn_take _ _ _ hlt, ew])), ?_⟩
          trivial
      · by_cases k4 : k.l[i].kind = 4
        · skip
          obtain ⟨x, y, hxy⟩ := two_kids (hk.ne _ hm) (by first | exact .inl k4 | exact .inr k10)
          have fx : Fit x := (hk.fit _ hm).kid (by rw [hxy]; simp)
          have fy : Fit y := (hk.fit _ hm).kid (by rw [hxy]; simp)
          have hwt : wt x + wt y + 1 ≤ wt k.l[i] := by rw [wt_eq k.l[i], hxy]; simp only [wts]; omega
          have hwk := hk.wt _ hm
          have ew : wayT k.l[i] = some ([x], [y]) := by unfold wayT; rw [if_neg k3, if_pos k4, hxy]
          refine ⟨some (wayP 74 75), by show mget (.n k.l[i].kind) waysL = _; rw [k4]; rfl, ?_⟩
          repeat (conv => whnf); first | refine IndepAnd (by kernel_rfl) ?_ | refine TreeAnd (by kernel_rfl) ?_ | refine ⟨rfl, ?_⟩ | refine ⟨by decide, ?_⟩ | refine ⟨trivial, ?_⟩ | refine ⟨⟨rfl, trivial⟩, ?_⟩ | refine ⟨Nat.le_of_ble_eq_true rfl, ?_⟩ | refine ⟨⟨_, rfl, rfl⟩, ?_⟩ | refine ⟨⟨rfl, rfl, trivial⟩, ?_⟩ | refine ⟨⟨rfl, rfl, rfl, trivial⟩, ?_⟩ | refine ⟨⟨rfl, rfl, rfl, rfl, trivial⟩, ?_⟩ | refine ⟨⟨rfl, rfl, rfl, rfl, rfl, trivial⟩, ?_⟩
          conv => whnf
          refine ⟨_, CallVC.pr (first_ok k.l[i] x y hxy) rfl rfl, ?_⟩
          repeat (conv => whnf); first | refine IndepAnd (by kernel_rfl) ?_ | refine TreeAnd (by kernel_rfl) ?_ | refine ⟨rfl, ?_⟩ | refine ⟨by decide, ?_⟩ | refine ⟨trivial, ?_⟩ | refine ⟨⟨rfl, trivial⟩, ?_⟩ | refine ⟨Nat.le_of_ble_eq_true rfl, ?_⟩ | refine ⟨⟨_, rfl, rfl⟩, ?_⟩ | refine ⟨⟨rfl, rfl, trivial⟩, ?_⟩ | refine ⟨⟨rfl, rfl, rfl, trivial⟩, ?_⟩ | refine ⟨⟨rfl, rfl, rfl, rfl, trivial⟩, ?_⟩ | refine ⟨⟨rfl, rfl, rfl, rfl, rfl, trivial⟩, ?_⟩
          conv => whnf
          refine ⟨_, MCallVC.pr gAn (allD_ok k.l k.s [x] (dIn k.l k.s (k.l.take i) k.d) (hdi i) (by simp) (by simp [fx]) (by simp; omega)).2 ⟨LE.of rfl, LE.of rfl, trivial⟩ ⟨.inr (.inl rfl), .inr (.inl rfl), .inr (.inl rfl), .inr (.inl rfl), trivial⟩ rfl, ?_⟩
          repeat (conv => whnf); first | refine IndepAnd (by kernel_rfl) ?_ | refine TreeAnd (by kernel_rfl) ?_ | refine ⟨rfl, ?_⟩ | refine ⟨by decide, ?_⟩ | refine ⟨trivial, ?_⟩ | refine ⟨⟨rfl, trivial⟩, ?_⟩ | refine ⟨Nat.le_of_ble_eq_true rfl, ?_⟩ | refine ⟨⟨_, rfl, rfl⟩, ?_⟩ | refine ⟨⟨rfl, rfl, trivial⟩, ?_⟩ | refine ⟨⟨rfl, rfl, rfl, trivial⟩, ?_⟩ | refine ⟨⟨rfl, rfl, rfl, rfl, trivial⟩, ?_⟩ | refine ⟨⟨rfl, rfl, rfl, rfl, rfl, trivial⟩, ?_⟩
          conv => whnf
          refine @bool_rec _ _ _ ?_ ?_ <;> intro h5
          · have h5 : [x].all (mkB k.s) = true := h5
            have eg : givesT k.s k.l[i] = [y] := by unfold givesT; rw [ew]; exact if_pos h5
            repeat (conv => whnf); first | refine IndepAnd (by kernel_rfl) ?_ | refine TreeAnd (by kernel_rfl) ?_ | refine ⟨rfl, ?_⟩ | refine ⟨by decide, ?_⟩ | refine ⟨trivial, ?_⟩ | refine ⟨⟨rfl, trivial⟩, ?_⟩ | refine ⟨Nat.le_of_ble_eq_true rfl, ?_⟩ | refine ⟨⟨_, rfl, rfl⟩, ?_⟩ | refine ⟨⟨rfl, rfl, trivial⟩, ?_⟩ | refine ⟨⟨rfl, rfl, rfl, trivial⟩, ?_⟩ | refine ⟨⟨rfl, rfl, rfl, rfl, trivial⟩, ?_⟩ | refine ⟨⟨rfl, rfl, rfl, rfl, rfl, trivial⟩, ?_⟩
            conv => whnf
            refine ⟨_, CallVC.pr (second_ok k.l[i] x y hxy) rfl rfl, ?_⟩
            repeat (conv => whnf); first | refine IndepAnd (by kernel_rfl) ?_ | refine TreeAnd (by kernel_rfl) ?_ | refine ⟨rfl, ?_⟩ | refine ⟨by decide, ?_⟩ | refine ⟨trivial, ?_⟩ | refine ⟨⟨rfl, trivial⟩, ?_⟩ | refine ⟨Nat.le_of_ble_eq_true rfl, ?_⟩ | refine ⟨⟨_, rfl, rfl⟩, ?_⟩ | refine ⟨⟨rfl, rfl, trivial⟩, ?_⟩ | refine ⟨⟨rfl, rfl, rfl, trivial⟩, ?_⟩ | refine ⟨⟨rfl, rfl, rfl, rfl, trivial⟩, ?_⟩ | refine ⟨⟨rfl, rfl, rfl, rfl, rfl, trivial⟩, ?_⟩
            conv => whnf
            refine ⟨tmvs_sz _, ?_⟩
            repeat (conv => whnf); first | refine IndepAnd (by kernel_rfl) ?_ | refine TreeAnd (by kernel_rfl) ?_ | refine ⟨rfl, ?_⟩ | refine ⟨by decide, ?_⟩ | refine ⟨trivial, ?_⟩ | refine ⟨⟨rfl, trivial⟩, ?_⟩ | refine ⟨Nat.le_of_ble_eq_true rfl, ?_⟩ | refine ⟨⟨_, rfl, rfl⟩, ?_⟩ | refine ⟨⟨rfl, rfl, trivial⟩, ?_⟩ | refine ⟨⟨rfl, rfl, rfl, trivial⟩, ?_⟩ | refine ⟨⟨rfl, rfl, rfl, rfl, trivial⟩, ?_⟩ | refine ⟨⟨rfl, rfl, rfl, rfl, rfl, trivial⟩, ?_⟩
            conv => whnf
            refine ⟨hby _ (by simp), ?_⟩
            repeat (conv => whnf); first | refine IndepAnd (by kernel_rfl) ?_ | refine TreeAnd (by kernel_rfl) ?_ | refine ⟨rfl, ?_⟩ | refine ⟨by decide, ?_⟩ | refine ⟨trivial, ?_⟩ | refine ⟨⟨rfl, trivial⟩, ?_⟩ | refine ⟨Nat.le_of_ble_eq_true rfl, ?_⟩ | refine ⟨⟨_, rfl, rfl⟩, ?_⟩ | refine ⟨⟨rfl, rfl, trivial⟩, ?_⟩ | refine ⟨⟨rfl, rfl, rfl, trivial⟩, ?_⟩ | refine ⟨⟨rfl, rfl, rfl, rfl, trivial⟩, ?_⟩ | refine ⟨⟨rfl, rfl, rfl, rfl, rfl, trivial⟩, ?_⟩
            conv => whnf
            refine ⟨_, wrapN (n := i + 1) rfl (by omega), ?_⟩
            repeat (conv => whnf); first | refine IndepAnd (by kernel_rfl) ?_ | refine TreeAnd (by kernel_rfl) ?_ | refine ⟨rfl, ?_⟩ | refine ⟨by decide, ?_⟩ | refine ⟨trivial, ?_⟩ | refine ⟨⟨rfl, trivial⟩, ?_⟩ | refine ⟨Nat.le_of_ble_eq_true rfl, ?_⟩ | refine ⟨⟨_, rfl, rfl⟩, ?_⟩ | refine ⟨⟨rfl, rfl, trivial⟩, ?_⟩ | refine ⟨⟨rfl, rfl, rfl, trivial⟩, ?_⟩ | refine ⟨⟨rfl, rfl, rfl, rfl, trivial⟩, ?_⟩ | refine ⟨⟨rfl, rfl, rfl, rfl, rfl, trivial⟩, ?_⟩
            conv => whnf
            refine ⟨⟨i + 1, hlt⟩, ?_, by show k.l.length - (i + 1) < k.l.length - i; omega⟩
            refine Ge.of rfl ?_ ?_
            · repeat (conv => whnf); refine ⟨LE.of rfl, ?_⟩
              trivial
            · repeat (conv => whnf); first | refine ⟨OLE.of rfl, ?_⟩ | refine ⟨OLE.of (congrArg (AO.row 24 3) (by show tmvs (moreT k.s (k.l.take i)) ++ tmvs [y] = tmvs (moreT k.s (k.l.take (i + 1))); rw [more_take _ hlt, eg, tmvs_append]; try simp [tmvs])), ?_⟩ | refine ⟨OLE.of (congrArg (fun d => AO.mp 50 true (mdM d)) (by show allD k.l k.s [x] (dIn k.l k.s (k.l.take i) k.d) = dIn k.l k.s (k.l.take (i + 1)) k.d; rw [dIn_take _ _ _ hlt, ew])), ?_⟩
              trivial
          · have h5 : [x].all (mkB k.s) = false := h5
            have eg : givesT k.s k.l[i] = [] := by unfold givesT; rw [ew]; exact if_neg (by rw [h5]; decide)
            repeat (conv => whnf); first | refine IndepAnd (by kernel_rfl) ?_ | refine TreeAnd (by kernel_rfl) ?_ | refine ⟨rfl, ?_⟩ | refine ⟨by decide, ?_⟩ | refine ⟨trivial, ?_⟩ | refine ⟨⟨rfl, trivial⟩, ?_⟩ | refine ⟨Nat.le_of_ble_eq_true rfl, ?_⟩ | refine ⟨⟨_, rfl, rfl⟩, ?_⟩ | refine ⟨⟨rfl, rfl, trivial⟩, ?_⟩ | refine ⟨⟨rfl, rfl, rfl, trivial⟩, ?_⟩ | refine ⟨⟨rfl, rfl, rfl, rfl, trivial⟩, ?_⟩ | refine ⟨⟨rfl, rfl, rfl, rfl, rfl, trivial⟩, ?_⟩
            conv => whnf
            refine ⟨_, wrapN (n := i + 1) rfl (by omega), ?_⟩
            repeat (conv => whnf); first | refine IndepAnd (by kernel_rfl) ?_ | refine TreeAnd (by kernel_rfl) ?_ | refine ⟨rfl, ?_⟩ | refine ⟨by decide, ?_⟩ | refine ⟨trivial, ?_⟩ | refine ⟨⟨rfl, trivial⟩, ?_⟩ | refine ⟨Nat.le_of_ble_eq_true rfl, ?_⟩ | refine ⟨⟨_, rfl, rfl⟩, ?_⟩ | refine ⟨⟨rfl, rfl, trivial⟩, ?_⟩ | refine ⟨⟨rfl, rfl, rfl, trivial⟩, ?_⟩ | refine ⟨⟨rfl, rfl, rfl, rfl, trivial⟩, ?_⟩ | refine ⟨⟨rfl, rfl, rfl, rfl, rfl, trivial⟩, ?_⟩
            conv => whnf
            refine ⟨⟨i + 1, hlt⟩, ?_, by show k.l.length - (i + 1) < k.l.length - i; omega⟩
            refine Ge.of rfl ?_ ?_
            · repeat (conv => whnf); refine ⟨LE.of rfl, ?_⟩
              trivial
            · repeat (conv => whnf); first | refine ⟨OLE.of rfl, ?_⟩ | refine ⟨OLE.of (congrArg (AO.row 24 3) (by show tmvs (moreT k.s (k.l.take i)) = tmvs (moreT k.s (k.l.take (i + 1))); rw [more_take _ hlt, eg, tmvs_append]; try simp [tmvs])), ?_⟩ | refine ⟨OLE.of (congrArg (fun d => AO.mp 50 true (mdM d)) (by show allD k.l k.s [x] (dIn k.l k.s (k.l.take i) k.d) = dIn k.l k.s (k.l.take (i + 1)) k.d; rw [dIn_take _ _ _ hlt, ew])), ?_⟩
              trivial
        · by_cases k10 : k.l[i].kind = 10
          · skip
            obtain ⟨x, y, hxy⟩ := two_kids (hk.ne _ hm) (by first | exact .inl k4 | exact .inr k10)
            have fx : Fit x := (hk.fit _ hm).kid (by rw [hxy]; simp)
            have fy : Fit y := (hk.fit _ hm).kid (by rw [hxy]; simp)
            have hwt : wt x + wt y + 1 ≤ wt k.l[i] := by rw [wt_eq k.l[i], hxy]; simp only [wts]; omega
            have hwk := hk.wt _ hm
            have ew : wayT k.l[i] = some ([y], [x]) := by unfold wayT; rw [if_neg k3, if_neg k4, if_pos k10, hxy]
            refine ⟨some (wayP 75 74), by show mget (.n k.l[i].kind) waysL = _; rw [k10]; rfl, ?_⟩
            repeat (conv => whnf); first | refine IndepAnd (by kernel_rfl) ?_ | refine TreeAnd (by kernel_rfl) ?_ | refine ⟨rfl, ?_⟩ | refine ⟨by decide, ?_⟩ | refine ⟨trivial, ?_⟩ | refine ⟨⟨rfl, trivial⟩, ?_⟩ | refine ⟨Nat.le_of_ble_eq_true rfl, ?_⟩ | refine ⟨⟨_, rfl, rfl⟩, ?_⟩ | refine ⟨⟨rfl, rfl, trivial⟩, ?_⟩ | refine ⟨⟨rfl, rfl, rfl, trivial⟩, ?_⟩ | refine ⟨⟨rfl, rfl, rfl, rfl, trivial⟩, ?_⟩ | refine ⟨⟨rfl, rfl, rfl, rfl, rfl, trivial⟩, ?_⟩
            conv => whnf
            refine ⟨_, CallVC.pr (second_ok k.l[i] x y hxy) rfl rfl, ?_⟩
            repeat (conv => whnf); first | refine IndepAnd (by kernel_rfl) ?_ | refine TreeAnd (by kernel_rfl) ?_ | refine ⟨rfl, ?_⟩ | refine ⟨by decide, ?_⟩ | refine ⟨trivial, ?_⟩ | refine ⟨⟨rfl, trivial⟩, ?_⟩ | refine ⟨Nat.le_of_ble_eq_true rfl, ?_⟩ | refine ⟨⟨_, rfl, rfl⟩, ?_⟩ | refine ⟨⟨rfl, rfl, trivial⟩, ?_⟩ | refine ⟨⟨rfl, rfl, rfl, trivial⟩, ?_⟩ | refine ⟨⟨rfl, rfl, rfl, rfl, trivial⟩, ?_⟩ | refine ⟨⟨rfl, rfl, rfl, rfl, rfl, trivial⟩, ?_⟩
            conv => whnf
            refine ⟨_, MCallVC.pr gAn (allD_ok k.l k.s [y] (dIn k.l k.s (k.l.take i) k.d) (hdi i) (by simp) (by simp [fy]) (by simp; omega)).2 ⟨LE.of rfl, LE.of rfl, trivial⟩ ⟨.inr (.inl rfl), .inr (.inl rfl), .inr (.inl rfl), .inr (.inl rfl), trivial⟩ rfl, ?_⟩
            repeat (conv => whnf); first | refine IndepAnd (by kernel_rfl) ?_ | refine TreeAnd (by kernel_rfl) ?_ | refine ⟨rfl, ?_⟩ | refine ⟨by decide, ?_⟩ | refine ⟨trivial, ?_⟩ | refine ⟨⟨rfl, trivial⟩, ?_⟩ | refine ⟨Nat.le_of_ble_eq_true rfl, ?_⟩ | refine ⟨⟨_, rfl, rfl⟩, ?_⟩ | refine ⟨⟨rfl, rfl, trivial⟩, ?_⟩ | refine ⟨⟨rfl, rfl, rfl, trivial⟩, ?_⟩ | refine ⟨⟨rfl, rfl, rfl, rfl, trivial⟩, ?_⟩ | refine ⟨⟨rfl, rfl, rfl, rfl, rfl, trivial⟩, ?_⟩
            conv => whnf
            refine @bool_rec _ _ _ ?_ ?_ <;> intro h5
            · have h5 : [y].all (mkB k.s) = true := h5
              have eg : givesT k.s k.l[i] = [x] := by unfold givesT; rw [ew]; exact if_pos h5
              repeat (conv => whnf); first | refine IndepAnd (by kernel_rfl) ?_ | refine TreeAnd (by kernel_rfl) ?_ | refine ⟨rfl, ?_⟩ | refine ⟨by decide, ?_⟩ | refine ⟨trivial, ?_⟩ | refine ⟨⟨rfl, trivial⟩, ?_⟩ | refine ⟨Nat.le_of_ble_eq_true rfl, ?_⟩ | refine ⟨⟨_, rfl, rfl⟩, ?_⟩ | refine ⟨⟨rfl, rfl, trivial⟩, ?_⟩ | refine ⟨⟨rfl, rfl, rfl, trivial⟩, ?_⟩ | refine ⟨⟨rfl, rfl, rfl, rfl, trivial⟩, ?_⟩ | refine ⟨⟨rfl, rfl, rfl, rfl, rfl, trivial⟩, ?_⟩
              conv => whnf
              refine ⟨_, CallVC.pr (first_ok k.l[i] x y hxy) rfl rfl, ?_⟩
              repeat (conv => whnf); first | refine IndepAnd (by kernel_rfl) ?_ | refine TreeAnd (by kernel_rfl) ?_ | refine ⟨rfl, ?_⟩ | refine ⟨by decide, ?_⟩ | refine ⟨trivial, ?_⟩ | refine ⟨⟨rfl, trivial⟩, ?_⟩ | refine ⟨Nat.le_of_ble_eq_true rfl, ?_⟩ | refine ⟨⟨_, rfl, rfl⟩, ?_⟩ | refine ⟨⟨rfl, rfl, trivial⟩, ?_⟩ | refine ⟨⟨rfl, rfl, rfl, trivial⟩, ?_⟩ | refine ⟨⟨rfl, rfl, rfl, rfl, trivial⟩, ?_⟩ | refine ⟨⟨rfl, rfl, rfl, rfl, rfl, trivial⟩, ?_⟩
              conv => whnf
              refine ⟨tmvs_sz _, ?_⟩
              repeat (conv => whnf); first | refine IndepAnd (by kernel_rfl) ?_ | refine TreeAnd (by kernel_rfl) ?_ | refine ⟨rfl, ?_⟩ | refine ⟨by decide, ?_⟩ | refine ⟨trivial, ?_⟩ | refine ⟨⟨rfl, trivial⟩, ?_⟩ | refine ⟨Nat.le_of_ble_eq_true rfl, ?_⟩ | refine ⟨⟨_, rfl, rfl⟩, ?_⟩ | refine ⟨⟨rfl, rfl, trivial⟩, ?_⟩ | refine ⟨⟨rfl, rfl, rfl, trivial⟩, ?_⟩ | refine ⟨⟨rfl, rfl, rfl, rfl, trivial⟩, ?_⟩ | refine ⟨⟨rfl, rfl, rfl, rfl, rfl, trivial⟩, ?_⟩
              conv => whnf
              refine ⟨hby _ (by simp), ?_⟩
              repeat (conv => whnf); first | refine IndepAnd (by kernel_rfl) ?_ | refine TreeAnd (by kernel_rfl) ?_ | refine ⟨rfl, ?_⟩ | refine ⟨by decide, ?_⟩ | refine ⟨trivial, ?_⟩ | refine ⟨⟨rfl, trivial⟩, ?_⟩ | refine ⟨Nat.le_of_ble_eq_true rfl, ?_⟩ | refine ⟨⟨_, rfl, rfl⟩, ?_⟩ | refine ⟨⟨rfl, rfl, trivial⟩, ?_⟩ | refine ⟨⟨rfl, rfl, rfl, trivial⟩, ?_⟩ | refine ⟨⟨rfl, rfl, rfl, rfl, trivial⟩, ?_⟩ | refine ⟨⟨rfl, rfl, rfl, rfl, rfl, trivial⟩, ?_⟩
              conv => whnf
              refine ⟨_, wrapN (n := i + 1) rfl (by omega), ?_⟩
              repeat (conv => whnf); first | refine IndepAnd (by kernel_rfl) ?_ | refine TreeAnd (by kernel_rfl) ?_ | refine ⟨rfl, ?_⟩ | refine ⟨by decide, ?_⟩ | refine ⟨trivial, ?_⟩ | refine ⟨⟨rfl, trivial⟩, ?_⟩ | refine ⟨Nat.le_of_ble_eq_true rfl, ?_⟩ | refine ⟨⟨_, rfl, rfl⟩, ?_⟩ | refine ⟨⟨rfl, rfl, trivial⟩, ?_⟩ | refine ⟨⟨rfl, rfl, rfl, trivial⟩, ?_⟩ | refine ⟨⟨rfl, rfl, rfl, rfl, trivial⟩, ?_⟩ | refine ⟨⟨rfl, rfl, rfl, rfl, rfl, trivial⟩, ?_⟩
              conv => whnf
              refine ⟨⟨i + 1, hlt⟩, ?_, by show k.l.length - (i + 1) < k.l.length - i; omega⟩
              refine Ge.of rfl ?_ ?_
              · repeat (conv => whnf); refine ⟨LE.of rfl, ?_⟩
                trivial
              · repeat (conv => whnf); first | refine ⟨OLE.of rfl, ?_⟩ | refine ⟨OLE.of (congrArg (AO.row 24 3) (by show tmvs (moreT k.s (k.l.take i)) ++ tmvs [x] = tmvs (moreT k.s (k.l.take (i + 1))); rw [more_take _ hlt, eg, tmvs_append]; try simp [tmvs])), ?_⟩ | refine ⟨OLE.of (congrArg (fun d => AO.mp 50 true (mdM d)) (by show allD k.l k.s [y] (dIn k.l k.s (k.l.take i) k.d) = dIn k.l k.s (k.l.take (i + 1)) k.d; rw [dIn_take _ _ _ hlt, ew])), ?_⟩
                trivial
            · have h5 : [y].all (mkB k.s) = false := h5
              have eg : givesT k.s k.l[i] = [] := by unfold givesT; rw [ew]; exact if_neg (by rw [h5]; decide)
              repeat (conv => whnf); first | refine IndepAnd (by kernel_rfl) ?_ | refine TreeAnd (by kernel_rfl) ?_ | refine ⟨rfl, ?_⟩ | refine ⟨by decide, ?_⟩ | refine ⟨trivial, ?_⟩ | refine ⟨⟨rfl, trivial⟩, ?_⟩ | refine ⟨Nat.le_of_ble_eq_true rfl, ?_⟩ | refine ⟨⟨_, rfl, rfl⟩, ?_⟩ | refine ⟨⟨rfl, rfl, trivial⟩, ?_⟩ | refine ⟨⟨rfl, rfl, rfl, trivial⟩, ?_⟩ | refine ⟨⟨rfl, rfl, rfl, rfl, trivial⟩, ?_⟩ | refine ⟨⟨rfl, rfl, rfl, rfl, rfl, trivial⟩, ?_⟩
              conv => whnf
              refine ⟨_, wrapN (n := i + 1) rfl (by omega), ?_⟩
              repeat (conv => whnf); first | refine IndepAnd (by kernel_rfl) ?_ | refine TreeAnd (by kernel_rfl) ?_ | refine ⟨rfl, ?_⟩ | refine ⟨by decide, ?_⟩ | refine ⟨trivial, ?_⟩ | refine ⟨⟨rfl, trivial⟩, ?_⟩ | refine ⟨Nat.le_of_ble_eq_true rfl, ?_⟩ | refine ⟨⟨_, rfl, rfl⟩, ?_⟩ | refine ⟨⟨rfl, rfl, trivial⟩, ?_⟩ | refine ⟨⟨rfl, rfl, rfl, trivial⟩, ?_⟩ | refine ⟨⟨rfl, rfl, rfl, rfl, trivial⟩, ?_⟩ | refine ⟨⟨rfl, rfl, rfl, rfl, rfl, trivial⟩, ?_⟩
              conv => whnf
              refine ⟨⟨i + 1, hlt⟩, ?_, by show k.l.length - (i + 1) < k.l.length - i; omega⟩
              refine Ge.of rfl ?_ ?_
              · repeat (conv => whnf); refine ⟨LE.of rfl, ?_⟩
                trivial
              · repeat (conv => whnf); first | refine ⟨OLE.of rfl, ?_⟩ | refine ⟨OLE.of (congrArg (AO.row 24 3) (by show tmvs (moreT k.s (k.l.take i)) = tmvs (moreT k.s (k.l.take (i + 1))); rw [more_take _ hlt, eg, tmvs_append]; try simp [tmvs])), ?_⟩ | refine ⟨OLE.of (congrArg (fun d => AO.mp 50 true (mdM d)) (by show allD k.l k.s [y] (dIn k.l k.s (k.l.take i) k.d) = dIn k.l k.s (k.l.take (i + 1)) k.d; rw [dIn_take _ _ _ hlt, ew])), ?_⟩
                trivial
          · refine ⟨none, by show mget (.n k.l[i].kind) waysL = _; simp [waysL, mget, k3, k4, k10], ?_⟩
            have ew : wayT k.l[i] = none := by unfold wayT; rw [if_neg k3, if_neg k4, if_neg k10]
            have eg : givesT k.s k.l[i] = [] := by unfold givesT; rw [ew]
            repeat (conv => whnf); first | refine IndepAnd (by kernel_rfl) ?_ | refine TreeAnd (by kernel_rfl) ?_ | refine ⟨rfl, ?_⟩ | refine ⟨by decide, ?_⟩ | refine ⟨trivial, ?_⟩ | refine ⟨⟨rfl, trivial⟩, ?_⟩ | refine ⟨Nat.le_of_ble_eq_true rfl, ?_⟩ | refine ⟨⟨_, rfl, rfl⟩, ?_⟩ | refine ⟨⟨rfl, rfl, trivial⟩, ?_⟩ | refine ⟨⟨rfl, rfl, rfl, trivial⟩, ?_⟩ | refine ⟨⟨rfl, rfl, rfl, rfl, trivial⟩, ?_⟩ | refine ⟨⟨rfl, rfl, rfl, rfl, rfl, trivial⟩, ?_⟩
            conv => whnf
            refine ⟨_, wrapN (n := i + 1) rfl (by omega), ?_⟩
            repeat (conv => whnf); first | refine IndepAnd (by kernel_rfl) ?_ | refine TreeAnd (by kernel_rfl) ?_ | refine ⟨rfl, ?_⟩ | refine ⟨by decide, ?_⟩ | refine ⟨trivial, ?_⟩ | refine ⟨⟨rfl, trivial⟩, ?_⟩ | refine ⟨Nat.le_of_ble_eq_true rfl, ?_⟩ | refine ⟨⟨_, rfl, rfl⟩, ?_⟩ | refine ⟨⟨rfl, rfl, trivial⟩, ?_⟩ | refine ⟨⟨rfl, rfl, rfl, trivial⟩, ?_⟩ | refine ⟨⟨rfl, rfl, rfl, rfl, trivial⟩, ?_⟩ | refine ⟨⟨rfl, rfl, rfl, rfl, rfl, trivial⟩, ?_⟩
            conv => whnf
            refine ⟨⟨i + 1, hlt⟩, ?_, by show k.l.length - (i + 1) < k.l.length - i; omega⟩
            refine Ge.of rfl ?_ ?_
            · repeat (conv => whnf); refine ⟨LE.of rfl, ?_⟩
              trivial
            · repeat (conv => whnf); first | refine ⟨OLE.of rfl, ?_⟩ | refine ⟨OLE.of (congrArg (AO.row 24 3) (by show tmvs (moreT k.s (k.l.take i)) = tmvs (moreT k.s (k.l.take (i + 1))); rw [more_take _ hlt, eg, tmvs_append]; try simp [tmvs])), ?_⟩ | refine ⟨OLE.of (congrArg (fun d => AO.mp 50 true (mdM d)) (by show dIn k.l k.s (k.l.take i) k.d = dIn k.l k.s (k.l.take (i + 1)) k.d; rw [dIn_take _ _ _ hlt, ew])), ?_⟩
              trivial
    · have hge : i = k.l.length := by have h2 := of_decide_eq_false h2; rw [tmvs_length] at h2; have h2 : ¬ (i : Int) < (k.l.length : Int) := h2; omega
      have htk : k.l.take i = k.l := by rw [hge, List.take_length]
      obtain ⟨M, eM⟩ : ∃ M, M = moreT k.s k.l := ⟨_, rfl⟩
      obtain ⟨k1, e1⟩ : ∃ k1 : Kn, k1 = ⟨k.l, k.s, dIn k.l k.s k.l k.d⟩ := ⟨_, rfl⟩
      have hk1 : WK U k1 := by rw [e1]; exact { hk with d := dIn_ok k.l k.s k.l k.d hk.d hk.fit hk.wt }
      have hMs : ∀ u ∈ M, Fit u ∧ wt u ≤ 1000000000 ∧ canT u ∈ U := fun u hu => by
        rw [eM] at hu
        obtain ⟨t, ht, hu⟩ := List.mem_flatMap.1 hu
        have hu := gives_sub hu
        refine ⟨(hk.fit t ht).kid hu, by have := hk.wt t ht; have := wts_mem hu; have := wt_eq t; omega, ?_⟩
        rw [can_kid (hk.can t ht) hu]
        exact hU t (hk.sub t ht) u hu
      have hMl : M.length ≤ 2000000000000 := by
        rw [eM]
        have h1 := more_len (S := k.s) (l := k.l) hk.wt
        have h3 : k.l.length * 1000000000 ≤ 2000 * 1000000000 := Nat.mul_le_mul_right _ (by omega)
        omega
      have hpart : ∀ m, WK U ((M.take m).foldl addT k1) := fun m => WK.adds _ hk1 (fun t ht => (hMs t (List.mem_of_mem_take ht)).1) (fun t ht => (hMs t (List.mem_of_mem_take ht)).2.1) (fun t ht => (hMs t (List.mem_of_mem_take ht)).2.2)
      have hstep : M.foldl addT k1 = stepK k := by rw [eM, e1]; rfl
      repeat (conv => whnf); first | refine IndepAnd (by kernel_rfl) ?_ | refine TreeAnd (by kernel_rfl) ?_ | refine ⟨rfl, ?_⟩ | refine ⟨by decide, ?_⟩ | refine ⟨trivial, ?_⟩ | refine ⟨⟨rfl, trivial⟩, ?_⟩ | refine ⟨Nat.le_of_ble_eq_true rfl, ?_⟩ | refine ⟨⟨_, rfl, rfl⟩, ?_⟩ | refine ⟨⟨rfl, rfl, trivial⟩, ?_⟩ | refine ⟨⟨rfl, rfl, rfl, trivial⟩, ?_⟩ | refine ⟨⟨rfl, rfl, rfl, rfl, trivial⟩, ?_⟩ | refine ⟨⟨rfl, rfl, rfl, rfl, rfl, trivial⟩, ?_⟩
      conv => whnf
      refine ⟨{ m : Nat // m ≤ M.length }, fun m => Vc.S.of [(3, .ptr 1900 0), (4, .slc 1910), (5, iv ((tmvs k.l).length : Int)), (60, .slc 6), (61, iv ((tmvs M).length : Int)), (62, iv (m.1 : Int))] ((6, .row 24 3 (tmvs M)) :: AN ((M.take m.1).foldl addT k1)), fun m => M.length - m.1, ⟨0, Nat.zero_le _⟩, ?_, ?_⟩
      · have em : moreT k.s (k.l.take i) = M := by rw [htk, eM]
        have ed : (⟨k.l, k.s, dIn k.l k.s (k.l.take i) k.d⟩ : Kn) = k1 := by rw [htk, e1]
        refine Ge.of rfl ?_ ?_
        · repeat (conv => whnf); first | refine ⟨LE.of rfl, ?_⟩ | refine ⟨LE.of (congrArg (fun l => iv ((tmvs l).length : Int)) em), ?_⟩
          trivial
        · repeat (conv => whnf); first | refine ⟨OLE.of rfl, ?_⟩ | refine ⟨OLE.of (congrArg (fun l => AO.row 24 3 (tmvs l)) em), ?_⟩ | refine ⟨OLE.of (congrArg (fun k : Kn => AO.row 24 3 (tmvs k.l)) ed), ?_⟩ | refine ⟨OLE.of (congrArg (fun k : Kn => AO.mp 50 true (isM k.s)) ed), ?_⟩ | refine ⟨OLE.of (congrArg (fun k : Kn => AO.mp 50 true (mdM k.d)) ed), ?_⟩
          trivial
      rintro ⟨m, hm⟩
      repeat (conv => whnf); first | refine IndepAnd (by kernel_rfl) ?_ | refine TreeAnd (by kernel_rfl) ?_ | refine ⟨rfl, ?_⟩ | refine ⟨by decide, ?_⟩ | refine ⟨trivial, ?_⟩ | refine ⟨⟨rfl, trivial⟩, ?_⟩ | refine ⟨Nat.le_of_ble_eq_true rfl, ?_⟩ | refine ⟨⟨_, rfl, rfl⟩, ?_⟩ | refine ⟨⟨rfl, rfl, trivial⟩, ?_⟩ | refine ⟨⟨rfl, rfl, rfl, trivial⟩, ?_⟩ | refine ⟨⟨rfl, rfl, rfl, rfl, trivial⟩, ?_⟩ | refine ⟨⟨rfl, rfl, rfl, rfl, rfl, trivial⟩, ?_⟩
      conv => whnf
      refine @bool_rec _ _ _ ?_ ?_ <;> intro h3
      · have hlt : m < M.length := by have := of_decide_eq_true h3; rw [tmvs_length] at this; exact Int.ofNat_lt.1 this
        have hu := hMs _ (List.getElem_mem hlt)
        have hp := (hpart m).len
        have enx : (M.take (m + 1)).foldl addT k1 = addT ((M.take m).foldl addT k1) M[m] := by rw [List.take_succ_eq_append_getElem hlt, List.foldl_append]; rfl
        repeat (conv => whnf); first | refine IndepAnd (by kernel_rfl) ?_ | refine TreeAnd (by kernel_rfl) ?_ | refine ⟨rfl, ?_⟩ | refine ⟨by decide, ?_⟩ | refine ⟨trivial, ?_⟩ | refine ⟨⟨rfl, trivial⟩, ?_⟩ | refine ⟨Nat.le_of_ble_eq_true rfl, ?_⟩ | refine ⟨⟨_, rfl, rfl⟩, ?_⟩ | refine ⟨⟨rfl, rfl, trivial⟩, ?_⟩ | refine ⟨⟨rfl, rfl, rfl, trivial⟩, ?_⟩ | refine ⟨⟨rfl, rfl, rfl, rfl, trivial⟩, ?_⟩ | refine ⟨⟨rfl, rfl, rfl, rfl, rfl, trivial⟩, ?_⟩
        conv => whnf
        refine ⟨Int.natCast_nonneg _, by show m < (tmvs M).length; rw [tmvs_length]; exact hlt, ?_⟩
        repeat (conv => whnf); first | refine IndepAnd (by kernel_rfl) ?_ | refine TreeAnd (by kernel_rfl) ?_ | refine ⟨rfl, ?_⟩ | refine ⟨by decide, ?_⟩ | refine ⟨trivial, ?_⟩ | refine ⟨⟨rfl, trivial⟩, ?_⟩ | refine ⟨Nat.le_of_ble_eq_true rfl, ?_⟩ | refine ⟨⟨_, rfl, rfl⟩, ?_⟩ | refine ⟨⟨rfl, rfl, trivial⟩, ?_⟩ | refine ⟨⟨rfl, rfl, rfl, trivial⟩, ?_⟩ | refine ⟨⟨rfl, rfl, rfl, rfl, trivial⟩, ?_⟩ | refine ⟨⟨rfl, rfl, rfl, rfl, rfl, trivial⟩, ?_⟩
        conv => whnf
        refine ⟨TV M[m], tmvs_get hlt, rfl, rfl, rfl, ?_⟩
        repeat (conv => whnf); first | refine IndepAnd (by kernel_rfl) ?_ | refine TreeAnd (by kernel_rfl) ?_ | refine ⟨rfl, ?_⟩ | refine ⟨by decide, ?_⟩ | refine ⟨trivial, ?_⟩ | refine ⟨⟨rfl, trivial⟩, ?_⟩ | refine ⟨Nat.le_of_ble_eq_true rfl, ?_⟩ | refine ⟨⟨_, rfl, rfl⟩, ?_⟩ | refine ⟨⟨rfl, rfl, trivial⟩, ?_⟩ | refine ⟨⟨rfl, rfl, rfl, trivial⟩, ?_⟩ | refine ⟨⟨rfl, rfl, rfl, rfl, trivial⟩, ?_⟩ | refine ⟨⟨rfl, rfl, rfl, rfl, rfl, trivial⟩, ?_⟩
        conv => whnf
        refine ⟨_, MCallVC.pr gAn (add_ok ((M.take m).foldl addT k1) M[m] hu.1 hu.2.1 (by omega)) ⟨LE.of rfl, LE.of rfl, trivial⟩ ⟨.inr (.inl rfl), .inr (.inl rfl), .inr (.inl rfl), .inr (.inl rfl), trivial⟩ rfl, ?_⟩
        repeat (conv => whnf); first | refine IndepAnd (by kernel_rfl) ?_ | refine TreeAnd (by kernel_rfl) ?_ | refine ⟨rfl, ?_⟩ | refine ⟨by decide, ?_⟩ | refine ⟨trivial, ?_⟩ | refine ⟨⟨rfl, trivial⟩, ?_⟩ | refine ⟨Nat.le_of_ble_eq_true rfl, ?_⟩ | refine ⟨⟨_, rfl, rfl⟩, ?_⟩ | refine ⟨⟨rfl, rfl, trivial⟩, ?_⟩ | refine ⟨⟨rfl, rfl, rfl, trivial⟩, ?_⟩ | refine ⟨⟨rfl, rfl, rfl, rfl, trivial⟩, ?_⟩ | refine ⟨⟨rfl, rfl, rfl, rfl, rfl, trivial⟩, ?_⟩
        conv => whnf
        refine ⟨_, wrapN (n := m + 1) rfl (by omega), ?_⟩
        repeat (conv => whnf); first | refine IndepAnd (by kernel_rfl) ?_ | refine TreeAnd (by kernel_rfl) ?_ | refine ⟨rfl, ?_⟩ | refine ⟨by decide, ?_⟩ | refine ⟨trivial, ?_⟩ | refine ⟨⟨rfl, trivial⟩, ?_⟩ | refine ⟨Nat.le_of_ble_eq_true rfl, ?_⟩ | refine ⟨⟨_, rfl, rfl⟩, ?_⟩ | refine ⟨⟨rfl, rfl, trivial⟩, ?_⟩ | refine ⟨⟨rfl, rfl, rfl, trivial⟩, ?_⟩ | refine ⟨⟨rfl, rfl, rfl, rfl, trivial⟩, ?_⟩ | refine ⟨⟨rfl, rfl, rfl, rfl, rfl, trivial⟩, ?_⟩
        conv => whnf
        refine ⟨⟨m + 1, hlt⟩, ?_, by show M.length - (m + 1) < M.length - m; omega⟩
        refine Ge.of rfl ?_ ?_
        · repeat (conv => whnf); refine ⟨LE.of rfl, ?_⟩
          trivial
        · repeat (conv => whnf); first | refine ⟨OLE.of rfl, ?_⟩ | refine ⟨OLE.of (congrArg (fun k : Kn => AO.row 24 3 (tmvs k.l)) enx.symm), ?_⟩ | refine ⟨OLE.of (congrArg (fun k : Kn => AO.mp 50 true (isM k.s)) enx.symm), ?_⟩ | refine ⟨OLE.of (congrArg (fun k : Kn => AO.mp 50 true (mdM k.d)) enx.symm), ?_⟩
          trivial
      · have hge2 : m = M.length := by have h3 := of_decide_eq_false h3; rw [tmvs_length] at h3; have h3 : ¬ (m : Int) < (M.length : Int) := h3; omega
        have eend : (M.take m).foldl addT k1 = itK (ofT l) (j + 1) := by rw [hge2, List.take_length, hstep, ek]; rfl
        have hwas : wasK (ofT l) (itK (ofT l)) j < ((tmvs k.l).length : Int) := by rw [ek]; exact of_decide_eq_true h1
        have hwas2 : -1 ≤ wasK (ofT l) (itK (ofT l)) j := by cases j with | zero => exact Int.le_refl _ | succ j => show (-1 : Int) ≤ ((tmvs (itK (ofT l) j).l).length : Int); omega
        have ew2 : wasK (ofT l) (itK (ofT l)) (j + 1) = ((tmvs k.l).length : Int) := by rw [ek]; rfl
        repeat (conv => whnf); first | refine IndepAnd (by kernel_rfl) ?_ | refine TreeAnd (by kernel_rfl) ?_ | refine ⟨rfl, ?_⟩ | refine ⟨by decide, ?_⟩ | refine ⟨trivial, ?_⟩ | refine ⟨⟨rfl, trivial⟩, ?_⟩ | refine ⟨Nat.le_of_ble_eq_true rfl, ?_⟩ | refine ⟨⟨_, rfl, rfl⟩, ?_⟩ | refine ⟨⟨rfl, rfl, trivial⟩, ?_⟩ | refine ⟨⟨rfl, rfl, rfl, trivial⟩, ?_⟩ | refine ⟨⟨rfl, rfl, rfl, rfl, trivial⟩, ?_⟩ | refine ⟨⟨rfl, rfl, rfl, rfl, rfl, trivial⟩, ?_⟩
        conv => whnf
        refine ⟨⟨j + 1, fun i2 h => ?_, ?_⟩, ?_, ?_⟩
        · by_cases h4 : i2 + 1 < j
          · exact hj i2 h4
          · have : j = i2 + 1 := by omega
            subst this
            rw [ek, tmvs_length] at hwas
            have hwas : ((tmvs (itK (ofT l) i2).l).length : Int) < _ := hwas
            rw [tmvs_length] at hwas
            exact Int.ofNat_lt.1 hwas
        · show WK U (stepK (itK (ofT l) j))
          rw [← ek]
          exact hk.step hU
        · refine Ge.of rfl ?_ ?_
          · repeat (conv => whnf); first | refine ⟨LE.of rfl, ?_⟩ | refine ⟨LE.of (congrArg iv ew2.symm), ?_⟩
            trivial
          · repeat (conv => whnf); first | refine ⟨OLE.of rfl, ?_⟩ | refine ⟨OLE.of (congrArg (fun k : Kn => AO.row 24 3 (tmvs k.l)) eend), ?_⟩ | refine ⟨OLE.of (congrArg (fun k : Kn => AO.mp 50 true (isM k.s)) eend), ?_⟩ | refine ⟨OLE.of (congrArg (fun k : Kn => AO.mp 50 true (mdM k.d)) eend), ?_⟩
            trivial
        · show U.length + 1 - (wasK (ofT l) (itK (ofT l)) (j + 1) + 1).toNat < U.length + 1 - (wasK (ofT l) (itK (ofT l)) j + 1).toNat
          rw [ew2]
          rw [tmvs_length] at hwas ⊢
          omega
  · have h1 : ¬ wasK (ofT l) (itK (ofT l)) j < ((tmvs (itK (ofT l) j).l).length : Int) := of_decide_eq_false h1
    have hj0 : 0 < j := by
      cases j with
      | zero => exact absurd (show (-1 : Int) < _ by omega) h1
      | succ j => omega
    have hend : itK (ofT l) j = e := by
      refine he j hj hj0 ?_
      cases j with
      | zero => omega
      | succ j =>
        have h1 : ¬ ((tmvs (itK (ofT l) j).l).length : Int) < ((tmvs (itK (ofT l) (j + 1)).l).length : Int) := h1
        rw [tmvs_length, tmvs_length] at h1
        show (itK (ofT l) (j + 1)).l.length ≤ (itK (ofT l) j).l.length
        omega
    repeat (conv => whnf); first | refine IndepAnd (by kernel_rfl) ?_ | refine TreeAnd (by kernel_rfl) ?_ | refine ⟨rfl, ?_⟩ | refine ⟨by decide, ?_⟩ | refine ⟨trivial, ?_⟩ | refine ⟨⟨rfl, trivial⟩, ?_⟩ | refine ⟨Nat.le_of_ble_eq_true rfl, ?_⟩ | refine ⟨⟨_, rfl, rfl⟩, ?_⟩ | refine ⟨⟨rfl, rfl, trivial⟩, ?_⟩ | refine ⟨⟨rfl, rfl, rfl, trivial⟩, ?_⟩ | refine ⟨⟨rfl, rfl, rfl, rfl, trivial⟩, ?_⟩ | refine ⟨⟨rfl, rfl, rfl, rfl, rfl, trivial⟩, ?_⟩
    conv => whnf
    exact ⟨gAn, ⟨rfl, LE.of rfl⟩, ⟨.inr (.inl rfl), .inr (.inl (congrArg (fun k : Kn => AO.row 24 3 (tmvs k.l)) hend)), .inr (.inl (congrArg (fun k : Kn => AO.mp 50 true (isM k.s)) hend)), .inr (.inl (congrArg (fun k : Kn => AO.mp 50 true (mdM k.d)) hend)), trivial⟩, rfl, rfl⟩
end Go.Sl
