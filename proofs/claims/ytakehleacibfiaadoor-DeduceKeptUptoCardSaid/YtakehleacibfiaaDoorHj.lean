/- Contracts of layer 8: Knows, Made, Analyze. -/
import Derived.Test.YtakehleacibfiaaDoorHi
set_option linter.unusedVariables false
set_option linter.unusedSimpArgs false
namespace Go.Sl
open Go Go.Vc Go.Proofs Go.RowKit

theorem itK_mono (k : Kn) (j : Nat) : (itK k j).l.length ≤ (itK k (j + 1)).l.length := by
  have key : ∀ (m : List Tm) (k : Kn), k.l.length ≤ (m.foldl addT k).l.length := by
    intro m
    induction m with
    | nil => intro k; exact Nat.le_refl _
    | cons t m ih =>
      intro k
      refine Nat.le_trans ?_ (ih (addT k t))
      unfold addT
      split
      · exact Nat.le_refl _
      · simp
  exact key (moreT (itK k j).s (itK k j).l) ⟨(itK k j).l, (itK k j).s, dIn (itK k j).l (itK k j).s (itK k j).l (itK k j).d⟩
theorem least {P : Nat → Prop} : ∀ n, P n → ∃ m, P m ∧ ∀ i, i < m → ¬ P i := by
  intro n
  induction n using Nat.strongRecOn with
  | _ n ih =>
  intro h
  by_cases hx : ∃ i, i < n ∧ P i
  · obtain ⟨i, hi, hp⟩ := hx
    exact ih i hi hp
  · exact ⟨n, h, fun i hi hp => hx ⟨i, hi, hp⟩⟩
theorem itK_wk {U : List Tm} (hU : ∀ t ∈ U, ∀ u ∈ t.kids, u ∈ U) {k : Kn} (h : WK U k) : ∀ j, WK U (itK k j)
  | 0 => h
  | j + 1 => (itK_wk hU h j).step hU
/-- The rounds come to an end. -/
theorem end_ex {U : List Tm} (hU : ∀ t ∈ U, ∀ u ∈ t.kids, u ∈ U) {k : Kn} (h : WK U k) : ∃ e : Kn, WK U e ∧ (∃ m, e = itK k (m + 1) ∧ (itK k (m + 1)).l.length ≤ (itK k m).l.length) ∧
    ∀ j, (∀ i, i + 1 < j → (itK k i).l.length < (itK k (i + 1)).l.length) → 0 < j → (itK k j).l.length ≤ (itK k (j - 1)).l.length → itK k j = e := by
  have hex : ∃ n, (itK k (n + 1)).l.length ≤ (itK k n).l.length := by
    refine Classical.byContradiction fun hc => ?_
    have hg : ∀ n, (itK k n).l.length < (itK k (n + 1)).l.length := fun n => Nat.lt_of_not_le fun hle => hc ⟨n, hle⟩
    have hn : ∀ n, n ≤ (itK k n).l.length := by
      intro n
      induction n with
      | zero => exact Nat.zero_le _
      | succ n ih => have := hg n; omega
    have h1 := hn (U.length + 1)
    have h2 := (itK_wk hU h (U.length + 1)).len
    omega
  obtain ⟨n, hn⟩ := hex
  obtain ⟨m, hm, hl⟩ := least (P := fun n => (itK k (n + 1)).l.length ≤ (itK k n).l.length) n hn
  refine ⟨itK k (m + 1), itK_wk hU h (m + 1), ⟨m, rfl, hm⟩, fun j hj h0 hle => ?_⟩
  obtain ⟨j, rfl⟩ : ∃ i, j = i + 1 := ⟨j - 1, by omega⟩
  have h1 : ¬ j < m := fun hlt => hl j hlt (by simpa using hle)
  have h2 : ¬ m < j := fun hlt => by have := hj m (by omega); omega
  rw [show j = m by omega]
theorem Knows_ok (L : List Tm) (S : List Bs) (D : List (Bs × Bool)) (hD : DOk S D) (l : List Tm) (t : Tm) (hf : Fit t) (hw : wt t ≤ 1000000000)
    (h : PM (cx true) 42 [] [lv l] (KS L S D) (.ptr 2000 0)) :
    K true 19 [lv l, tv t] (.pv (.bool (mkB S (canT t)))) := by
  obtain ⟨D', d1, d2⟩ := Makes_ok L S t hf hw D hD
  refine PC_of_vc (cx_ok true) (mixed true) { own := fun q => Nat.beq q 100006 || Nat.beq q 100008, tr := trT [(1, [0, 1, 0, 7, 15], .one 0 (.alt (.one 1 (.one 2 (.one 3 (.one 4 (.fin))))) (.one 2 (.one 1 (.one 3 (.one 4 (.fin)))))))] } Tryd.func19 (by kernel_rfl) rfl rfl (by kernel_rfl) ?_
  repeat' ((conv => whnf); first | refine IndepAnd (by kernel_rfl) ?_ | refine TreeAnd (by kernel_rfl) ?_ | refine ⟨rfl, ?_⟩ | refine ⟨by decide, ?_⟩ | refine ⟨trivial, ?_⟩ | refine ⟨⟨rfl, trivial⟩, ?_⟩ | refine ⟨Nat.le_of_ble_eq_true rfl, ?_⟩ | refine ⟨⟨_, rfl, rfl⟩, ?_⟩ | refine ⟨⟨rfl, rfl, trivial⟩, ?_⟩ | refine ⟨⟨rfl, rfl, rfl, trivial⟩, ?_⟩ | refine ⟨⟨rfl, rfl, rfl, rfl, trivial⟩, ?_⟩ | refine ⟨⟨rfl, rfl, rfl, rfl, rfl, trivial⟩, ?_⟩ | refine AltAnd ?_ ?_)
  all_goals (conv => whnf)
  all_goals refine ⟨_, MCallVC.pr (gT [(2000, 1900), (1001, 1901), (2002, 1902), (2003, 1903)]) h ⟨LE.of rfl, trivial⟩ trivial rfl, ?_⟩
  repeat' ((conv => whnf); first | refine IndepAnd (by kernel_rfl) ?_ | refine TreeAnd (by kernel_rfl) ?_ | refine ⟨rfl, ?_⟩ | refine ⟨by decide, ?_⟩ | refine ⟨trivial, ?_⟩ | refine ⟨⟨rfl, trivial⟩, ?_⟩ | refine ⟨Nat.le_of_ble_eq_true rfl, ?_⟩ | refine ⟨⟨_, rfl, rfl⟩, ?_⟩ | refine ⟨⟨rfl, rfl, trivial⟩, ?_⟩ | refine ⟨⟨rfl, rfl, rfl, trivial⟩, ?_⟩ | refine ⟨⟨rfl, rfl, rfl, rfl, trivial⟩, ?_⟩ | refine ⟨⟨rfl, rfl, rfl, rfl, rfl, trivial⟩, ?_⟩ | refine AltAnd ?_ ?_)
  all_goals (conv => whnf)
  all_goals refine ⟨_, MCallVC.pr (gT [(2000, 1900), (2001, 1901), (2002, 1902), (2003, 1903)]) d2 ⟨LE.of rfl, LE.of rfl, trivial⟩ ⟨.inr (.inl rfl), .inr (.inl rfl), .inr (.inl rfl), .inr (.inl rfl), trivial⟩ rfl, ?_⟩
  repeat' ((conv => whnf); first | refine IndepAnd (by kernel_rfl) ?_ | refine TreeAnd (by kernel_rfl) ?_ | refine ⟨rfl, ?_⟩ | refine ⟨by decide, ?_⟩ | refine ⟨trivial, ?_⟩ | refine ⟨⟨rfl, trivial⟩, ?_⟩ | refine ⟨Nat.le_of_ble_eq_true rfl, ?_⟩ | refine ⟨⟨_, rfl, rfl⟩, ?_⟩ | refine ⟨⟨rfl, rfl, trivial⟩, ?_⟩ | refine ⟨⟨rfl, rfl, rfl, trivial⟩, ?_⟩ | refine ⟨⟨rfl, rfl, rfl, rfl, trivial⟩, ?_⟩ | refine ⟨⟨rfl, rfl, rfl, rfl, rfl, trivial⟩, ?_⟩ | refine AltAnd ?_ ?_)
  all_goals (conv => whnf)
  all_goals exact LEP.refl _
end Go.Sl
