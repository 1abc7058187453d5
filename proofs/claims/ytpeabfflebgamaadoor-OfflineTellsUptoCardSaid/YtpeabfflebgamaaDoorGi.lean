/- Contracts: Canon. -/
/- mid -/
import Derived.Test.YtpeabfflebgamaaDoorGh
set_option linter.unusedVariables false
set_option linter.unusedSimpArgs false
namespace Go.Sl
open Go Go.Vc Go.Proofs Go.RowKit

def gT : List (Nat × Nat) → Nat → Nat
  | [], k => k
  | (a, b) :: r, k => cond (Nat.beq a k) b (gT r k)
theorem same07_ok (b : Bool) : ∀ t, Fit t → ∀ u, K b 20 [tv t, tv u] (.pv (.bool (decide (t = u)))) := by
  intro t
  induction t using Tm.indk with
  | h t ih =>
  intro hf u
  have hres : decide (t = u) = (decide (t.kind = u.kind) && (decide (t.name = u.name) && decide (t.kids = u.kids))) := by
    rw [Bool.eq_iff_iff]
    simp only [decide_eq_true_eq, Bool.and_eq_true]
    exact Tm.eq_iff t u
  rw [hres]
  refine PC_of_vc (cx_ok b) (mixed b) {} Tryd.func20 (by kernel_rfl) rfl rfl (by kernel_rfl) ?_
  repeat (conv => whnf); first|refine IndepAnd (by kernel_rfl) ?_|refine TreeAnd (by kernel_rfl) ?_|refine ⟨rfl,?_⟩|refine And.intro (by first|decide|exact trivial|exact Nat.le_of_ble_eq_true rfl|exact ⟨_,rfl,rfl⟩|exact ⟨rfl,trivial⟩|exact ⟨rfl,rfl,trivial⟩) ?_
  conv => whnf
  refine @bool_rec _ _ _ ?_ ?_ <;> intro h1
  · repeat (conv => whnf); first|refine IndepAnd (by kernel_rfl) ?_|refine TreeAnd (by kernel_rfl) ?_|refine ⟨rfl,?_⟩|refine And.intro (by first|decide|exact trivial|exact Nat.le_of_ble_eq_true rfl|exact ⟨_,rfl,rfl⟩|exact ⟨rfl,trivial⟩|exact ⟨rfl,rfl,trivial⟩) ?_
    conv => whnf
    refine LEP.of ?_
    simp at h1
    simp [h1]
  · have h1 : t.kind = u.kind := by simpa using h1
    repeat (conv => whnf); first|refine IndepAnd (by kernel_rfl) ?_|refine TreeAnd (by kernel_rfl) ?_|refine ⟨rfl,?_⟩|refine And.intro (by first|decide|exact trivial|exact Nat.le_of_ble_eq_true rfl|exact ⟨_,rfl,rfl⟩|exact ⟨rfl,trivial⟩|exact ⟨rfl,rfl,trivial⟩) ?_
    conv => whnf
    refine @bool_rec _ _ _ ?_ ?_ <;> intro h2
    · repeat (conv => whnf); first|refine IndepAnd (by kernel_rfl) ?_|refine TreeAnd (by kernel_rfl) ?_|refine ⟨rfl,?_⟩|refine And.intro (by first|decide|exact trivial|exact Nat.le_of_ble_eq_true rfl|exact ⟨_,rfl,rfl⟩|exact ⟨rfl,trivial⟩|exact ⟨rfl,rfl,trivial⟩) ?_
      conv => whnf
      refine LEP.of ?_
      simp at h2
      simp [h2]
    have h2 : t.name = u.name := by simpa using h2
    repeat (conv => whnf); first|refine IndepAnd (by kernel_rfl) ?_|refine TreeAnd (by kernel_rfl) ?_|refine ⟨rfl,?_⟩|refine And.intro (by first|decide|exact trivial|exact Nat.le_of_ble_eq_true rfl|exact ⟨_,rfl,rfl⟩|exact ⟨rfl,trivial⟩|exact ⟨rfl,rfl,trivial⟩) ?_
    conv => whnf
    refine @bool_rec _ _ _ ?_ ?_ <;> intro h3
    · repeat (conv => whnf); first|refine IndepAnd (by kernel_rfl) ?_|refine TreeAnd (by kernel_rfl) ?_|refine ⟨rfl,?_⟩|refine And.intro (by first|decide|exact trivial|exact Nat.le_of_ble_eq_true rfl|exact ⟨_,rfl,rfl⟩|exact ⟨rfl,trivial⟩|exact ⟨rfl,rfl,trivial⟩) ?_
      conv => whnf
      refine LEP.of ?_
      simp [tmvs_length] at h3
      simp
      intro _ _ e
      exact h3 (by rw [e])
    have h3 : t.kids.length = u.kids.length := by simp [tmvs_length] at h3; omega
    repeat (conv => whnf); first|refine IndepAnd (by kernel_rfl) ?_|refine TreeAnd (by kernel_rfl) ?_|refine ⟨rfl,?_⟩|refine And.intro (by first|decide|exact trivial|exact Nat.le_of_ble_eq_true rfl|exact ⟨_,rfl,rfl⟩|exact ⟨rfl,trivial⟩|exact ⟨rfl,rfl,trivial⟩) ?_
    conv => whnf
    refine ⟨{ i : Rd t.kids.length // t.kids.take i.1 = u.kids.take i.1 }, fun i => S.of [(2, .ptr 2 0), (3, .ptr 3 0), (5, iv (i.1.1 : Int))] [(2, .var true 24 (tv t)), (3, .var true 24 (tv u))], fun i => t.kids.length - i.1.1, ⟨Rd.zero _, rfl⟩, ?_, ?_⟩
    · refine Ge.of rfl ?_ ?_
      · repeat (conv => whnf); refine ⟨LE.of rfl, ?_⟩
        trivial
      · repeat (conv => whnf); refine ⟨OLE.of rfl, ?_⟩
        trivial
    rintro ⟨⟨i, hi⟩, htake⟩
    repeat (conv => whnf); first|refine IndepAnd (by kernel_rfl) ?_|refine TreeAnd (by kernel_rfl) ?_|refine ⟨rfl,?_⟩|refine And.intro (by first|decide|exact trivial|exact Nat.le_of_ble_eq_true rfl|exact ⟨_,rfl,rfl⟩|exact ⟨rfl,trivial⟩|exact ⟨rfl,rfl,trivial⟩) ?_
    conv => whnf
    refine @bool_rec _ _ _ ?_ ?_ <;> intro h4
    · have hlt : i < t.kids.length := by simpa [tmvs_length] using h4
      have hlt' : i < u.kids.length := h3 ▸ hlt
      repeat (conv => whnf); first|refine IndepAnd (by kernel_rfl) ?_|refine TreeAnd (by kernel_rfl) ?_|refine ⟨rfl,?_⟩|refine And.intro (by first|decide|exact trivial|exact Nat.le_of_ble_eq_true rfl|exact ⟨_,rfl,rfl⟩|exact ⟨rfl,trivial⟩|exact ⟨rfl,rfl,trivial⟩) ?_
      conv => whnf
      refine ⟨Int.natCast_nonneg _, TV t.kids[i], tmvs_getN hlt, rfl, rfl, ?_⟩
      repeat (conv => whnf); first|refine IndepAnd (by kernel_rfl) ?_|refine TreeAnd (by kernel_rfl) ?_|refine ⟨rfl,?_⟩|refine And.intro (by first|decide|exact trivial|exact Nat.le_of_ble_eq_true rfl|exact ⟨_,rfl,rfl⟩|exact ⟨rfl,trivial⟩|exact ⟨rfl,rfl,trivial⟩) ?_
      conv => whnf
      refine ⟨Int.natCast_nonneg _, TV u.kids[i], tmvs_getN hlt', rfl, rfl, ?_⟩
      repeat (conv => whnf); first|refine IndepAnd (by kernel_rfl) ?_|refine TreeAnd (by kernel_rfl) ?_|refine ⟨rfl,?_⟩|refine And.intro (by first|decide|exact trivial|exact Nat.le_of_ble_eq_true rfl|exact ⟨_,rfl,rfl⟩|exact ⟨rfl,trivial⟩|exact ⟨rfl,rfl,trivial⟩) ?_
      conv => whnf
      refine ⟨_, CallVC.pr (ih t.kids[i] (List.getElem_mem hlt) (hf.kid (List.getElem_mem hlt)) u.kids[i]) rfl rfl, ?_⟩
      repeat (conv => whnf); first|refine IndepAnd (by kernel_rfl) ?_|refine TreeAnd (by kernel_rfl) ?_|refine ⟨rfl,?_⟩|refine And.intro (by first|decide|exact trivial|exact Nat.le_of_ble_eq_true rfl|exact ⟨_,rfl,rfl⟩|exact ⟨rfl,trivial⟩|exact ⟨rfl,rfl,trivial⟩) ?_
      conv => whnf
      refine @bool_rec _ _ _ ?_ ?_ <;> intro h5
      · repeat (conv => whnf); first|refine IndepAnd (by kernel_rfl) ?_|refine TreeAnd (by kernel_rfl) ?_|refine ⟨rfl,?_⟩|refine And.intro (by first|decide|exact trivial|exact Nat.le_of_ble_eq_true rfl|exact ⟨_,rfl,rfl⟩|exact ⟨rfl,trivial⟩|exact ⟨rfl,rfl,trivial⟩) ?_
        conv => whnf
        refine LEP.of ?_
        simp at h5
        simp
        intro _ _ e
        exact h5 (by simp [e])
      · have h5 : t.kids[i] = u.kids[i] := by simpa using h5
        repeat (conv => whnf); first|refine IndepAnd (by kernel_rfl) ?_|refine TreeAnd (by kernel_rfl) ?_|refine ⟨rfl,?_⟩|refine And.intro (by first|decide|exact trivial|exact Nat.le_of_ble_eq_true rfl|exact ⟨_,rfl,rfl⟩|exact ⟨rfl,trivial⟩|exact ⟨rfl,rfl,trivial⟩) ?_
        conv => whnf
        have hlen := hf.len
        refine ⟨_, wrap64 (by show _ ≤ ((i : Nat) : Int) + 1; omega) (by show ((i : Nat) : Int) + 1 ≤ _; omega), ?_⟩
        repeat (conv => whnf); first|refine IndepAnd (by kernel_rfl) ?_|refine TreeAnd (by kernel_rfl) ?_|refine ⟨rfl,?_⟩|refine And.intro (by first|decide|exact trivial|exact Nat.le_of_ble_eq_true rfl|exact ⟨_,rfl,rfl⟩|exact ⟨rfl,trivial⟩|exact ⟨rfl,rfl,trivial⟩) ?_
        conv => whnf
        refine ⟨⟨⟨i + 1, hlt⟩, ?_⟩, ?_, ?_⟩
        · show t.kids.take (i + 1) = u.kids.take (i + 1)
          rw [List.take_succ_eq_append_getElem hlt, List.take_succ_eq_append_getElem hlt', h5, htake]
        · refine Ge.of rfl ?_ ?_
          · repeat (conv => whnf); refine ⟨LE.of rfl, ?_⟩
            trivial
          · repeat (conv => whnf); refine ⟨OLE.of rfl, ?_⟩
            trivial
        · show t.kids.length - (i + 1) < t.kids.length - i
          omega
    · have hge : i = t.kids.length := by simp [tmvs_length] at h4; omega
      repeat (conv => whnf); first|refine IndepAnd (by kernel_rfl) ?_|refine TreeAnd (by kernel_rfl) ?_|refine ⟨rfl,?_⟩|refine And.intro (by first|decide|exact trivial|exact Nat.le_of_ble_eq_true rfl|exact ⟨_,rfl,rfl⟩|exact ⟨rfl,trivial⟩|exact ⟨rfl,rfl,trivial⟩) ?_
      conv => whnf
      refine LEP.of ?_
      have : t.kids = u.kids := by
        have ht : t.kids.take i = u.kids.take i := htake
        rwa [List.take_of_length_le (by omega), List.take_of_length_le (by omega)] at ht
      simp [h1, h2, this]


/-- slices.Clone, the row being the caller's. -/
theorem clone_fresh (b : Bool) (l : List Tm) (hl : l.length * 48 ≤ 140737488355328) : K b 44 [lv l] (.fresh 24 3 (tmvs l)) := by
  refine PC_of_vc (cx_ok b) (mixed b) { own := fun t => Nat.beq t 5 || Nat.beq t 7 || Nat.beq t 2, fz := fun r => cond (Nat.beq r 2 || Nat.beq r 3) [2] [] } Tryd.func44 (by kernel_rfl) rfl rfl (by kernel_rfl) ?_
  repeat (conv => whnf); first|refine IndepAnd (by kernel_rfl) ?_|refine TreeAnd (by kernel_rfl) ?_|refine ⟨rfl,?_⟩|refine And.intro (by first|decide|exact trivial|exact Nat.le_of_ble_eq_true rfl|exact ⟨_,rfl,rfl⟩|exact ⟨rfl,trivial⟩|exact ⟨rfl,rfl,trivial⟩) ?_
  conv => whnf
  refine ⟨fun h => ?_, ?_⟩
  · repeat (conv => whnf); first|refine IndepAnd (by kernel_rfl) ?_|refine TreeAnd (by kernel_rfl) ?_|refine ⟨rfl,?_⟩|refine And.intro (by first|decide|exact trivial|exact Nat.le_of_ble_eq_true rfl|exact ⟨_,rfl,rfl⟩|exact ⟨rfl,trivial⟩|exact ⟨rfl,rfl,trivial⟩) ?_
    conv => whnf
    exact h.symm
  · repeat (conv => whnf); first|refine IndepAnd (by kernel_rfl) ?_|refine TreeAnd (by kernel_rfl) ?_|refine ⟨rfl,?_⟩|refine And.intro (by first|decide|exact trivial|exact Nat.le_of_ble_eq_true rfl|exact ⟨_,rfl,rfl⟩|exact ⟨rfl,trivial⟩|exact ⟨rfl,rfl,trivial⟩) ?_
    conv => whnf
    refine ⟨tmvs_sz l, ?_⟩
    repeat (conv => whnf); first|refine IndepAnd (by kernel_rfl) ?_|refine TreeAnd (by kernel_rfl) ?_|refine ⟨rfl,?_⟩|refine And.intro (by first|decide|exact trivial|exact Nat.le_of_ble_eq_true rfl|exact ⟨_,rfl,rfl⟩|exact ⟨rfl,trivial⟩|exact ⟨rfl,rfl,trivial⟩) ?_
    conv => whnf
    refine ⟨by rw [tmvs_length]; show (0 + l.length) * 48 ≤ _; omega, ?_⟩
    repeat (conv => whnf); first|refine IndepAnd (by kernel_rfl) ?_|refine TreeAnd (by kernel_rfl) ?_|refine ⟨rfl,?_⟩|refine And.intro (by first|decide|exact trivial|exact Nat.le_of_ble_eq_true rfl|exact ⟨_,rfl,rfl⟩|exact ⟨rfl,trivial⟩|exact ⟨rfl,rfl,trivial⟩) ?_
    conv => whnf
    rfl
/-- slices.Reverse of two. -/
theorem reverse2 (b : Bool) (x y : Tm) : PM (cx b) 58 [(2000, .row 24 3 [TV x, TV y])] [.slc 2000] [(2000, .row 24 3 [TV y, TV x])] (.tupS []) := by
  refine PM_of_vc (cx_ok b) (mixed b) { tr := trT [(3, [0, 0, 0, 0, 0, 0, 48, 112, 0, 0, 768, 1792, 4083, 8179, 16383, 32767], .one 0 (.one 1 (.one 4 (.one 5 (.one 6 (.one 7 (.one 8 (.one 9 (.one 10 (.one 11 (.one 12 (.alt (.one 2 (.alt (.one 3 (.one 13 (.one 14 (.one 15 (.fin))))) (.one 13 (.one 3 (.one 14 (.one 15 (.fin))))))) (.alt (.one 3 (.alt (.one 2 (.one 13 (.one 14 (.one 15 (.fin))))) (.one 13 (.one 2 (.one 14 (.one 15 (.fin))))))) (.one 13 (.one 2 (.one 3 (.one 14 (.one 15 (.fin)))))))))))))))))))] } Tryd.func58 (by kernel_rfl) rfl rfl (by kernel_rfl) rfl ?_
  repeat (conv => whnf); first|refine IndepAnd (by kernel_rfl) ?_|refine TreeAnd (by kernel_rfl) ?_|refine ⟨rfl,?_⟩|refine And.intro (by first|decide|exact trivial|exact Nat.le_of_ble_eq_true rfl|exact ⟨_,rfl,rfl⟩|exact ⟨rfl,trivial⟩|exact ⟨rfl,rfl,trivial⟩) ?_
  conv => whnf
  refine ⟨1, rfl, ?_⟩
  repeat (conv => whnf); first|refine IndepAnd (by kernel_rfl) ?_|refine TreeAnd (by kernel_rfl) ?_|refine ⟨rfl,?_⟩|refine And.intro (by first|decide|exact trivial|exact Nat.le_of_ble_eq_true rfl|exact ⟨_,rfl,rfl⟩|exact ⟨rfl,trivial⟩|exact ⟨rfl,rfl,trivial⟩) ?_
  conv => whnf
  refine ⟨Bool, fun q => S.of [(0, .slc 2000), (2, iv (cond q 1 0)), (3, iv (cond q 0 1))] [(2000, .row 24 3 (cond q [TV y, TV x] [TV x, TV y]))], fun q => cond q 0 1, false, ?_, ?_⟩
  · refine Ge.of rfl ?_ ?_
    · repeat (conv => whnf); refine ⟨LE.of rfl, ?_⟩
      trivial
    · repeat (conv => whnf); refine ⟨OLE.of rfl, ?_⟩
      trivial
  intro q
  cases q with
  | false =>
    repeat (conv => whnf); first|refine IndepAnd (by kernel_rfl) ?_|refine TreeAnd (by kernel_rfl) ?_|refine ⟨rfl,?_⟩|refine And.intro (by first|decide|exact trivial|exact Nat.le_of_ble_eq_true rfl|exact ⟨_,rfl,rfl⟩|exact ⟨rfl,trivial⟩|exact ⟨rfl,rfl,trivial⟩) ?_
    conv => whnf
    refine ⟨TV y, rfl, rfl, rfl, rfl, ?_⟩
    repeat (conv => whnf); first|refine IndepAnd (by kernel_rfl) ?_|refine TreeAnd (by kernel_rfl) ?_|refine ⟨rfl,?_⟩|refine And.intro (by first|decide|exact trivial|exact Nat.le_of_ble_eq_true rfl|exact ⟨_,rfl,rfl⟩|exact ⟨rfl,trivial⟩|exact ⟨rfl,rfl,trivial⟩) ?_
    conv => whnf
    refine ⟨TV x, rfl, rfl, rfl, rfl, ?_⟩
    repeat' ((conv => whnf); first | refine IndepAnd (by kernel_rfl) ?_ | refine TreeAnd (by kernel_rfl) ?_ | refine ⟨rfl, ?_⟩ | refine ⟨by decide, ?_⟩ | refine ⟨trivial, ?_⟩ | refine ⟨⟨rfl, trivial⟩, ?_⟩ | refine ⟨Nat.le_of_ble_eq_true rfl, ?_⟩ | refine ⟨⟨_, rfl, rfl⟩, ?_⟩ | refine ⟨⟨rfl, rfl, trivial⟩, ?_⟩ | refine ⟨⟨rfl, rfl, rfl, trivial⟩, ?_⟩ | refine ⟨⟨rfl, rfl, rfl, rfl, trivial⟩, ?_⟩ | refine ⟨⟨rfl, rfl, rfl, rfl, rfl, trivial⟩, ?_⟩ | refine AltAnd ?_ ?_)
    all_goals (conv => whnf)
    all_goals refine ⟨1, rfl, ?_⟩
    repeat' ((conv => whnf); first | refine IndepAnd (by kernel_rfl) ?_ | refine TreeAnd (by kernel_rfl) ?_ | refine ⟨rfl, ?_⟩ | refine ⟨by decide, ?_⟩ | refine ⟨trivial, ?_⟩ | refine ⟨⟨rfl, trivial⟩, ?_⟩ | refine ⟨Nat.le_of_ble_eq_true rfl, ?_⟩ | refine ⟨⟨_, rfl, rfl⟩, ?_⟩ | refine ⟨⟨rfl, rfl, trivial⟩, ?_⟩ | refine ⟨⟨rfl, rfl, rfl, trivial⟩, ?_⟩ | refine ⟨⟨rfl, rfl, rfl, rfl, trivial⟩, ?_⟩ | refine ⟨⟨rfl, rfl, rfl, rfl, rfl, trivial⟩, ?_⟩ | refine AltAnd ?_ ?_)
    all_goals (conv => whnf)
    all_goals refine ⟨0, rfl, ?_⟩
    repeat' ((conv => whnf); first | refine IndepAnd (by kernel_rfl) ?_ | refine TreeAnd (by kernel_rfl) ?_ | refine ⟨rfl, ?_⟩ | refine ⟨by decide, ?_⟩ | refine ⟨trivial, ?_⟩ | refine ⟨⟨rfl, trivial⟩, ?_⟩ | refine ⟨Nat.le_of_ble_eq_true rfl, ?_⟩ | refine ⟨⟨_, rfl, rfl⟩, ?_⟩ | refine ⟨⟨rfl, rfl, trivial⟩, ?_⟩ | refine ⟨⟨rfl, rfl, rfl, trivial⟩, ?_⟩ | refine ⟨⟨rfl, rfl, rfl, rfl, trivial⟩, ?_⟩ | refine ⟨⟨rfl, rfl, rfl, rfl, rfl, trivial⟩, ?_⟩ | refine AltAnd ?_ ?_)
    all_goals (conv => whnf)
    all_goals refine ⟨true, ?_, by decide⟩
    all_goals refine Ge.of rfl ?_ ?_
    all_goals repeat (conv => whnf); first | refine ⟨LE.of rfl, ?_⟩ | refine ⟨OLE.of rfl, ?_⟩
    all_goals trivial
  | true =>
    repeat (conv => whnf); first|refine IndepAnd (by kernel_rfl) ?_|refine TreeAnd (by kernel_rfl) ?_|refine ⟨rfl,?_⟩|refine And.intro (by first|decide|exact trivial|exact Nat.le_of_ble_eq_true rfl|exact ⟨_,rfl,rfl⟩|exact ⟨rfl,trivial⟩|exact ⟨rfl,rfl,trivial⟩) ?_
    conv => whnf
    exact ⟨id, rfl, ⟨.inr (.inl rfl), trivial⟩, rfl, rfl⟩
end Go.Sl
