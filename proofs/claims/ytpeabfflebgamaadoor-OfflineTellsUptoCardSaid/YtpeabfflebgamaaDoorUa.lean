/- Contracts of the document's answer for terms: how deep, of what shape. -/
/- short -/
import Derived.Test.YtpeabfflebgamaaDoorQg
set_option linter.unusedVariables false
set_option linter.unusedSimpArgs false
namespace Go.Sl
open Go Go.Vc Go.Proofs Go.RowKit

theorem deep07_ok (b : Bool) : ∀ t, Fit t → ∀ d : Nat, 1 ≤ d → d ≤ 1000 → K b 38 [tv t, iv d] (.pv (.int .i64 (depT t d : Nat))) := by
  intro t
  induction t using Tm.indk with
  | h t ih =>
  intro hf d h1 hd
  have hlen := hf.len
  refine PC_of_vc (cx_ok b) (mixed b) {} Tryd.func38 (by kernel_rfl) rfl rfl (by kernel_rfl) ?_
  repeat (conv => whnf); first|refine IndepAnd (by kernel_rfl) ?_|refine ⟨rfl,?_⟩|refine And.intro (by first|decide|exact trivial|exact ⟨_,rfl,rfl⟩|exact ⟨rfl,trivial⟩|exact ⟨rfl,rfl,trivial⟩) ?_
  conv => whnf
  refine @bool_rec _ _ _ ?_ ?_ <;> intro h2
  · have h2 : d = 1 := by have : (d : Int) ≤ 1 := of_decide_eq_true h2; omega
    repeat (conv => whnf); first|refine IndepAnd (by kernel_rfl) ?_|refine ⟨rfl,?_⟩|refine And.intro (by first|decide|exact trivial|exact ⟨_,rfl,rfl⟩|exact ⟨rfl,trivial⟩|exact ⟨rfl,rfl,trivial⟩) ?_
    conv => whnf
    refine LEP.of (congrArg (PV.int .i64) ?_)
    rw [depT, depth_mk]
    omega
  · have h2 : 1 < d := by have : ¬ (d : Int) ≤ 1 := of_decide_eq_false h2; omega
    repeat (conv => whnf); first|refine IndepAnd (by kernel_rfl) ?_|refine ⟨rfl,?_⟩|refine And.intro (by first|decide|exact trivial|exact ⟨_,rfl,rfl⟩|exact ⟨rfl,trivial⟩|exact ⟨rfl,rfl,trivial⟩) ?_
    conv => whnf
    refine ⟨Rd t.kids.length, fun i => S.of [(1, iv d), (2, .ptr 2 0), (5, iv ((min (Tm.depths (t.kids.take i.1)) (d - 1) : Nat) : Int)), (6, iv (i.1 : Int))] [(2, .var true 24 (tv t))], fun i => t.kids.length - i.1, Rd.zero _, ?_, ?_⟩
    · refine Ge.of rfl ?_ ?_
      · repeat (conv => whnf); first | refine ⟨LE.of (show _ = iv ((min (Tm.depths (t.kids.take 0)) (d - 1) : Nat) : Int) by simp [Tm.depths]; rfl), ?_⟩ | refine ⟨LE.of rfl, ?_⟩
        trivial
      · repeat (conv => whnf); refine ⟨OLE.of rfl, ?_⟩
        trivial
    rintro ⟨i, hi⟩
    repeat (conv => whnf); first|refine IndepAnd (by kernel_rfl) ?_|refine ⟨rfl,?_⟩|refine And.intro (by first|decide|exact trivial|exact ⟨_,rfl,rfl⟩|exact ⟨rfl,trivial⟩|exact ⟨rfl,rfl,trivial⟩) ?_
    conv => whnf
    refine @bool_rec _ _ _ ?_ ?_ <;> intro h4
    · have hlt : i < t.kids.length := by have := of_decide_eq_true h4; rw [tmvs_length] at this; exact Int.ofNat_lt.1 this
      have hm := List.getElem_mem hlt
      repeat (conv => whnf); first|refine IndepAnd (by kernel_rfl) ?_|refine ⟨rfl,?_⟩|refine And.intro (by first|decide|exact trivial|exact ⟨_,rfl,rfl⟩|exact ⟨rfl,trivial⟩|exact ⟨rfl,rfl,trivial⟩) ?_
      conv => whnf
      refine ⟨Int.natCast_nonneg _, TV t.kids[i], tmvs_getN hlt, rfl, rfl, ?_⟩
      repeat (conv => whnf); first|refine IndepAnd (by kernel_rfl) ?_|refine ⟨rfl,?_⟩|refine And.intro (by first|decide|exact trivial|exact ⟨_,rfl,rfl⟩|exact ⟨rfl,trivial⟩|exact ⟨rfl,rfl,trivial⟩) ?_
      conv => whnf
      refine ⟨_, wrapN (n := d - 1) (by omega) (by omega), ?_⟩
      repeat (conv => whnf); first|refine IndepAnd (by kernel_rfl) ?_|refine ⟨rfl,?_⟩|refine And.intro (by first|decide|exact trivial|exact ⟨_,rfl,rfl⟩|exact ⟨rfl,trivial⟩|exact ⟨rfl,rfl,trivial⟩) ?_
      conv => whnf
      refine ⟨_, CallVC.pr (ih t.kids[i] hm (hf.kid hm) (d - 1) (by omega) (by omega)) rfl rfl, ?_⟩
      repeat (conv => whnf); first|refine IndepAnd (by kernel_rfl) ?_|refine ⟨rfl,?_⟩|refine And.intro (by first|decide|exact trivial|exact ⟨_,rfl,rfl⟩|exact ⟨rfl,trivial⟩|exact ⟨rfl,rfl,trivial⟩) ?_
      conv => whnf
      refine ⟨_, wrapN (n := i + 1) rfl (by omega), ?_⟩
      repeat (conv => whnf); first|refine IndepAnd (by kernel_rfl) ?_|refine ⟨rfl,?_⟩|refine And.intro (by first|decide|exact trivial|exact ⟨_,rfl,rfl⟩|exact ⟨rfl,trivial⟩|exact ⟨rfl,rfl,trivial⟩) ?_
      conv => whnf
      refine ⟨⟨i + 1, hlt⟩, ?_, by show t.kids.length - (i + 1) < t.kids.length - i; omega⟩
      have hmx : (SV.p (.int .i64 (max ((min (Tm.depths (t.kids.take i)) (d - 1) : Nat) : Int) ((depT t.kids[i] (d - 1) : Nat) : Int)))) = iv ((min (Tm.depths (t.kids.take (i + 1))) (d - 1) : Nat) : Int) := by
        rw [depths_take hlt, depT]
        congr 2
        omega
      refine Ge.of rfl ?_ ?_
      · repeat (conv => whnf); first | refine ⟨LE.of hmx, ?_⟩ | refine ⟨LE.of rfl, ?_⟩
        trivial
      · repeat (conv => whnf); refine ⟨OLE.of rfl, ?_⟩
        trivial
    · have hge : t.kids.take i = t.kids := List.take_of_length_le (by have := of_decide_eq_false h4; rw [tmvs_length] at this; have h5 : ¬ ((i : Int) < t.kids.length) := this; omega)
      repeat (conv => whnf); first|refine IndepAnd (by kernel_rfl) ?_|refine ⟨rfl,?_⟩|refine And.intro (by first|decide|exact trivial|exact ⟨_,rfl,rfl⟩|exact ⟨rfl,trivial⟩|exact ⟨rfl,rfl,trivial⟩) ?_
      conv => whnf
      refine ⟨_, wrapN (n := min (Tm.depths (t.kids.take i)) (d - 1) + 1) rfl (by omega), ?_⟩
      repeat (conv => whnf); first|refine IndepAnd (by kernel_rfl) ?_|refine ⟨rfl,?_⟩|refine And.intro (by first|decide|exact trivial|exact ⟨_,rfl,rfl⟩|exact ⟨rfl,trivial⟩|exact ⟨rfl,rfl,trivial⟩) ?_
      conv => whnf
      refine LEP.of (congrArg (PV.int .i64) ?_)
      rw [hge, depT, depth_mk]
      omega
/-- How many kids a kind has; less than nothing: any number, or no such kind. -/
def kidsT (k : Int) : Int := if k = 1 ∨ k = 2 then 0 else if k = 3 then -1 else if k = 4 ∨ k = 5 ∨ k = 9 ∨ k = 10 then 2 else if k = 6 ∨ k = 7 ∨ k = 8 then 1 else -2
theorem kids07_ok (b : Bool) (k : Int) : K b 86 [iv k] (.pv (.int .i64 (kidsT k))) := by
  have cases11 : k = 1 ∨ k = 2 ∨ k = 3 ∨ k = 4 ∨ k = 5 ∨ k = 6 ∨ k = 7 ∨ k = 8 ∨ k = 9 ∨ k = 10 ∨ (k ≠ 1 ∧ k ≠ 2 ∧ k ≠ 3 ∧ k ≠ 4 ∧ k ≠ 5 ∧ k ≠ 6 ∧ k ≠ 7 ∧ k ≠ 8 ∧ k ≠ 9 ∧ k ≠ 10) := by omega
  rcases cases11 with rfl | rfl | rfl | rfl | rfl | rfl | rfl | rfl | rfl | rfl | ⟨h1, h2, h3, h4, h5, h6, h7, h8, h9, h10⟩
  iterate 10
    · refine PC_of_vc (cx_ok b) (mixed b) {} Tryd.func86 (by kernel_rfl) rfl rfl (by kernel_rfl) ?_
      repeat (conv => whnf); first|refine IndepAnd (by kernel_rfl) ?_|refine ⟨rfl,?_⟩|refine And.intro (by first|decide|exact trivial|exact ⟨_,rfl,rfl⟩|exact ⟨rfl,trivial⟩|exact ⟨rfl,rfl,trivial⟩) ?_
      conv => whnf
      exact LEP.refl _
  · have e : kidsT k = -2 := by unfold kidsT; rw [if_neg (by omega), if_neg (by omega), if_neg (by omega), if_neg (by omega)]
    rw [e]
    refine PC_of_vc (cx_ok b) (mixed b) {} Tryd.func86 (by kernel_rfl) rfl rfl (by kernel_rfl) ?_
    repeat (conv => whnf); first|refine IndepAnd (by kernel_rfl) ?_|refine ⟨rfl,?_⟩|refine And.intro (by first|decide|exact trivial|exact ⟨_,rfl,rfl⟩|exact ⟨rfl,trivial⟩|exact ⟨rfl,rfl,trivial⟩) ?_
    conv => whnf
    rw [decide_eq_false h1]
    repeat (conv => whnf); first|refine IndepAnd (by kernel_rfl) ?_|refine ⟨rfl,?_⟩|refine And.intro (by first|decide|exact trivial|exact ⟨_,rfl,rfl⟩|exact ⟨rfl,trivial⟩|exact ⟨rfl,rfl,trivial⟩) ?_
    conv => whnf
    rw [decide_eq_false h2]
    repeat (conv => whnf); first|refine IndepAnd (by kernel_rfl) ?_|refine ⟨rfl,?_⟩|refine And.intro (by first|decide|exact trivial|exact ⟨_,rfl,rfl⟩|exact ⟨rfl,trivial⟩|exact ⟨rfl,rfl,trivial⟩) ?_
    conv => whnf
    rw [decide_eq_false h3]
    repeat (conv => whnf); first|refine IndepAnd (by kernel_rfl) ?_|refine ⟨rfl,?_⟩|refine And.intro (by first|decide|exact trivial|exact ⟨_,rfl,rfl⟩|exact ⟨rfl,trivial⟩|exact ⟨rfl,rfl,trivial⟩) ?_
    conv => whnf
    rw [decide_eq_false h4]
    repeat (conv => whnf); first|refine IndepAnd (by kernel_rfl) ?_|refine ⟨rfl,?_⟩|refine And.intro (by first|decide|exact trivial|exact ⟨_,rfl,rfl⟩|exact ⟨rfl,trivial⟩|exact ⟨rfl,rfl,trivial⟩) ?_
    conv => whnf
    rw [decide_eq_false h5]
    repeat (conv => whnf); first|refine IndepAnd (by kernel_rfl) ?_|refine ⟨rfl,?_⟩|refine And.intro (by first|decide|exact trivial|exact ⟨_,rfl,rfl⟩|exact ⟨rfl,trivial⟩|exact ⟨rfl,rfl,trivial⟩) ?_
    conv => whnf
    rw [decide_eq_false h9]
    repeat (conv => whnf); first|refine IndepAnd (by kernel_rfl) ?_|refine ⟨rfl,?_⟩|refine And.intro (by first|decide|exact trivial|exact ⟨_,rfl,rfl⟩|exact ⟨rfl,trivial⟩|exact ⟨rfl,rfl,trivial⟩) ?_
    conv => whnf
    rw [decide_eq_false h10]
    repeat (conv => whnf); first|refine IndepAnd (by kernel_rfl) ?_|refine ⟨rfl,?_⟩|refine And.intro (by first|decide|exact trivial|exact ⟨_,rfl,rfl⟩|exact ⟨rfl,trivial⟩|exact ⟨rfl,rfl,trivial⟩) ?_
    conv => whnf
    rw [decide_eq_false h6]
    repeat (conv => whnf); first|refine IndepAnd (by kernel_rfl) ?_|refine ⟨rfl,?_⟩|refine And.intro (by first|decide|exact trivial|exact ⟨_,rfl,rfl⟩|exact ⟨rfl,trivial⟩|exact ⟨rfl,rfl,trivial⟩) ?_
    conv => whnf
    rw [decide_eq_false h7]
    repeat (conv => whnf); first|refine IndepAnd (by kernel_rfl) ?_|refine ⟨rfl,?_⟩|refine And.intro (by first|decide|exact trivial|exact ⟨_,rfl,rfl⟩|exact ⟨rfl,trivial⟩|exact ⟨rfl,rfl,trivial⟩) ?_
    conv => whnf
    rw [decide_eq_false h8]
    repeat (conv => whnf); first|refine IndepAnd (by kernel_rfl) ?_|refine ⟨rfl,?_⟩|refine And.intro (by first|decide|exact trivial|exact ⟨_,rfl,rfl⟩|exact ⟨rfl,trivial⟩|exact ⟨rfl,rfl,trivial⟩) ?_
    conv => whnf
    exact LEP.refl _
/-- The head of a term's shape. -/
def headT (t : Tm) : Bool := Tm.known t.kind && (Tm.named t.kind == !t.name.isEmpty) && (decide (Tm.arity t.kind < 0) || decide ((t.kids.length : Int) = Tm.arity t.kind))
theorem shp_head (t : Tm) : t.shp = (headT t && t.kids.all fun u => u.shp) := by
  rw [Bool.eq_iff_iff, shp_mk]
  unfold headT
  simp only [Bool.and_eq_true, Bool.or_eq_true, decide_eq_true_eq, List.all_eq_true, and_assoc]
set_option maxHeartbeats 1000000 in
theorem shape07_ok (b : Bool) : ∀ t, Fit t → K b 73 [tv t] (.pv (.bool t.shp)) := by
  intro t
  induction t using Tm.indk with
  | h t ih =>
  intro hf
  have hlen := hf.len
  have hsh := shp_head t
  obtain ⟨hd, ehd⟩ : ∃ hd, hd = headT t := ⟨_, rfl⟩
  rw [← ehd] at hsh
  unfold headT at ehd
  obtain ⟨k, n, l⟩ := t
  have ehd : hd = (Tm.known k && (Tm.named k == !n.isEmpty) && (decide (Tm.arity k < 0) || decide ((l.length : Int) = Tm.arity k))) := ehd
  have hsh : (Tm.mk k n l).shp = (hd && l.all fun u => u.shp) := hsh
  have hlen : l.length ≤ 9223372036854775807 := hlen
  have ih : ∀ u ∈ l, Fit u → K b 73 [tv u] (.pv (.bool u.shp)) := ih
  have kk := kids07_ok b k
  obtain ⟨ar, ear⟩ : ∃ ar, ar = (decide (Tm.arity k < 0) || decide ((l.length : Int) = Tm.arity k)) := ⟨_, rfl⟩
  rw [← ear] at ehd
  have cases11 : k = 1 ∨ k = 2 ∨ k = 3 ∨ k = 4 ∨ k = 5 ∨ k = 6 ∨ k = 7 ∨ k = 8 ∨ k = 9 ∨ k = 10 ∨ (k ≠ 1 ∧ k ≠ 2 ∧ k ≠ 3 ∧ k ≠ 4 ∧ k ≠ 5 ∧ k ≠ 6 ∧ k ≠ 7 ∧ k ≠ 8 ∧ k ≠ 9 ∧ k ≠ 10) := by omega
  rcases cases11 with rfl | rfl | rfl | rfl | rfl | rfl | rfl | rfl | rfl | rfl | ⟨h1, h2, h3, h4, h5, h6, h7, h8, h9, h10⟩
  · refine PC_of_vc (cx_ok b) (mixed b) {} Tryd.func73 (by kernel_rfl) rfl rfl (by kernel_rfl) ?_
    repeat (conv => whnf); first|refine IndepAnd (by kernel_rfl) ?_|refine ⟨rfl,?_⟩|refine And.intro (by first|decide|exact trivial|exact ⟨_,rfl,rfl⟩|exact ⟨rfl,trivial⟩|exact ⟨rfl,rfl,trivial⟩) ?_
    conv => whnf
    refine ⟨_, CallVC.pr kk rfl rfl, ?_⟩
    repeat (conv => whnf); first|refine IndepAnd (by kernel_rfl) ?_|refine ⟨rfl,?_⟩|refine And.intro (by first|decide|exact trivial|exact ⟨_,rfl,rfl⟩|exact ⟨rfl,trivial⟩|exact ⟨rfl,rfl,trivial⟩) ?_
    conv => whnf
    refine @bool_rec _ _ _ ?_ ?_ <;> intro h1
    · have e : hd = false := by
        have h1 := of_decide_eq_true h1
        rw [tmvs_length] at h1
        have : ar = false := by
          rw [ear]
          simp [kidsT, Tm.arity, Tm.kids] at h1 ⊢
          exact h1
        rw [ehd, this, Bool.and_false]
      rw [hsh, e]
      repeat (conv => whnf); first|refine IndepAnd (by kernel_rfl) ?_|refine ⟨rfl,?_⟩|refine And.intro (by first|decide|exact trivial|exact ⟨_,rfl,rfl⟩|exact ⟨rfl,trivial⟩|exact ⟨rfl,rfl,trivial⟩) ?_
      conv => whnf
      exact LEP.refl _
    · have h1 : ar = true := by
        have h1 := of_decide_eq_false h1
        rw [tmvs_length] at h1
        rw [ear]
        simp [kidsT, Tm.arity, Tm.kids] at h1 ⊢
        exact h1
      rw [h1, Bool.and_true] at ehd
      repeat (conv => whnf); first|refine IndepAnd (by kernel_rfl) ?_|refine ⟨rfl,?_⟩|refine And.intro (by first|decide|exact trivial|exact ⟨_,rfl,rfl⟩|exact ⟨rfl,trivial⟩|exact ⟨rfl,rfl,trivial⟩) ?_
      conv => whnf
      refine @bool_rec _ _ _ ?_ ?_ <;> intro h2
      · have e : hd = false := by
          rw [ehd]
          revert h2
          cases n <;> simp [Tm.known, Tm.named, Tm.name, Tm.kind]
        rw [hsh, e]
        repeat (conv => whnf); first|refine IndepAnd (by kernel_rfl) ?_|refine ⟨rfl,?_⟩|refine And.intro (by first|decide|exact trivial|exact ⟨_,rfl,rfl⟩|exact ⟨rfl,trivial⟩|exact ⟨rfl,rfl,trivial⟩) ?_
        conv => whnf
        exact LEP.refl _
      · have e : hd = true := by
          rw [ehd]
          revert h2
          cases n <;> simp [Tm.known, Tm.named, Tm.name, Tm.kind]
        rw [hsh, e, Bool.true_and]
        repeat (conv => whnf); first|refine IndepAnd (by kernel_rfl) ?_|refine ⟨rfl,?_⟩|refine And.intro (by first|decide|exact trivial|exact ⟨_,rfl,rfl⟩|exact ⟨rfl,trivial⟩|exact ⟨rfl,rfl,trivial⟩) ?_
        conv => whnf
        refine ⟨{ i : Nat // i ≤ l.length ∧ ∀ u ∈ l.take i, u.shp = true }, fun i => S.of [(1, .ptr 1 0), (2, .p (.bool false)), (5, iv (i.1 : Int))] [(1, .var true 24 (tv (.mk 1 n l)))], fun i => l.length - i.1, ⟨0, Nat.zero_le _, by simp⟩, ?_, ?_⟩
        · refine Ge.of rfl ?_ ?_
          · repeat (conv => whnf); refine ⟨LE.of rfl, ?_⟩
            trivial
          · repeat (conv => whnf); refine ⟨OLE.of rfl, ?_⟩
            trivial
        rintro ⟨i, hi, hq⟩
        repeat (conv => whnf); first|refine IndepAnd (by kernel_rfl) ?_|refine ⟨rfl,?_⟩|refine And.intro (by first|decide|exact trivial|exact ⟨_,rfl,rfl⟩|exact ⟨rfl,trivial⟩|exact ⟨rfl,rfl,trivial⟩) ?_
        conv => whnf
        refine @bool_rec _ _ _ ?_ ?_ <;> intro h4
        · have hlt : i < l.length := by have := of_decide_eq_true h4; rw [tmvs_length] at this; exact Int.ofNat_lt.1 this
          have hm := List.getElem_mem hlt
          have hii := ih l[i] hm (hf.kid hm)
          repeat (conv => whnf); first|refine IndepAnd (by kernel_rfl) ?_|refine ⟨rfl,?_⟩|refine And.intro (by first|decide|exact trivial|exact ⟨_,rfl,rfl⟩|exact ⟨rfl,trivial⟩|exact ⟨rfl,rfl,trivial⟩) ?_
          conv => whnf
          refine ⟨Int.natCast_nonneg _, TV l[i], tmvs_getN hlt, rfl, rfl, ?_⟩
          repeat (conv => whnf); first|refine IndepAnd (by kernel_rfl) ?_|refine ⟨rfl,?_⟩|refine And.intro (by first|decide|exact trivial|exact ⟨_,rfl,rfl⟩|exact ⟨rfl,trivial⟩|exact ⟨rfl,rfl,trivial⟩) ?_
          conv => whnf
          cases hs : l[i].shp with
          | false =>
            rw [hs] at hii
            refine ⟨_, CallVC.pr hii rfl rfl, ?_⟩
            repeat (conv => whnf); first|refine IndepAnd (by kernel_rfl) ?_|refine ⟨rfl,?_⟩|refine And.intro (by first|decide|exact trivial|exact ⟨_,rfl,rfl⟩|exact ⟨rfl,trivial⟩|exact ⟨rfl,rfl,trivial⟩) ?_
            conv => whnf
            refine LEP.of (congrArg PV.bool ?_)
            symm
            rw [← Bool.not_eq_true, List.all_eq_true]
            intro hc
            rw [hc _ hm] at hs
            cases hs
          | true =>
            rw [hs] at hii
            refine ⟨_, CallVC.pr hii rfl rfl, ?_⟩
            repeat (conv => whnf); first|refine IndepAnd (by kernel_rfl) ?_|refine ⟨rfl,?_⟩|refine And.intro (by first|decide|exact trivial|exact ⟨_,rfl,rfl⟩|exact ⟨rfl,trivial⟩|exact ⟨rfl,rfl,trivial⟩) ?_
            conv => whnf
            refine ⟨_, wrapN (n := i + 1) rfl (by omega), ?_⟩
            repeat (conv => whnf); first|refine IndepAnd (by kernel_rfl) ?_|refine ⟨rfl,?_⟩|refine And.intro (by first|decide|exact trivial|exact ⟨_,rfl,rfl⟩|exact ⟨rfl,trivial⟩|exact ⟨rfl,rfl,trivial⟩) ?_
            conv => whnf
            refine ⟨⟨i + 1, hlt, ?_⟩, ?_, by show l.length - (i + 1) < l.length - i; omega⟩
            · rw [List.take_succ_eq_append_getElem hlt]
              intro u hu
              rcases List.mem_append.1 hu with hu | hu
              · exact hq u hu
              · rw [List.mem_singleton.1 hu]; exact hs
            · refine Ge.of rfl ?_ ?_
              · repeat (conv => whnf); refine ⟨LE.of rfl, ?_⟩
                trivial
              · repeat (conv => whnf); refine ⟨OLE.of rfl, ?_⟩
                trivial
        · have hge : l.take i = l := List.take_of_length_le (by have := of_decide_eq_false h4; rw [tmvs_length] at this; have h5 : ¬ ((i : Int) < l.length) := this; omega)
          have hall : (l.all fun u => u.shp) = true := List.all_eq_true.2 fun u hu => hq u (by show u ∈ l.take i; rw [hge]; exact hu)
          rw [hall]
          repeat (conv => whnf); first|refine IndepAnd (by kernel_rfl) ?_|refine ⟨rfl,?_⟩|refine And.intro (by first|decide|exact trivial|exact ⟨_,rfl,rfl⟩|exact ⟨rfl,trivial⟩|exact ⟨rfl,rfl,trivial⟩) ?_
          conv => whnf
          exact LEP.refl _
  · refine PC_of_vc (cx_ok b) (mixed b) {} Tryd.func73 (by kernel_rfl) rfl rfl (by kernel_rfl) ?_
    repeat (conv => whnf); first|refine IndepAnd (by kernel_rfl) ?_|refine ⟨rfl,?_⟩|refine And.intro (by first|decide|exact trivial|exact ⟨_,rfl,rfl⟩|exact ⟨rfl,trivial⟩|exact ⟨rfl,rfl,trivial⟩) ?_
    conv => whnf
    refine ⟨_, CallVC.pr kk rfl rfl, ?_⟩
    repeat (conv => whnf); first|refine IndepAnd (by kernel_rfl) ?_|refine ⟨rfl,?_⟩|refine And.intro (by first|decide|exact trivial|exact ⟨_,rfl,rfl⟩|exact ⟨rfl,trivial⟩|exact ⟨rfl,rfl,trivial⟩) ?_
    conv => whnf
    refine @bool_rec _ _ _ ?_ ?_ <;> intro h1
    · have e : hd = false := by
        have h1 := of_decide_eq_true h1
        rw [tmvs_length] at h1
        have : ar = false := by
          rw [ear]
          simp [kidsT, Tm.arity, Tm.kids] at h1 ⊢
          exact h1
        rw [ehd, this, Bool.and_false]
      rw [hsh, e]
      repeat (conv => whnf); first|refine IndepAnd (by kernel_rfl) ?_|refine ⟨rfl,?_⟩|refine And.intro (by first|decide|exact trivial|exact ⟨_,rfl,rfl⟩|exact ⟨rfl,trivial⟩|exact ⟨rfl,rfl,trivial⟩) ?_
      conv => whnf
      exact LEP.refl _
    · have h1 : ar = true := by
        have h1 := of_decide_eq_false h1
        rw [tmvs_length] at h1
        rw [ear]
        simp [kidsT, Tm.arity, Tm.kids] at h1 ⊢
        exact h1
      rw [h1, Bool.and_true] at ehd
      repeat (conv => whnf); first|refine IndepAnd (by kernel_rfl) ?_|refine ⟨rfl,?_⟩|refine And.intro (by first|decide|exact trivial|exact ⟨_,rfl,rfl⟩|exact ⟨rfl,trivial⟩|exact ⟨rfl,rfl,trivial⟩) ?_
      conv => whnf
      refine @bool_rec _ _ _ ?_ ?_ <;> intro h2
      · have e : hd = false := by
          rw [ehd]
          revert h2
          cases n <;> simp [Tm.known, Tm.named, Tm.name, Tm.kind]
        rw [hsh, e]
        repeat (conv => whnf); first|refine IndepAnd (by kernel_rfl) ?_|refine ⟨rfl,?_⟩|refine And.intro (by first|decide|exact trivial|exact ⟨_,rfl,rfl⟩|exact ⟨rfl,trivial⟩|exact ⟨rfl,rfl,trivial⟩) ?_
        conv => whnf
        exact LEP.refl _
      · have e : hd = true := by
          rw [ehd]
          revert h2
          cases n <;> simp [Tm.known, Tm.named, Tm.name, Tm.kind]
        rw [hsh, e, Bool.true_and]
        repeat (conv => whnf); first|refine IndepAnd (by kernel_rfl) ?_|refine ⟨rfl,?_⟩|refine And.intro (by first|decide|exact trivial|exact ⟨_,rfl,rfl⟩|exact ⟨rfl,trivial⟩|exact ⟨rfl,rfl,trivial⟩) ?_
        conv => whnf
        refine ⟨{ i : Nat // i ≤ l.length ∧ ∀ u ∈ l.take i, u.shp = true }, fun i => S.of [(1, .ptr 1 0), (2, .p (.bool false)), (5, iv (i.1 : Int))] [(1, .var true 24 (tv (.mk 2 n l)))], fun i => l.length - i.1, ⟨0, Nat.zero_le _, by simp⟩, ?_, ?_⟩
        · refine Ge.of rfl ?_ ?_
          · repeat (conv => whnf); refine ⟨LE.of rfl, ?_⟩
            trivial
          · repeat (conv => whnf); refine ⟨OLE.of rfl, ?_⟩
            trivial
        rintro ⟨i, hi, hq⟩
        repeat (conv => whnf); first|refine IndepAnd (by kernel_rfl) ?_|refine ⟨rfl,?_⟩|refine And.intro (by first|decide|exact trivial|exact ⟨_,rfl,rfl⟩|exact ⟨rfl,trivial⟩|exact ⟨rfl,rfl,trivial⟩) ?_
        conv => whnf
        refine @bool_rec _ _ _ ?_ ?_ <;> intro h4
        · have hlt : i < l.length := by have := of_decide_eq_true h4; rw [tmvs_length] at this; exact Int.ofNat_lt.1 this
          have hm := List.getElem_mem hlt
          have hii := ih l[i] hm (hf.kid hm)
          repeat (conv => whnf); first|refine IndepAnd (by kernel_rfl) ?_|refine ⟨rfl,?_⟩|refine And.intro (by first|decide|exact trivial|exact ⟨_,rfl,rfl⟩|exact ⟨rfl,trivial⟩|exact ⟨rfl,rfl,trivial⟩) ?_
          conv => whnf
          refine ⟨Int.natCast_nonneg _, TV l[i], tmvs_getN hlt, rfl, rfl, ?_⟩
          repeat (conv => whnf); first|refine IndepAnd (by kernel_rfl) ?_|refine ⟨rfl,?_⟩|refine And.intro (by first|decide|exact trivial|exact ⟨_,rfl,rfl⟩|exact ⟨rfl,trivial⟩|exact ⟨rfl,rfl,trivial⟩) ?_
          conv => whnf
          cases hs : l[i].shp with
          | false =>
            rw [hs] at hii
            refine ⟨_, CallVC.pr hii rfl rfl, ?_⟩
            repeat (conv => whnf); first|refine IndepAnd (by kernel_rfl) ?_|refine ⟨rfl,?_⟩|refine And.intro (by first|decide|exact trivial|exact ⟨_,rfl,rfl⟩|exact ⟨rfl,trivial⟩|exact ⟨rfl,rfl,trivial⟩) ?_
            conv => whnf
            refine LEP.of (congrArg PV.bool ?_)
            symm
            rw [← Bool.not_eq_true, List.all_eq_true]
            intro hc
            rw [hc _ hm] at hs
            cases hs
          | true =>
            rw [hs] at hii
            refine ⟨_, CallVC.pr hii rfl rfl, ?_⟩
            repeat (conv => whnf); first|refine IndepAnd (by kernel_rfl) ?_|refine ⟨rfl,?_⟩|refine And.intro (by first|decide|exact trivial|exact ⟨_,rfl,rfl⟩|exact ⟨rfl,trivial⟩|exact ⟨rfl,rfl,trivial⟩) ?_
            conv => whnf
            refine ⟨_, wrapN (n := i + 1) rfl (by omega), ?_⟩
            repeat (conv => whnf); first|refine IndepAnd (by kernel_rfl) ?_|refine ⟨rfl,?_⟩|refine And.intro (by first|decide|exact trivial|exact ⟨_,rfl,rfl⟩|exact ⟨rfl,trivial⟩|exact ⟨rfl,rfl,trivial⟩) ?_
            conv => whnf
            refine ⟨⟨i + 1, hlt, ?_⟩, ?_, by show l.length - (i + 1) < l.length - i; omega⟩
            · rw [List.take_succ_eq_append_getElem hlt]
              intro u hu
              rcases List.mem_append.1 hu with hu | hu
              · exact hq u hu
              · rw [List.mem_singleton.1 hu]; exact hs
            · refine Ge.of rfl ?_ ?_
              · repeat (conv => whnf); refine ⟨LE.of rfl, ?_⟩
                trivial
              · repeat (conv => whnf); refine ⟨OLE.of rfl, ?_⟩
                trivial
        · have hge : l.take i = l := List.take_of_length_le (by have := of_decide_eq_false h4; rw [tmvs_length] at this; have h5 : ¬ ((i : Int) < l.length) := this; omega)
          have hall : (l.all fun u => u.shp) = true := List.all_eq_true.2 fun u hu => hq u (by show u ∈ l.take i; rw [hge]; exact hu)
          rw [hall]
          repeat (conv => whnf); first|refine IndepAnd (by kernel_rfl) ?_|refine ⟨rfl,?_⟩|refine And.intro (by first|decide|exact trivial|exact ⟨_,rfl,rfl⟩|exact ⟨rfl,trivial⟩|exact ⟨rfl,rfl,trivial⟩) ?_
          conv => whnf
          exact LEP.refl _
  · refine PC_of_vc (cx_ok b) (mixed b) {} Tryd.func73 (by kernel_rfl) rfl rfl (by kernel_rfl) ?_
    repeat (conv => whnf); first|refine IndepAnd (by kernel_rfl) ?_|refine ⟨rfl,?_⟩|refine And.intro (by first|decide|exact trivial|exact ⟨_,rfl,rfl⟩|exact ⟨rfl,trivial⟩|exact ⟨rfl,rfl,trivial⟩) ?_
    conv => whnf
    refine ⟨_, CallVC.pr kk rfl rfl, ?_⟩
    repeat (conv => whnf); first|refine IndepAnd (by kernel_rfl) ?_|refine ⟨rfl,?_⟩|refine And.intro (by first|decide|exact trivial|exact ⟨_,rfl,rfl⟩|exact ⟨rfl,trivial⟩|exact ⟨rfl,rfl,trivial⟩) ?_
    conv => whnf
    have h1 : ar = true := by rw [ear]; rfl
    rw [h1, Bool.and_true] at ehd
    refine @bool_rec _ _ _ ?_ ?_ <;> intro h2
    · have e : hd = false := by
        rw [ehd]
        revert h2
        cases n <;> simp [Tm.known, Tm.named, Tm.name, Tm.kind]
      rw [hsh, e]
      repeat (conv => whnf); first|refine IndepAnd (by kernel_rfl) ?_|refine ⟨rfl,?_⟩|refine And.intro (by first|decide|exact trivial|exact ⟨_,rfl,rfl⟩|exact ⟨rfl,trivial⟩|exact ⟨rfl,rfl,trivial⟩) ?_
      conv => whnf
      exact LEP.refl _
    · have e : hd = true := by
        rw [ehd]
        revert h2
        cases n <;> simp [Tm.known, Tm.named, Tm.name, Tm.kind]
      rw [hsh, e, Bool.true_and]
      repeat (conv => whnf); first|refine IndepAnd (by kernel_rfl) ?_|refine ⟨rfl,?_⟩|refine And.intro (by first|decide|exact trivial|exact ⟨_,rfl,rfl⟩|exact ⟨rfl,trivial⟩|exact ⟨rfl,rfl,trivial⟩) ?_
      conv => whnf
      refine ⟨{ i : Nat // i ≤ l.length ∧ ∀ u ∈ l.take i, u.shp = true }, fun i => S.of [(1, .ptr 1 0), (2, .p (.bool false)), (5, iv (i.1 : Int))] [(1, .var true 24 (tv (.mk 3 n l)))], fun i => l.length - i.1, ⟨0, Nat.zero_le _, by simp⟩, ?_, ?_⟩
      · refine Ge.of rfl ?_ ?_
        · repeat (conv => whnf); refine ⟨LE.of rfl, ?_⟩
          trivial
        · repeat (conv => whnf); refine ⟨OLE.of rfl, ?_⟩
          trivial
      rintro ⟨i, hi, hq⟩
      repeat (conv => whnf); first|refine IndepAnd (by kernel_rfl) ?_|refine ⟨rfl,?_⟩|refine And.intro (by first|decide|exact trivial|exact ⟨_,rfl,rfl⟩|exact ⟨rfl,trivial⟩|exact ⟨rfl,rfl,trivial⟩) ?_
      conv => whnf
      refine @bool_rec _ _ _ ?_ ?_ <;> intro h4
      · have hlt : i < l.length := by have := of_decide_eq_true h4; rw [tmvs_length] at this; exact Int.ofNat_lt.1 this
        have hm := List.getElem_mem hlt
        have hii := ih l[i] hm (hf.kid hm)
        repeat (conv => whnf); first|refine IndepAnd (by kernel_rfl) ?_|refine ⟨rfl,?_⟩|refine And.intro (by first|decide|exact trivial|exact ⟨_,rfl,rfl⟩|exact ⟨rfl,trivial⟩|exact ⟨rfl,rfl,trivial⟩) ?_
        conv => whnf
        refine ⟨Int.natCast_nonneg _, TV l[i], tmvs_getN hlt, rfl, rfl, ?_⟩
        repeat (conv => whnf); first|refine IndepAnd (by kernel_rfl) ?_|refine ⟨rfl,?_⟩|refine And.intro (by first|decide|exact trivial|exact ⟨_,rfl,rfl⟩|exact ⟨rfl,trivial⟩|exact ⟨rfl,rfl,trivial⟩) ?_
        conv => whnf
        cases hs : l[i].shp with
        | false =>
          rw [hs] at hii
          refine ⟨_, CallVC.pr hii rfl rfl, ?_⟩
          repeat (conv => whnf); first|refine IndepAnd (by kernel_rfl) ?_|refine ⟨rfl,?_⟩|refine And.intro (by first|decide|exact trivial|exact ⟨_,rfl,rfl⟩|exact ⟨rfl,trivial⟩|exact ⟨rfl,rfl,trivial⟩) ?_
          conv => whnf
          refine LEP.of (congrArg PV.bool ?_)
          symm
          rw [← Bool.not_eq_true, List.all_eq_true]
          intro hc
          rw [hc _ hm] at hs
          cases hs
        | true =>
          rw [hs] at hii
          refine ⟨_, CallVC.pr hii rfl rfl, ?_⟩
          repeat (conv => whnf); first|refine IndepAnd (by kernel_rfl) ?_|refine ⟨rfl,?_⟩|refine And.intro (by first|decide|exact trivial|exact ⟨_,rfl,rfl⟩|exact ⟨rfl,trivial⟩|exact ⟨rfl,rfl,trivial⟩) ?_
          conv => whnf
          refine ⟨_, wrapN (n := i + 1) rfl (by omega), ?_⟩
          repeat (conv => whnf); first|refine IndepAnd (by kernel_rfl) ?_|refine ⟨rfl,?_⟩|refine And.intro (by first|decide|exact trivial|exact ⟨_,rfl,rfl⟩|exact ⟨rfl,trivial⟩|exact ⟨rfl,rfl,trivial⟩) ?_
          conv => whnf
          refine ⟨⟨i + 1, hlt, ?_⟩, ?_, by show l.length - (i + 1) < l.length - i; omega⟩
          · rw [List.take_succ_eq_append_getElem hlt]
            intro u hu
            rcases List.mem_append.1 hu with hu | hu
            · exact hq u hu
            · rw [List.mem_singleton.1 hu]; exact hs
          · refine Ge.of rfl ?_ ?_
            · repeat (conv => whnf); refine ⟨LE.of rfl, ?_⟩
              trivial
            · repeat (conv => whnf); refine ⟨OLE.of rfl, ?_⟩
              trivial
      · have hge : l.take i = l := List.take_of_length_le (by have := of_decide_eq_false h4; rw [tmvs_length] at this; have h5 : ¬ ((i : Int) < l.length) := this; omega)
        have hall : (l.all fun u => u.shp) = true := List.all_eq_true.2 fun u hu => hq u (by show u ∈ l.take i; rw [hge]; exact hu)
        rw [hall]
        repeat (conv => whnf); first|refine IndepAnd (by kernel_rfl) ?_|refine ⟨rfl,?_⟩|refine And.intro (by first|decide|exact trivial|exact ⟨_,rfl,rfl⟩|exact ⟨rfl,trivial⟩|exact ⟨rfl,rfl,trivial⟩) ?_
        conv => whnf
        exact LEP.refl _
  · refine PC_of_vc (cx_ok b) (mixed b) {} Tryd.func73 (by kernel_rfl) rfl rfl (by kernel_rfl) ?_
    repeat (conv => whnf); first|refine IndepAnd (by kernel_rfl) ?_|refine ⟨rfl,?_⟩|refine And.intro (by first|decide|exact trivial|exact ⟨_,rfl,rfl⟩|exact ⟨rfl,trivial⟩|exact ⟨rfl,rfl,trivial⟩) ?_
    conv => whnf
    refine ⟨_, CallVC.pr kk rfl rfl, ?_⟩
    repeat (conv => whnf); first|refine IndepAnd (by kernel_rfl) ?_|refine ⟨rfl,?_⟩|refine And.intro (by first|decide|exact trivial|exact ⟨_,rfl,rfl⟩|exact ⟨rfl,trivial⟩|exact ⟨rfl,rfl,trivial⟩) ?_
    conv => whnf
    refine @bool_rec _ _ _ ?_ ?_ <;> intro h1
    · have e : hd = false := by
        have h1 := of_decide_eq_true h1
        rw [tmvs_length] at h1
        have : ar = false := by
          rw [ear]
          simp [kidsT, Tm.arity, Tm.kids] at h1 ⊢
          exact h1
        rw [ehd, this, Bool.and_false]
      rw [hsh, e]
      repeat (conv => whnf); first|refine IndepAnd (by kernel_rfl) ?_|refine ⟨rfl,?_⟩|refine And.intro (by first|decide|exact trivial|exact ⟨_,rfl,rfl⟩|exact ⟨rfl,trivial⟩|exact ⟨rfl,rfl,trivial⟩) ?_
      conv => whnf
      exact LEP.refl _
    · have h1 : ar = true := by
        have h1 := of_decide_eq_false h1
        rw [tmvs_length] at h1
        rw [ear]
        simp [kidsT, Tm.arity, Tm.kids] at h1 ⊢
        exact h1
      rw [h1, Bool.and_true] at ehd
      repeat (conv => whnf); first|refine IndepAnd (by kernel_rfl) ?_|refine ⟨rfl,?_⟩|refine And.intro (by first|decide|exact trivial|exact ⟨_,rfl,rfl⟩|exact ⟨rfl,trivial⟩|exact ⟨rfl,rfl,trivial⟩) ?_
      conv => whnf
      refine @bool_rec _ _ _ ?_ ?_ <;> intro h2
      · have e : hd = false := by
          rw [ehd]
          revert h2
          cases n <;> simp [Tm.known, Tm.named, Tm.name, Tm.kind]
        rw [hsh, e]
        repeat (conv => whnf); first|refine IndepAnd (by kernel_rfl) ?_|refine ⟨rfl,?_⟩|refine And.intro (by first|decide|exact trivial|exact ⟨_,rfl,rfl⟩|exact ⟨rfl,trivial⟩|exact ⟨rfl,rfl,trivial⟩) ?_
        conv => whnf
        exact LEP.refl _
      · have e : hd = true := by
          rw [ehd]
          revert h2
          cases n <;> simp [Tm.known, Tm.named, Tm.name, Tm.kind]
        rw [hsh, e, Bool.true_and]
        repeat (conv => whnf); first|refine IndepAnd (by kernel_rfl) ?_|refine ⟨rfl,?_⟩|refine And.intro (by first|decide|exact trivial|exact ⟨_,rfl,rfl⟩|exact ⟨rfl,trivial⟩|exact ⟨rfl,rfl,trivial⟩) ?_
        conv => whnf
        refine ⟨{ i : Nat // i ≤ l.length ∧ ∀ u ∈ l.take i, u.shp = true }, fun i => S.of [(1, .ptr 1 0), (2, .p (.bool false)), (5, iv (i.1 : Int))] [(1, .var true 24 (tv (.mk 4 n l)))], fun i => l.length - i.1, ⟨0, Nat.zero_le _, by simp⟩, ?_, ?_⟩
        · refine Ge.of rfl ?_ ?_
          · repeat (conv => whnf); refine ⟨LE.of rfl, ?_⟩
            trivial
          · repeat (conv => whnf); refine ⟨OLE.of rfl, ?_⟩
            trivial
        rintro ⟨i, hi, hq⟩
        repeat (conv => whnf); first|refine IndepAnd (by kernel_rfl) ?_|refine ⟨rfl,?_⟩|refine And.intro (by first|decide|exact trivial|exact ⟨_,rfl,rfl⟩|exact ⟨rfl,trivial⟩|exact ⟨rfl,rfl,trivial⟩) ?_
        conv => whnf
        refine @bool_rec _ _ _ ?_ ?_ <;> intro h4
        · have hlt : i < l.length := by have := of_decide_eq_true h4; rw [tmvs_length] at this; exact Int.ofNat_lt.1 this
          have hm := List.getElem_mem hlt
          have hii := ih l[i] hm (hf.kid hm)
          repeat (conv => whnf); first|refine IndepAnd (by kernel_rfl) ?_|refine ⟨rfl,?_⟩|refine And.intro (by first|decide|exact trivial|exact ⟨_,rfl,rfl⟩|exact ⟨rfl,trivial⟩|exact ⟨rfl,rfl,trivial⟩) ?_
          conv => whnf
          refine ⟨Int.natCast_nonneg _, TV l[i], tmvs_getN hlt, rfl, rfl, ?_⟩
          repeat (conv => whnf); first|refine IndepAnd (by kernel_rfl) ?_|refine ⟨rfl,?_⟩|refine And.intro (by first|decide|exact trivial|exact ⟨_,rfl,rfl⟩|exact ⟨rfl,trivial⟩|exact ⟨rfl,rfl,trivial⟩) ?_
          conv => whnf
          cases hs : l[i].shp with
          | false =>
            rw [hs] at hii
            refine ⟨_, CallVC.pr hii rfl rfl, ?_⟩
            repeat (conv => whnf); first|refine IndepAnd (by kernel_rfl) ?_|refine ⟨rfl,?_⟩|refine And.intro (by first|decide|exact trivial|exact ⟨_,rfl,rfl⟩|exact ⟨rfl,trivial⟩|exact ⟨rfl,rfl,trivial⟩) ?_
            conv => whnf
            refine LEP.of (congrArg PV.bool ?_)
            symm
            rw [← Bool.not_eq_true, List.all_eq_true]
            intro hc
            rw [hc _ hm] at hs
            cases hs
          | true =>
            rw [hs] at hii
            refine ⟨_, CallVC.pr hii rfl rfl, ?_⟩
            repeat (conv => whnf); first|refine IndepAnd (by kernel_rfl) ?_|refine ⟨rfl,?_⟩|refine And.intro (by first|decide|exact trivial|exact ⟨_,rfl,rfl⟩|exact ⟨rfl,trivial⟩|exact ⟨rfl,rfl,trivial⟩) ?_
            conv => whnf
            refine ⟨_, wrapN (n := i + 1) rfl (by omega), ?_⟩
            repeat (conv => whnf); first|refine IndepAnd (by kernel_rfl) ?_|refine ⟨rfl,?_⟩|refine And.intro (by first|decide|exact trivial|exact ⟨_,rfl,rfl⟩|exact ⟨rfl,trivial⟩|exact ⟨rfl,rfl,trivial⟩) ?_
            conv => whnf
            refine ⟨⟨i + 1, hlt, ?_⟩, ?_, by show l.length - (i + 1) < l.length - i; omega⟩
            · rw [List.take_succ_eq_append_getElem hlt]
              intro u hu
              rcases List.mem_append.1 hu with hu | hu
              · exact hq u hu
              · rw [List.mem_singleton.1 hu]; exact hs
            · refine Ge.of rfl ?_ ?_
              · repeat (conv => whnf); refine ⟨LE.of rfl, ?_⟩
                trivial
              · repeat (conv => whnf); refine ⟨OLE.of rfl, ?_⟩
                trivial
        · have hge : l.take i = l := List.take_of_length_le (by have := of_decide_eq_false h4; rw [tmvs_length] at this; have h5 : ¬ ((i : Int) < l.length) := this; omega)
          have hall : (l.all fun u => u.shp) = true := List.all_eq_true.2 fun u hu => hq u (by show u ∈ l.take i; rw [hge]; exact hu)
          rw [hall]
          repeat (conv => whnf); first|refine IndepAnd (by kernel_rfl) ?_|refine ⟨rfl,?_⟩|refine And.intro (by first|decide|exact trivial|exact ⟨_,rfl,rfl⟩|exact ⟨rfl,trivial⟩|exact ⟨rfl,rfl,trivial⟩) ?_
          conv => whnf
          exact LEP.refl _
  · refine PC_of_vc (cx_ok b) (mixed b) {} Tryd.func73 (by kernel_rfl) rfl rfl (by kernel_rfl) ?_
    repeat (conv => whnf); first|refine IndepAnd (by kernel_rfl) ?_|refine ⟨rfl,?_⟩|refine And.intro (by first|decide|exact trivial|exact ⟨_,rfl,rfl⟩|exact ⟨rfl,trivial⟩|exact ⟨rfl,rfl,trivial⟩) ?_
    conv => whnf
    refine ⟨_, CallVC.pr kk rfl rfl, ?_⟩
    repeat (conv => whnf); first|refine IndepAnd (by kernel_rfl) ?_|refine ⟨rfl,?_⟩|refine And.intro (by first|decide|exact trivial|exact ⟨_,rfl,rfl⟩|exact ⟨rfl,trivial⟩|exact ⟨rfl,rfl,trivial⟩) ?_
    conv => whnf
    refine @bool_rec _ _ _ ?_ ?_ <;> intro h1
    · have e : hd = false := by
        have h1 := of_decide_eq_true h1
        rw [tmvs_length] at h1
        have : ar = false := by
          rw [ear]
          simp [kidsT, Tm.arity, Tm.kids] at h1 ⊢
          exact h1
        rw [ehd, this, Bool.and_false]
      rw [hsh, e]
      repeat (conv => whnf); first|refine IndepAnd (by kernel_rfl) ?_|refine ⟨rfl,?_⟩|refine And.intro (by first|decide|exact trivial|exact ⟨_,rfl,rfl⟩|exact ⟨rfl,trivial⟩|exact ⟨rfl,rfl,trivial⟩) ?_
      conv => whnf
      exact LEP.refl _
    · have h1 : ar = true := by
        have h1 := of_decide_eq_false h1
        rw [tmvs_length] at h1
        rw [ear]
        simp [kidsT, Tm.arity, Tm.kids] at h1 ⊢
        exact h1
      rw [h1, Bool.and_true] at ehd
      repeat (conv => whnf); first|refine IndepAnd (by kernel_rfl) ?_|refine ⟨rfl,?_⟩|refine And.intro (by first|decide|exact trivial|exact ⟨_,rfl,rfl⟩|exact ⟨rfl,trivial⟩|exact ⟨rfl,rfl,trivial⟩) ?_
      conv => whnf
      refine @bool_rec _ _ _ ?_ ?_ <;> intro h2
      · have e : hd = false := by
          rw [ehd]
          revert h2
          cases n <;> simp [Tm.known, Tm.named, Tm.name, Tm.kind]
        rw [hsh, e]
        repeat (conv => whnf); first|refine IndepAnd (by kernel_rfl) ?_|refine ⟨rfl,?_⟩|refine And.intro (by first|decide|exact trivial|exact ⟨_,rfl,rfl⟩|exact ⟨rfl,trivial⟩|exact ⟨rfl,rfl,trivial⟩) ?_
        conv => whnf
        exact LEP.refl _
      · have e : hd = true := by
          rw [ehd]
          revert h2
          cases n <;> simp [Tm.known, Tm.named, Tm.name, Tm.kind]
        rw [hsh, e, Bool.true_and]
        repeat (conv => whnf); first|refine IndepAnd (by kernel_rfl) ?_|refine ⟨rfl,?_⟩|refine And.intro (by first|decide|exact trivial|exact ⟨_,rfl,rfl⟩|exact ⟨rfl,trivial⟩|exact ⟨rfl,rfl,trivial⟩) ?_
        conv => whnf
        refine ⟨{ i : Nat // i ≤ l.length ∧ ∀ u ∈ l.take i, u.shp = true }, fun i => S.of [(1, .ptr 1 0), (2, .p (.bool false)), (5, iv (i.1 : Int))] [(1, .var true 24 (tv (.mk 5 n l)))], fun i => l.length - i.1, ⟨0, Nat.zero_le _, by simp⟩, ?_, ?_⟩
        · refine Ge.of rfl ?_ ?_
          · repeat (conv => whnf); refine ⟨LE.of rfl, ?_⟩
            trivial
          · repeat (conv => whnf); refine ⟨OLE.of rfl, ?_⟩
            trivial
        rintro ⟨i, hi, hq⟩
        repeat (conv => whnf); first|refine IndepAnd (by kernel_rfl) ?_|refine ⟨rfl,?_⟩|refine And.intro (by first|decide|exact trivial|exact ⟨_,rfl,rfl⟩|exact ⟨rfl,trivial⟩|exact ⟨rfl,rfl,trivial⟩) ?_
        conv => whnf
        refine @bool_rec _ _ _ ?_ ?_ <;> intro h4
        · have hlt : i < l.length := by have := of_decide_eq_true h4; rw [tmvs_length] at this; exact Int.ofNat_lt.1 this
          have hm := List.getElem_mem hlt
          have hii := ih l[i] hm (hf.kid hm)
          repeat (conv => whnf); first|refine IndepAnd (by kernel_rfl) ?_|refine ⟨rfl,?_⟩|refine And.intro (by first|decide|exact trivial|exact ⟨_,rfl,rfl⟩|exact ⟨rfl,trivial⟩|exact ⟨rfl,rfl,trivial⟩) ?_
          conv => whnf
          refine ⟨Int.natCast_nonneg _, TV l[i], tmvs_getN hlt, rfl, rfl, ?_⟩
          repeat (conv => whnf); first|refine IndepAnd (by kernel_rfl) ?_|refine ⟨rfl,?_⟩|refine And.intro (by first|decide|exact trivial|exact ⟨_,rfl,rfl⟩|exact ⟨rfl,trivial⟩|exact ⟨rfl,rfl,trivial⟩) ?_
          conv => whnf
          cases hs : l[i].shp with
          | false =>
            rw [hs] at hii
            refine ⟨_, CallVC.pr hii rfl rfl, ?_⟩
            repeat (conv => whnf); first|refine IndepAnd (by kernel_rfl) ?_|refine ⟨rfl,?_⟩|refine And.intro (by first|decide|exact trivial|exact ⟨_,rfl,rfl⟩|exact ⟨rfl,trivial⟩|exact ⟨rfl,rfl,trivial⟩) ?_
            conv => whnf
            refine LEP.of (congrArg PV.bool ?_)
            symm
            rw [← Bool.not_eq_true, List.all_eq_true]
            intro hc
            rw [hc _ hm] at hs
            cases hs
          | true =>
            rw [hs] at hii
            refine ⟨_, CallVC.pr hii rfl rfl, ?_⟩
            repeat (conv => whnf); first|refine IndepAnd (by kernel_rfl) ?_|refine ⟨rfl,?_⟩|refine And.intro (by first|decide|exact trivial|exact ⟨_,rfl,rfl⟩|exact ⟨rfl,trivial⟩|exact ⟨rfl,rfl,trivial⟩) ?_
            conv => whnf
            refine ⟨_, wrapN (n := i + 1) rfl (by omega), ?_⟩
            repeat (conv => whnf); first|refine IndepAnd (by kernel_rfl) ?_|refine ⟨rfl,?_⟩|refine And.intro (by first|decide|exact trivial|exact ⟨_,rfl,rfl⟩|exact ⟨rfl,trivial⟩|exact ⟨rfl,rfl,trivial⟩) ?_
            conv => whnf
            refine ⟨⟨i + 1, hlt, ?_⟩, ?_, by show l.length - (i + 1) < l.length - i; omega⟩
            · rw [List.take_succ_eq_append_getElem hlt]
              intro u hu
              rcases List.mem_append.1 hu with hu | hu
              · exact hq u hu
              · rw [List.mem_singleton.1 hu]; exact hs
            · refine Ge.of rfl ?_ ?_
              · repeat (conv => whnf); refine ⟨LE.of rfl, ?_⟩
                trivial
              · repeat (conv => whnf); refine ⟨OLE.of rfl, ?_⟩
                trivial
        · have hge : l.take i = l := List.take_of_length_le (by have := of_decide_eq_false h4; rw [tmvs_length] at this; have h5 : ¬ ((i : Int) < l.length) := this; omega)
          have hall : (l.all fun u => u.shp) = true := List.all_eq_true.2 fun u hu => hq u (by show u ∈ l.take i; rw [hge]; exact hu)
          rw [hall]
          repeat (conv => whnf); first|refine IndepAnd (by kernel_rfl) ?_|refine ⟨rfl,?_⟩|refine And.intro (by first|decide|exact trivial|exact ⟨_,rfl,rfl⟩|exact ⟨rfl,trivial⟩|exact ⟨rfl,rfl,trivial⟩) ?_
          conv => whnf
          exact LEP.refl _
  · refine PC_of_vc (cx_ok b) (mixed b) {} Tryd.func73 (by kernel_rfl) rfl rfl (by kernel_rfl) ?_
    repeat (conv => whnf); first|refine IndepAnd (by kernel_rfl) ?_|refine ⟨rfl,?_⟩|refine And.intro (by first|decide|exact trivial|exact ⟨_,rfl,rfl⟩|exact ⟨rfl,trivial⟩|exact ⟨rfl,rfl,trivial⟩) ?_
    conv => whnf
    refine ⟨_, CallVC.pr kk rfl rfl, ?_⟩
    repeat (conv => whnf); first|refine IndepAnd (by kernel_rfl) ?_|refine ⟨rfl,?_⟩|refine And.intro (by first|decide|exact trivial|exact ⟨_,rfl,rfl⟩|exact ⟨rfl,trivial⟩|exact ⟨rfl,rfl,trivial⟩) ?_
    conv => whnf
    refine @bool_rec _ _ _ ?_ ?_ <;> intro h1
    · have e : hd = false := by
        have h1 := of_decide_eq_true h1
        rw [tmvs_length] at h1
        have : ar = false := by
          rw [ear]
          simp [kidsT, Tm.arity, Tm.kids] at h1 ⊢
          exact h1
        rw [ehd, this, Bool.and_false]
      rw [hsh, e]
      repeat (conv => whnf); first|refine IndepAnd (by kernel_rfl) ?_|refine ⟨rfl,?_⟩|refine And.intro (by first|decide|exact trivial|exact ⟨_,rfl,rfl⟩|exact ⟨rfl,trivial⟩|exact ⟨rfl,rfl,trivial⟩) ?_
      conv => whnf
      exact LEP.refl _
    · have h1 : ar = true := by
        have h1 := of_decide_eq_false h1
        rw [tmvs_length] at h1
        rw [ear]
        simp [kidsT, Tm.arity, Tm.kids] at h1 ⊢
        exact h1
      rw [h1, Bool.and_true] at ehd
      repeat (conv => whnf); first|refine IndepAnd (by kernel_rfl) ?_|refine ⟨rfl,?_⟩|refine And.intro (by first|decide|exact trivial|exact ⟨_,rfl,rfl⟩|exact ⟨rfl,trivial⟩|exact ⟨rfl,rfl,trivial⟩) ?_
      conv => whnf
      refine @bool_rec _ _ _ ?_ ?_ <;> intro h2
      · have e : hd = false := by
          rw [ehd]
          revert h2
          cases n <;> simp [Tm.known, Tm.named, Tm.name, Tm.kind]
        rw [hsh, e]
        repeat (conv => whnf); first|refine IndepAnd (by kernel_rfl) ?_|refine ⟨rfl,?_⟩|refine And.intro (by first|decide|exact trivial|exact ⟨_,rfl,rfl⟩|exact ⟨rfl,trivial⟩|exact ⟨rfl,rfl,trivial⟩) ?_
        conv => whnf
        exact LEP.refl _
      · have e : hd = true := by
          rw [ehd]
          revert h2
          cases n <;> simp [Tm.known, Tm.named, Tm.name, Tm.kind]
        rw [hsh, e, Bool.true_and]
        repeat (conv => whnf); first|refine IndepAnd (by kernel_rfl) ?_|refine ⟨rfl,?_⟩|refine And.intro (by first|decide|exact trivial|exact ⟨_,rfl,rfl⟩|exact ⟨rfl,trivial⟩|exact ⟨rfl,rfl,trivial⟩) ?_
        conv => whnf
        refine ⟨{ i : Nat // i ≤ l.length ∧ ∀ u ∈ l.take i, u.shp = true }, fun i => S.of [(1, .ptr 1 0), (2, .p (.bool false)), (5, iv (i.1 : Int))] [(1, .var true 24 (tv (.mk 6 n l)))], fun i => l.length - i.1, ⟨0, Nat.zero_le _, by simp⟩, ?_, ?_⟩
        · refine Ge.of rfl ?_ ?_
          · repeat (conv => whnf); refine ⟨LE.of rfl, ?_⟩
            trivial
          · repeat (conv => whnf); refine ⟨OLE.of rfl, ?_⟩
            trivial
        rintro ⟨i, hi, hq⟩
        repeat (conv => whnf); first|refine IndepAnd (by kernel_rfl) ?_|refine ⟨rfl,?_⟩|refine And.intro (by first|decide|exact trivial|exact ⟨_,rfl,rfl⟩|exact ⟨rfl,trivial⟩|exact ⟨rfl,rfl,trivial⟩) ?_
        conv => whnf
        refine @bool_rec _ _ _ ?_ ?_ <;> intro h4
        · have hlt : i < l.length := by have := of_decide_eq_true h4; rw [tmvs_length] at this; exact Int.ofNat_lt.1 this
          have hm := List.getElem_mem hlt
          have hii := ih l[i] hm (hf.kid hm)
          repeat (conv => whnf); first|refine IndepAnd (by kernel_rfl) ?_|refine ⟨rfl,?_⟩|refine And.intro (by first|decide|exact trivial|exact ⟨_,rfl,rfl⟩|exact ⟨rfl,trivial⟩|exact ⟨rfl,rfl,trivial⟩) ?_
          conv => whnf
          refine ⟨Int.natCast_nonneg _, TV l[i], tmvs_getN hlt, rfl, rfl, ?_⟩
          repeat (conv => whnf); first|refine IndepAnd (by kernel_rfl) ?_|refine ⟨rfl,?_⟩|refine And.intro (by first|decide|exact trivial|exact ⟨_,rfl,rfl⟩|exact ⟨rfl,trivial⟩|exact ⟨rfl,rfl,trivial⟩) ?_
          conv => whnf
          cases hs : l[i].shp with
          | false =>
            rw [hs] at hii
            refine ⟨_, CallVC.pr hii rfl rfl, ?_⟩
            repeat (conv => whnf); first|refine IndepAnd (by kernel_rfl) ?_|refine ⟨rfl,?_⟩|refine And.intro (by first|decide|exact trivial|exact ⟨_,rfl,rfl⟩|exact ⟨rfl,trivial⟩|exact ⟨rfl,rfl,trivial⟩) ?_
            conv => whnf
            refine LEP.of (congrArg PV.bool ?_)
            symm
            rw [← Bool.not_eq_true, List.all_eq_true]
            intro hc
            rw [hc _ hm] at hs
            cases hs
          | true =>
            rw [hs] at hii
            refine ⟨_, CallVC.pr hii rfl rfl, ?_⟩
            repeat (conv => whnf); first|refine IndepAnd (by kernel_rfl) ?_|refine ⟨rfl,?_⟩|refine And.intro (by first|decide|exact trivial|exact ⟨_,rfl,rfl⟩|exact ⟨rfl,trivial⟩|exact ⟨rfl,rfl,trivial⟩) ?_
            conv => whnf
            refine ⟨_, wrapN (n := i + 1) rfl (by omega), ?_⟩
            repeat (conv => whnf); first|refine IndepAnd (by kernel_rfl) ?_|refine ⟨rfl,?_⟩|refine And.intro (by first|decide|exact trivial|exact ⟨_,rfl,rfl⟩|exact ⟨rfl,trivial⟩|exact ⟨rfl,rfl,trivial⟩) ?_
            conv => whnf
            refine ⟨⟨i + 1, hlt, ?_⟩, ?_, by show l.length - (i + 1) < l.length - i; omega⟩
            · rw [List.take_succ_eq_append_getElem hlt]
              intro u hu
              rcases List.mem_append.1 hu with hu | hu
              · exact hq u hu
              · rw [List.mem_singleton.1 hu]; exact hs
            · refine Ge.of rfl ?_ ?_
              · repeat (conv => whnf); refine ⟨LE.of rfl, ?_⟩
                trivial
              · repeat (conv => whnf); refine ⟨OLE.of rfl, ?_⟩
                trivial
        · have hge : l.take i = l := List.take_of_length_le (by have := of_decide_eq_false h4; rw [tmvs_length] at this; have h5 : ¬ ((i : Int) < l.length) := this; omega)
          have hall : (l.all fun u => u.shp) = true := List.all_eq_true.2 fun u hu => hq u (by show u ∈ l.take i; rw [hge]; exact hu)
          rw [hall]
          repeat (conv => whnf); first|refine IndepAnd (by kernel_rfl) ?_|refine ⟨rfl,?_⟩|refine And.intro (by first|decide|exact trivial|exact ⟨_,rfl,rfl⟩|exact ⟨rfl,trivial⟩|exact ⟨rfl,rfl,trivial⟩) ?_
          conv => whnf
          exact LEP.refl _
  · refine PC_of_vc (cx_ok b) (mixed b) {} Tryd.func73 (by kernel_rfl) rfl rfl (by kernel_rfl) ?_
    repeat (conv => whnf); first|refine IndepAnd (by kernel_rfl) ?_|refine ⟨rfl,?_⟩|refine And.intro (by first|decide|exact trivial|exact ⟨_,rfl,rfl⟩|exact ⟨rfl,trivial⟩|exact ⟨rfl,rfl,trivial⟩) ?_
    conv => whnf
    refine ⟨_, CallVC.pr kk rfl rfl, ?_⟩
    repeat (conv => whnf); first|refine IndepAnd (by kernel_rfl) ?_|refine ⟨rfl,?_⟩|refine And.intro (by first|decide|exact trivial|exact ⟨_,rfl,rfl⟩|exact ⟨rfl,trivial⟩|exact ⟨rfl,rfl,trivial⟩) ?_
    conv => whnf
    refine @bool_rec _ _ _ ?_ ?_ <;> intro h1
    · have e : hd = false := by
        have h1 := of_decide_eq_true h1
        rw [tmvs_length] at h1
        have : ar = false := by
          rw [ear]
          simp [kidsT, Tm.arity, Tm.kids] at h1 ⊢
          exact h1
        rw [ehd, this, Bool.and_false]
      rw [hsh, e]
      repeat (conv => whnf); first|refine IndepAnd (by kernel_rfl) ?_|refine ⟨rfl,?_⟩|refine And.intro (by first|decide|exact trivial|exact ⟨_,rfl,rfl⟩|exact ⟨rfl,trivial⟩|exact ⟨rfl,rfl,trivial⟩) ?_
      conv => whnf
      exact LEP.refl _
    · have h1 : ar = true := by
        have h1 := of_decide_eq_false h1
        rw [tmvs_length] at h1
        rw [ear]
        simp [kidsT, Tm.arity, Tm.kids] at h1 ⊢
        exact h1
      rw [h1, Bool.and_true] at ehd
      repeat (conv => whnf); first|refine IndepAnd (by kernel_rfl) ?_|refine ⟨rfl,?_⟩|refine And.intro (by first|decide|exact trivial|exact ⟨_,rfl,rfl⟩|exact ⟨rfl,trivial⟩|exact ⟨rfl,rfl,trivial⟩) ?_
      conv => whnf
      refine @bool_rec _ _ _ ?_ ?_ <;> intro h2
      · have e : hd = false := by
          rw [ehd]
          revert h2
          cases n <;> simp [Tm.known, Tm.named, Tm.name, Tm.kind]
        rw [hsh, e]
        repeat (conv => whnf); first|refine IndepAnd (by kernel_rfl) ?_|refine ⟨rfl,?_⟩|refine And.intro (by first|decide|exact trivial|exact ⟨_,rfl,rfl⟩|exact ⟨rfl,trivial⟩|exact ⟨rfl,rfl,trivial⟩) ?_
        conv => whnf
        exact LEP.refl _
      · have e : hd = true := by
          rw [ehd]
          revert h2
          cases n <;> simp [Tm.known, Tm.named, Tm.name, Tm.kind]
        rw [hsh, e, Bool.true_and]
        repeat (conv => whnf); first|refine IndepAnd (by kernel_rfl) ?_|refine ⟨rfl,?_⟩|refine And.intro (by first|decide|exact trivial|exact ⟨_,rfl,rfl⟩|exact ⟨rfl,trivial⟩|exact ⟨rfl,rfl,trivial⟩) ?_
        conv => whnf
        refine ⟨{ i : Nat // i ≤ l.length ∧ ∀ u ∈ l.take i, u.shp = true }, fun i => S.of [(1, .ptr 1 0), (2, .p (.bool false)), (5, iv (i.1 : Int))] [(1, .var true 24 (tv (.mk 7 n l)))], fun i => l.length - i.1, ⟨0, Nat.zero_le _, by simp⟩, ?_, ?_⟩
        · refine Ge.of rfl ?_ ?_
          · repeat (conv => whnf); refine ⟨LE.of rfl, ?_⟩
            trivial
          · repeat (conv => whnf); refine ⟨OLE.of rfl, ?_⟩
            trivial
        rintro ⟨i, hi, hq⟩
        repeat (conv => whnf); first|refine IndepAnd (by kernel_rfl) ?_|refine ⟨rfl,?_⟩|refine And.intro (by first|decide|exact trivial|exact ⟨_,rfl,rfl⟩|exact ⟨rfl,trivial⟩|exact ⟨rfl,rfl,trivial⟩) ?_
        conv => whnf
        refine @bool_rec _ _ _ ?_ ?_ <;> intro h4
        · have hlt : i < l.length := by have := of_decide_eq_true h4; rw [tmvs_length] at this; exact Int.ofNat_lt.1 this
          have hm := List.getElem_mem hlt
          have hii := ih l[i] hm (hf.kid hm)
          repeat (conv => whnf); first|refine IndepAnd (by kernel_rfl) ?_|refine ⟨rfl,?_⟩|refine And.intro (by first|decide|exact trivial|exact ⟨_,rfl,rfl⟩|exact ⟨rfl,trivial⟩|exact ⟨rfl,rfl,trivial⟩) ?_
          conv => whnf
          refine ⟨Int.natCast_nonneg _, TV l[i], tmvs_getN hlt, rfl, rfl, ?_⟩
          repeat (conv => whnf); first|refine IndepAnd (by kernel_rfl) ?_|refine ⟨rfl,?_⟩|refine And.intro (by first|decide|exact trivial|exact ⟨_,rfl,rfl⟩|exact ⟨rfl,trivial⟩|exact ⟨rfl,rfl,trivial⟩) ?_
          conv => whnf
          cases hs : l[i].shp with
          | false =>
            rw [hs] at hii
            refine ⟨_, CallVC.pr hii rfl rfl, ?_⟩
            repeat (conv => whnf); first|refine IndepAnd (by kernel_rfl) ?_|refine ⟨rfl,?_⟩|refine And.intro (by first|decide|exact trivial|exact ⟨_,rfl,rfl⟩|exact ⟨rfl,trivial⟩|exact ⟨rfl,rfl,trivial⟩) ?_
            conv => whnf
            refine LEP.of (congrArg PV.bool ?_)
            symm
            rw [← Bool.not_eq_true, List.all_eq_true]
            intro hc
            rw [hc _ hm] at hs
            cases hs
          | true =>
            rw [hs] at hii
            refine ⟨_, CallVC.pr hii rfl rfl, ?_⟩
            repeat (conv => whnf); first|refine IndepAnd (by kernel_rfl) ?_|refine ⟨rfl,?_⟩|refine And.intro (by first|decide|exact trivial|exact ⟨_,rfl,rfl⟩|exact ⟨rfl,trivial⟩|exact ⟨rfl,rfl,trivial⟩) ?_
            conv => whnf
            refine ⟨_, wrapN (n := i + 1) rfl (by omega), ?_⟩
            repeat (conv => whnf); first|refine IndepAnd (by kernel_rfl) ?_|refine ⟨rfl,?_⟩|refine And.intro (by first|decide|exact trivial|exact ⟨_,rfl,rfl⟩|exact ⟨rfl,trivial⟩|exact ⟨rfl,rfl,trivial⟩) ?_
            conv => whnf
            refine ⟨⟨i + 1, hlt, ?_⟩, ?_, by show l.length - (i + 1) < l.length - i; omega⟩
            · rw [List.take_succ_eq_append_getElem hlt]
              intro u hu
              rcases List.mem_append.1 hu with hu | hu
              · exact hq u hu
              · rw [List.mem_singleton.1 hu]; exact hs
            · refine Ge.of rfl ?_ ?_
              · repeat (conv => whnf); refine ⟨LE.of rfl, ?_⟩
                trivial
              · repeat (conv => whnf); refine ⟨OLE.of rfl, ?_⟩
                trivial
        · have hge : l.take i = l := List.take_of_length_le (by have := of_decide_eq_false h4; rw [tmvs_length] at this; have h5 : ¬ ((i : Int) < l.length) := this; omega)
          have hall : (l.all fun u => u.shp) = true := List.all_eq_true.2 fun u hu => hq u (by show u ∈ l.take i; rw [hge]; exact hu)
          rw [hall]
          repeat (conv => whnf); first|refine IndepAnd (by kernel_rfl) ?_|refine ⟨rfl,?_⟩|refine And.intro (by first|decide|exact trivial|exact ⟨_,rfl,rfl⟩|exact ⟨rfl,trivial⟩|exact ⟨rfl,rfl,trivial⟩) ?_
          conv => whnf
          exact LEP.refl _
  · refine PC_of_vc (cx_ok b) (mixed b) {} Tryd.func73 (by kernel_rfl) rfl rfl (by kernel_rfl) ?_
    repeat (conv => whnf); first|refine IndepAnd (by kernel_rfl) ?_|refine ⟨rfl,?_⟩|refine And.intro (by first|decide|exact trivial|exact ⟨_,rfl,rfl⟩|exact ⟨rfl,trivial⟩|exact ⟨rfl,rfl,trivial⟩) ?_
    conv => whnf
    refine ⟨_, CallVC.pr kk rfl rfl, ?_⟩
    repeat (conv => whnf); first|refine IndepAnd (by kernel_rfl) ?_|refine ⟨rfl,?_⟩|refine And.intro (by first|decide|exact trivial|exact ⟨_,rfl,rfl⟩|exact ⟨rfl,trivial⟩|exact ⟨rfl,rfl,trivial⟩) ?_
    conv => whnf
    refine @bool_rec _ _ _ ?_ ?_ <;> intro h1
    · have e : hd = false := by
        have h1 := of_decide_eq_true h1
        rw [tmvs_length] at h1
        have : ar = false := by
          rw [ear]
          simp [kidsT, Tm.arity, Tm.kids] at h1 ⊢
          exact h1
        rw [ehd, this, Bool.and_false]
      rw [hsh, e]
      repeat (conv => whnf); first|refine IndepAnd (by kernel_rfl) ?_|refine ⟨rfl,?_⟩|refine And.intro (by first|decide|exact trivial|exact ⟨_,rfl,rfl⟩|exact ⟨rfl,trivial⟩|exact ⟨rfl,rfl,trivial⟩) ?_
      conv => whnf
      exact LEP.refl _
    · have h1 : ar = true := by
        have h1 := of_decide_eq_false h1
        rw [tmvs_length] at h1
        rw [ear]
        simp [kidsT, Tm.arity, Tm.kids] at h1 ⊢
        exact h1
      rw [h1, Bool.and_true] at ehd
      repeat (conv => whnf); first|refine IndepAnd (by kernel_rfl) ?_|refine ⟨rfl,?_⟩|refine And.intro (by first|decide|exact trivial|exact ⟨_,rfl,rfl⟩|exact ⟨rfl,trivial⟩|exact ⟨rfl,rfl,trivial⟩) ?_
      conv => whnf
      refine @bool_rec _ _ _ ?_ ?_ <;> intro h2
      · have e : hd = false := by
          rw [ehd]
          revert h2
          cases n <;> simp [Tm.known, Tm.named, Tm.name, Tm.kind]
        rw [hsh, e]
        repeat (conv => whnf); first|refine IndepAnd (by kernel_rfl) ?_|refine ⟨rfl,?_⟩|refine And.intro (by first|decide|exact trivial|exact ⟨_,rfl,rfl⟩|exact ⟨rfl,trivial⟩|exact ⟨rfl,rfl,trivial⟩) ?_
        conv => whnf
        exact LEP.refl _
      · have e : hd = true := by
          rw [ehd]
          revert h2
          cases n <;> simp [Tm.known, Tm.named, Tm.name, Tm.kind]
        rw [hsh, e, Bool.true_and]
        repeat (conv => whnf); first|refine IndepAnd (by kernel_rfl) ?_|refine ⟨rfl,?_⟩|refine And.intro (by first|decide|exact trivial|exact ⟨_,rfl,rfl⟩|exact ⟨rfl,trivial⟩|exact ⟨rfl,rfl,trivial⟩) ?_
        conv => whnf
        refine ⟨{ i : Nat // i ≤ l.length ∧ ∀ u ∈ l.take i, u.shp = true }, fun i => S.of [(1, .ptr 1 0), (2, .p (.bool false)), (5, iv (i.1 : Int))] [(1, .var true 24 (tv (.mk 8 n l)))], fun i => l.length - i.1, ⟨0, Nat.zero_le _, by simp⟩, ?_, ?_⟩
        · refine Ge.of rfl ?_ ?_
          · repeat (conv => whnf); refine ⟨LE.of rfl, ?_⟩
            trivial
          · repeat (conv => whnf); refine ⟨OLE.of rfl, ?_⟩
            trivial
        rintro ⟨i, hi, hq⟩
        repeat (conv => whnf); first|refine IndepAnd (by kernel_rfl) ?_|refine ⟨rfl,?_⟩|refine And.intro (by first|decide|exact trivial|exact ⟨_,rfl,rfl⟩|exact ⟨rfl,trivial⟩|exact ⟨rfl,rfl,trivial⟩) ?_
        conv => whnf
        refine @bool_rec _ _ _ ?_ ?_ <;> intro h4
        · have hlt : i < l.length := by have := of_decide_eq_true h4; rw [tmvs_length] at this; exact Int.ofNat_lt.1 this
          have hm := List.getElem_mem hlt
          have hii := ih l[i] hm (hf.kid hm)
          repeat (conv => whnf); first|refine IndepAnd (by kernel_rfl) ?_|refine ⟨rfl,?_⟩|refine And.intro (by first|decide|exact trivial|exact ⟨_,rfl,rfl⟩|exact ⟨rfl,trivial⟩|exact ⟨rfl,rfl,trivial⟩) ?_
          conv => whnf
          refine ⟨Int.natCast_nonneg _, TV l[i], tmvs_getN hlt, rfl, rfl, ?_⟩
          repeat (conv => whnf); first|refine IndepAnd (by kernel_rfl) ?_|refine ⟨rfl,?_⟩|refine And.intro (by first|decide|exact trivial|exact ⟨_,rfl,rfl⟩|exact ⟨rfl,trivial⟩|exact ⟨rfl,rfl,trivial⟩) ?_
          conv => whnf
          cases hs : l[i].shp with
          | false =>
            rw [hs] at hii
            refine ⟨_, CallVC.pr hii rfl rfl, ?_⟩
            repeat (conv => whnf); first|refine IndepAnd (by kernel_rfl) ?_|refine ⟨rfl,?_⟩|refine And.intro (by first|decide|exact trivial|exact ⟨_,rfl,rfl⟩|exact ⟨rfl,trivial⟩|exact ⟨rfl,rfl,trivial⟩) ?_
            conv => whnf
            refine LEP.of (congrArg PV.bool ?_)
            symm
            rw [← Bool.not_eq_true, List.all_eq_true]
            intro hc
            rw [hc _ hm] at hs
            cases hs
          | true =>
            rw [hs] at hii
            refine ⟨_, CallVC.pr hii rfl rfl, ?_⟩
            repeat (conv => whnf); first|refine IndepAnd (by kernel_rfl) ?_|refine ⟨rfl,?_⟩|refine And.intro (by first|decide|exact trivial|exact ⟨_,rfl,rfl⟩|exact ⟨rfl,trivial⟩|exact ⟨rfl,rfl,trivial⟩) ?_
            conv => whnf
            refine ⟨_, wrapN (n := i + 1) rfl (by omega), ?_⟩
            repeat (conv => whnf); first|refine IndepAnd (by kernel_rfl) ?_|refine ⟨rfl,?_⟩|refine And.intro (by first|decide|exact trivial|exact ⟨_,rfl,rfl⟩|exact ⟨rfl,trivial⟩|exact ⟨rfl,rfl,trivial⟩) ?_
            conv => whnf
            refine ⟨⟨i + 1, hlt, ?_⟩, ?_, by show l.length - (i + 1) < l.length - i; omega⟩
            · rw [List.take_succ_eq_append_getElem hlt]
              intro u hu
              rcases List.mem_append.1 hu with hu | hu
              · exact hq u hu
              · rw [List.mem_singleton.1 hu]; exact hs
            · refine Ge.of rfl ?_ ?_
              · repeat (conv => whnf); refine ⟨LE.of rfl, ?_⟩
                trivial
              · repeat (conv => whnf); refine ⟨OLE.of rfl, ?_⟩
                trivial
        · have hge : l.take i = l := List.take_of_length_le (by have := of_decide_eq_false h4; rw [tmvs_length] at this; have h5 : ¬ ((i : Int) < l.length) := this; omega)
          have hall : (l.all fun u => u.shp) = true := List.all_eq_true.2 fun u hu => hq u (by show u ∈ l.take i; rw [hge]; exact hu)
          rw [hall]
          repeat (conv => whnf); first|refine IndepAnd (by kernel_rfl) ?_|refine ⟨rfl,?_⟩|refine And.intro (by first|decide|exact trivial|exact ⟨_,rfl,rfl⟩|exact ⟨rfl,trivial⟩|exact ⟨rfl,rfl,trivial⟩) ?_
          conv => whnf
          exact LEP.refl _
  · refine PC_of_vc (cx_ok b) (mixed b) {} Tryd.func73 (by kernel_rfl) rfl rfl (by kernel_rfl) ?_
    repeat (conv => whnf); first|refine IndepAnd (by kernel_rfl) ?_|refine ⟨rfl,?_⟩|refine And.intro (by first|decide|exact trivial|exact ⟨_,rfl,rfl⟩|exact ⟨rfl,trivial⟩|exact ⟨rfl,rfl,trivial⟩) ?_
    conv => whnf
    refine ⟨_, CallVC.pr kk rfl rfl, ?_⟩
    repeat (conv => whnf); first|refine IndepAnd (by kernel_rfl) ?_|refine ⟨rfl,?_⟩|refine And.intro (by first|decide|exact trivial|exact ⟨_,rfl,rfl⟩|exact ⟨rfl,trivial⟩|exact ⟨rfl,rfl,trivial⟩) ?_
    conv => whnf
    refine @bool_rec _ _ _ ?_ ?_ <;> intro h1
    · have e : hd = false := by
        have h1 := of_decide_eq_true h1
        rw [tmvs_length] at h1
        have : ar = false := by
          rw [ear]
          simp [kidsT, Tm.arity, Tm.kids] at h1 ⊢
          exact h1
        rw [ehd, this, Bool.and_false]
      rw [hsh, e]
      repeat (conv => whnf); first|refine IndepAnd (by kernel_rfl) ?_|refine ⟨rfl,?_⟩|refine And.intro (by first|decide|exact trivial|exact ⟨_,rfl,rfl⟩|exact ⟨rfl,trivial⟩|exact ⟨rfl,rfl,trivial⟩) ?_
      conv => whnf
      exact LEP.refl _
    · have h1 : ar = true := by
        have h1 := of_decide_eq_false h1
        rw [tmvs_length] at h1
        rw [ear]
        simp [kidsT, Tm.arity, Tm.kids] at h1 ⊢
        exact h1
      rw [h1, Bool.and_true] at ehd
      repeat (conv => whnf); first|refine IndepAnd (by kernel_rfl) ?_|refine ⟨rfl,?_⟩|refine And.intro (by first|decide|exact trivial|exact ⟨_,rfl,rfl⟩|exact ⟨rfl,trivial⟩|exact ⟨rfl,rfl,trivial⟩) ?_
      conv => whnf
      refine @bool_rec _ _ _ ?_ ?_ <;> intro h2
      · have e : hd = false := by
          rw [ehd]
          revert h2
          cases n <;> simp [Tm.known, Tm.named, Tm.name, Tm.kind]
        rw [hsh, e]
        repeat (conv => whnf); first|refine IndepAnd (by kernel_rfl) ?_|refine ⟨rfl,?_⟩|refine And.intro (by first|decide|exact trivial|exact ⟨_,rfl,rfl⟩|exact ⟨rfl,trivial⟩|exact ⟨rfl,rfl,trivial⟩) ?_
        conv => whnf
        exact LEP.refl _
      · have e : hd = true := by
          rw [ehd]
          revert h2
          cases n <;> simp [Tm.known, Tm.named, Tm.name, Tm.kind]
        rw [hsh, e, Bool.true_and]
        repeat (conv => whnf); first|refine IndepAnd (by kernel_rfl) ?_|refine ⟨rfl,?_⟩|refine And.intro (by first|decide|exact trivial|exact ⟨_,rfl,rfl⟩|exact ⟨rfl,trivial⟩|exact ⟨rfl,rfl,trivial⟩) ?_
        conv => whnf
        refine ⟨{ i : Nat // i ≤ l.length ∧ ∀ u ∈ l.take i, u.shp = true }, fun i => S.of [(1, .ptr 1 0), (2, .p (.bool false)), (5, iv (i.1 : Int))] [(1, .var true 24 (tv (.mk 9 n l)))], fun i => l.length - i.1, ⟨0, Nat.zero_le _, by simp⟩, ?_, ?_⟩
        · refine Ge.of rfl ?_ ?_
          · repeat (conv => whnf); refine ⟨LE.of rfl, ?_⟩
            trivial
          · repeat (conv => whnf); refine ⟨OLE.of rfl, ?_⟩
            trivial
        rintro ⟨i, hi, hq⟩
        repeat (conv => whnf); first|refine IndepAnd (by kernel_rfl) ?_|refine ⟨rfl,?_⟩|refine And.intro (by first|decide|exact trivial|exact ⟨_,rfl,rfl⟩|exact ⟨rfl,trivial⟩|exact ⟨rfl,rfl,trivial⟩) ?_
        conv => whnf
        refine @bool_rec _ _ _ ?_ ?_ <;> intro h4
        · have hlt : i < l.length := by have := of_decide_eq_true h4; rw [tmvs_length] at this; exact Int.ofNat_lt.1 this
          have hm := List.getElem_mem hlt
          have hii := ih l[i] hm (hf.kid hm)
          repeat (conv => whnf); first|refine IndepAnd (by kernel_rfl) ?_|refine ⟨rfl,?_⟩|refine And.intro (by first|decide|exact trivial|exact ⟨_,rfl,rfl⟩|exact ⟨rfl,trivial⟩|exact ⟨rfl,rfl,trivial⟩) ?_
          conv => whnf
          refine ⟨Int.natCast_nonneg _, TV l[i], tmvs_getN hlt, rfl, rfl, ?_⟩
          repeat (conv => whnf); first|refine IndepAnd (by kernel_rfl) ?_|refine ⟨rfl,?_⟩|refine And.intro (by first|decide|exact trivial|exact ⟨_,rfl,rfl⟩|exact ⟨rfl,trivial⟩|exact ⟨rfl,rfl,trivial⟩) ?_
          conv => whnf
          cases hs : l[i].shp with
          | false =>
            rw [hs] at hii
            refine ⟨_, CallVC.pr hii rfl rfl, ?_⟩
            repeat (conv => whnf); first|refine IndepAnd (by kernel_rfl) ?_|refine ⟨rfl,?_⟩|refine And.intro (by first|decide|exact trivial|exact ⟨_,rfl,rfl⟩|exact ⟨rfl,trivial⟩|exact ⟨rfl,rfl,trivial⟩) ?_
            conv => whnf
            refine LEP.of (congrArg PV.bool ?_)
            symm
            rw [← Bool.not_eq_true, List.all_eq_true]
            intro hc
            rw [hc _ hm] at hs
            cases hs
          | true =>
            rw [hs] at hii
            refine ⟨_, CallVC.pr hii rfl rfl, ?_⟩
            repeat (conv => whnf); first|refine IndepAnd (by kernel_rfl) ?_|refine ⟨rfl,?_⟩|refine And.intro (by first|decide|exact trivial|exact ⟨_,rfl,rfl⟩|exact ⟨rfl,trivial⟩|exact ⟨rfl,rfl,trivial⟩) ?_
            conv => whnf
            refine ⟨_, wrapN (n := i + 1) rfl (by omega), ?_⟩
            repeat (conv => whnf); first|refine IndepAnd (by kernel_rfl) ?_|refine ⟨rfl,?_⟩|refine And.intro (by first|decide|exact trivial|exact ⟨_,rfl,rfl⟩|exact ⟨rfl,trivial⟩|exact ⟨rfl,rfl,trivial⟩) ?_
            conv => whnf
            refine ⟨⟨i + 1, hlt, ?_⟩, ?_, by show l.length - (i + 1) < l.length - i; omega⟩
            · rw [List.take_succ_eq_append_getElem hlt]
              intro u hu
              rcases List.mem_append.1 hu with hu | hu
              · exact hq u hu
              · rw [List.mem_singleton.1 hu]; exact hs
            · refine Ge.of rfl ?_ ?_
              · repeat (conv => whnf); refine ⟨LE.of rfl, ?_⟩
                trivial
              · repeat (conv => whnf); refine ⟨OLE.of rfl, ?_⟩
                trivial
        · have hge : l.take i = l := List.take_of_length_le (by have := of_decide_eq_false h4; rw [tmvs_length] at this; have h5 : ¬ ((i : Int) < l.length) := this; omega)
          have hall : (l.all fun u => u.shp) = true := List.all_eq_true.2 fun u hu => hq u (by show u ∈ l.take i; rw [hge]; exact hu)
          rw [hall]
          repeat (conv => whnf); first|refine IndepAnd (by kernel_rfl) ?_|refine ⟨rfl,?_⟩|refine And.intro (by first|decide|exact trivial|exact ⟨_,rfl,rfl⟩|exact ⟨rfl,trivial⟩|exact ⟨rfl,rfl,trivial⟩) ?_
          conv => whnf
          exact LEP.refl _
  · refine PC_of_vc (cx_ok b) (mixed b) {} Tryd.func73 (by kernel_rfl) rfl rfl (by kernel_rfl) ?_
    repeat (conv => whnf); first|refine IndepAnd (by kernel_rfl) ?_|refine ⟨rfl,?_⟩|refine And.intro (by first|decide|exact trivial|exact ⟨_,rfl,rfl⟩|exact ⟨rfl,trivial⟩|exact ⟨rfl,rfl,trivial⟩) ?_
    conv => whnf
    refine ⟨_, CallVC.pr kk rfl rfl, ?_⟩
    repeat (conv => whnf); first|refine IndepAnd (by kernel_rfl) ?_|refine ⟨rfl,?_⟩|refine And.intro (by first|decide|exact trivial|exact ⟨_,rfl,rfl⟩|exact ⟨rfl,trivial⟩|exact ⟨rfl,rfl,trivial⟩) ?_
    conv => whnf
    refine @bool_rec _ _ _ ?_ ?_ <;> intro h1
    · have e : hd = false := by
        have h1 := of_decide_eq_true h1
        rw [tmvs_length] at h1
        have : ar = false := by
          rw [ear]
          simp [kidsT, Tm.arity, Tm.kids] at h1 ⊢
          exact h1
        rw [ehd, this, Bool.and_false]
      rw [hsh, e]
      repeat (conv => whnf); first|refine IndepAnd (by kernel_rfl) ?_|refine ⟨rfl,?_⟩|refine And.intro (by first|decide|exact trivial|exact ⟨_,rfl,rfl⟩|exact ⟨rfl,trivial⟩|exact ⟨rfl,rfl,trivial⟩) ?_
      conv => whnf
      exact LEP.refl _
    · have h1 : ar = true := by
        have h1 := of_decide_eq_false h1
        rw [tmvs_length] at h1
        rw [ear]
        simp [kidsT, Tm.arity, Tm.kids] at h1 ⊢
        exact h1
      rw [h1, Bool.and_true] at ehd
      repeat (conv => whnf); first|refine IndepAnd (by kernel_rfl) ?_|refine ⟨rfl,?_⟩|refine And.intro (by first|decide|exact trivial|exact ⟨_,rfl,rfl⟩|exact ⟨rfl,trivial⟩|exact ⟨rfl,rfl,trivial⟩) ?_
      conv => whnf
      refine @bool_rec _ _ _ ?_ ?_ <;> intro h2
      · have e : hd = false := by
          rw [ehd]
          revert h2
          cases n <;> simp [Tm.known, Tm.named, Tm.name, Tm.kind]
        rw [hsh, e]
        repeat (conv => whnf); first|refine IndepAnd (by kernel_rfl) ?_|refine ⟨rfl,?_⟩|refine And.intro (by first|decide|exact trivial|exact ⟨_,rfl,rfl⟩|exact ⟨rfl,trivial⟩|exact ⟨rfl,rfl,trivial⟩) ?_
        conv => whnf
        exact LEP.refl _
      · have e : hd = true := by
          rw [ehd]
          revert h2
          cases n <;> simp [Tm.known, Tm.named, Tm.name, Tm.kind]
        rw [hsh, e, Bool.true_and]
        repeat (conv => whnf); first|refine IndepAnd (by kernel_rfl) ?_|refine ⟨rfl,?_⟩|refine And.intro (by first|decide|exact trivial|exact ⟨_,rfl,rfl⟩|exact ⟨rfl,trivial⟩|exact ⟨rfl,rfl,trivial⟩) ?_
        conv => whnf
        refine ⟨{ i : Nat // i ≤ l.length ∧ ∀ u ∈ l.take i, u.shp = true }, fun i => S.of [(1, .ptr 1 0), (2, .p (.bool false)), (5, iv (i.1 : Int))] [(1, .var true 24 (tv (.mk 10 n l)))], fun i => l.length - i.1, ⟨0, Nat.zero_le _, by simp⟩, ?_, ?_⟩
        · refine Ge.of rfl ?_ ?_
          · repeat (conv => whnf); refine ⟨LE.of rfl, ?_⟩
            trivial
          · repeat (conv => whnf); refine ⟨OLE.of rfl, ?_⟩
            trivial
        rintro ⟨i, hi, hq⟩
        repeat (conv => whnf); first|refine IndepAnd (by kernel_rfl) ?_|refine ⟨rfl,?_⟩|refine And.intro (by first|decide|exact trivial|exact ⟨_,rfl,rfl⟩|exact ⟨rfl,trivial⟩|exact ⟨rfl,rfl,trivial⟩) ?_
        conv => whnf
        refine @bool_rec _ _ _ ?_ ?_ <;> intro h4
        · have hlt : i < l.length := by have := of_decide_eq_true h4; rw [tmvs_length] at this; exact Int.ofNat_lt.1 this
          have hm := List.getElem_mem hlt
          have hii := ih l[i] hm (hf.kid hm)
          repeat (conv => whnf); first|refine IndepAnd (by kernel_rfl) ?_|refine ⟨rfl,?_⟩|refine And.intro (by first|decide|exact trivial|exact ⟨_,rfl,rfl⟩|exact ⟨rfl,trivial⟩|exact ⟨rfl,rfl,trivial⟩) ?_
          conv => whnf
          refine ⟨Int.natCast_nonneg _, TV l[i], tmvs_getN hlt, rfl, rfl, ?_⟩
          repeat (conv => whnf); first|refine IndepAnd (by kernel_rfl) ?_|refine ⟨rfl,?_⟩|refine And.intro (by first|decide|exact trivial|exact ⟨_,rfl,rfl⟩|exact ⟨rfl,trivial⟩|exact ⟨rfl,rfl,trivial⟩) ?_
          conv => whnf
          cases hs : l[i].shp with
          | false =>
            rw [hs] at hii
            refine ⟨_, CallVC.pr hii rfl rfl, ?_⟩
            repeat (conv => whnf); first|refine IndepAnd (by kernel_rfl) ?_|refine ⟨rfl,?_⟩|refine And.intro (by first|decide|exact trivial|exact ⟨_,rfl,rfl⟩|exact ⟨rfl,trivial⟩|exact ⟨rfl,rfl,trivial⟩) ?_
            conv => whnf
            refine LEP.of (congrArg PV.bool ?_)
            symm
            rw [← Bool.not_eq_true, List.all_eq_true]
            intro hc
            rw [hc _ hm] at hs
            cases hs
          | true =>
            rw [hs] at hii
            refine ⟨_, CallVC.pr hii rfl rfl, ?_⟩
            repeat (conv => whnf); first|refine IndepAnd (by kernel_rfl) ?_|refine ⟨rfl,?_⟩|refine And.intro (by first|decide|exact trivial|exact ⟨_,rfl,rfl⟩|exact ⟨rfl,trivial⟩|exact ⟨rfl,rfl,trivial⟩) ?_
            conv => whnf
            refine ⟨_, wrapN (n := i + 1) rfl (by omega), ?_⟩
            repeat (conv => whnf); first|refine IndepAnd (by kernel_rfl) ?_|refine ⟨rfl,?_⟩|refine And.intro (by first|decide|exact trivial|exact ⟨_,rfl,rfl⟩|exact ⟨rfl,trivial⟩|exact ⟨rfl,rfl,trivial⟩) ?_
            conv => whnf
            refine ⟨⟨i + 1, hlt, ?_⟩, ?_, by show l.length - (i + 1) < l.length - i; omega⟩
            · rw [List.take_succ_eq_append_getElem hlt]
              intro u hu
              rcases List.mem_append.1 hu with hu | hu
              · exact hq u hu
              · rw [List.mem_singleton.1 hu]; exact hs
            · refine Ge.of rfl ?_ ?_
              · repeat (conv => whnf); refine ⟨LE.of rfl, ?_⟩
                trivial
              · repeat (conv => whnf); refine ⟨OLE.of rfl, ?_⟩
                trivial
        · have hge : l.take i = l := List.take_of_length_le (by have := of_decide_eq_false h4; rw [tmvs_length] at this; have h5 : ¬ ((i : Int) < l.length) := this; omega)
          have hall : (l.all fun u => u.shp) = true := List.all_eq_true.2 fun u hu => hq u (by show u ∈ l.take i; rw [hge]; exact hu)
          rw [hall]
          repeat (conv => whnf); first|refine IndepAnd (by kernel_rfl) ?_|refine ⟨rfl,?_⟩|refine And.intro (by first|decide|exact trivial|exact ⟨_,rfl,rfl⟩|exact ⟨rfl,trivial⟩|exact ⟨rfl,rfl,trivial⟩) ?_
          conv => whnf
          exact LEP.refl _
  · have e : kidsT k = -2 := by unfold kidsT; rw [if_neg (by omega), if_neg (by omega), if_neg (by omega), if_neg (by omega)]
    have eh : hd = false := by
      rw [ehd]
      have : Tm.known k = false := by
        unfold Tm.known
        rw [← Bool.not_eq_true, Bool.and_eq_true, decide_eq_true_eq, decide_eq_true_eq]
        omega
      rw [this]; rfl
    rw [e] at kk
    rw [hsh, eh]
    refine PC_of_vc (cx_ok b) (mixed b) {} Tryd.func73 (by kernel_rfl) rfl rfl (by kernel_rfl) ?_
    repeat (conv => whnf); first|refine IndepAnd (by kernel_rfl) ?_|refine ⟨rfl,?_⟩|refine And.intro (by first|decide|exact trivial|exact ⟨_,rfl,rfl⟩|exact ⟨rfl,trivial⟩|exact ⟨rfl,rfl,trivial⟩) ?_
    conv => whnf
    refine ⟨_, CallVC.pr kk rfl rfl, ?_⟩
    repeat (conv => whnf); first|refine IndepAnd (by kernel_rfl) ?_|refine ⟨rfl,?_⟩|refine And.intro (by first|decide|exact trivial|exact ⟨_,rfl,rfl⟩|exact ⟨rfl,trivial⟩|exact ⟨rfl,rfl,trivial⟩) ?_
    conv => whnf
    rw [show decide ((Tm.mk k n l).kind = 1) = false from decide_eq_false h1]
    repeat (conv => whnf); first|refine IndepAnd (by kernel_rfl) ?_|refine ⟨rfl,?_⟩|refine And.intro (by first|decide|exact trivial|exact ⟨_,rfl,rfl⟩|exact ⟨rfl,trivial⟩|exact ⟨rfl,rfl,trivial⟩) ?_
    conv => whnf
    rw [show decide ((Tm.mk k n l).kind = 2) = false from decide_eq_false h2]
    repeat (conv => whnf); first|refine IndepAnd (by kernel_rfl) ?_|refine ⟨rfl,?_⟩|refine And.intro (by first|decide|exact trivial|exact ⟨_,rfl,rfl⟩|exact ⟨rfl,trivial⟩|exact ⟨rfl,rfl,trivial⟩) ?_
    conv => whnf
    exact LEP.refl _
end Go.Sl
