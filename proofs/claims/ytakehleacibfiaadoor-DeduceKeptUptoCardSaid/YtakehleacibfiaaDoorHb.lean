/- Contracts of layer 8: all of some terms. -/
import Derived.Test.YtakehleacibfiaaDoorHa
set_option linter.unusedVariables false
set_option linter.unusedSimpArgs false
namespace Go.Sl
open Go Go.Vc Go.Proofs Go.RowKit

/-- How many are asked. -/
def stopT (q : Tm → Bool) (l : List Tm) : Nat := min l.length ((l.takeWhile q).length + 1)
theorem takeWhile_at {q : Tm → Bool} : ∀ {l : List Tm} {i : Nat} (hi : i < l.length), (∀ u ∈ l.take i, q u = true) → q l[i] = false → (l.takeWhile q).length = i
  | [], i, hi, _, _ => by simp at hi
  | t :: l, 0, hi, _, h => by
    simp at h
    simp [List.takeWhile, h]
  | t :: l, i + 1, hi, h1, h2 => by
    have ht := h1 t (by simp)
    simp only [List.takeWhile, ht]
    rw [List.length_cons, takeWhile_at (i := i) (by simpa using hi) (fun u hu => h1 u (by simp [hu])) (by simpa using h2)]
theorem takeWhile_all {q : Tm → Bool} {l : List Tm} (h : ∀ u ∈ l, q u = true) : (l.takeWhile q).length = l.length := by
  induction l with
  | nil => rfl
  | cons t l ih => simp only [List.takeWhile, h t (List.mem_cons_self ..), List.length_cons]; rw [ih fun u hu => h u (List.mem_cons_of_mem _ hu)]
def gid : Nat → Nat := fun k => k
theorem all_ok (L : List Tm) (S : List Bs) (q : Tm → Bool) (l : List Tm) (Ds : Nat → List (Bs × Bool)) (hl : l.length ≤ 9223372036854775807)
    (h : ∀ i (hi : i < l.length), PM (cx true) 55 (KP L S (Ds i)) [.ptr 2000 0, tv l[i]] (KP L S (Ds (i + 1))) (.p (.bool (q l[i])))) :
    PM (cx true) 64 (KP L S (Ds 0)) [.ptr 2000 0, lv l] (KP L S (Ds (stopT q l))) (.p (.bool (l.all q))) := by
  refine PM_of_vc (cx_ok true) (mixed true) { own := fun q => Nat.beq q 100015 } Tryd.func64 (by kernel_rfl) rfl rfl (by kernel_rfl) rfl ?_
  repeat (conv => whnf); first | refine IndepAnd (by kernel_rfl) ?_ | refine TreeAnd (by kernel_rfl) ?_ | refine ⟨rfl, ?_⟩ | refine ⟨by decide, ?_⟩ | refine ⟨trivial, ?_⟩ | refine ⟨⟨rfl, trivial⟩, ?_⟩ | refine ⟨Nat.le_of_ble_eq_true rfl, ?_⟩ | refine ⟨⟨_, rfl, rfl⟩, ?_⟩ | refine ⟨⟨rfl, rfl, trivial⟩, ?_⟩ | refine ⟨⟨rfl, rfl, rfl, trivial⟩, ?_⟩ | refine ⟨⟨rfl, rfl, rfl, rfl, trivial⟩, ?_⟩ | refine ⟨⟨rfl, rfl, rfl, rfl, rfl, trivial⟩, ?_⟩
  conv => whnf
  refine ⟨{ i : Nat // i ≤ l.length ∧ ∀ u ∈ l.take i, q u = true }, fun i => Vc.S.of [(0, .ptr 2000 0), (4, .p (.bool false)), (7, lv l), (8, iv ((tmvs l).length : Int)), (9, iv (i.1 : Int))] (KP L S (Ds i.1)), fun i => l.length - i.1, ⟨0, Nat.zero_le _, by simp⟩, ?_, ?_⟩
  · refine Ge.of rfl ?_ ?_
    · repeat (conv => whnf); refine ⟨LE.of rfl, ?_⟩
      trivial
    · repeat (conv => whnf); refine ⟨OLE.of rfl, ?_⟩
      trivial
  rintro ⟨i, hi, hq⟩
  repeat (conv => whnf); first | refine IndepAnd (by kernel_rfl) ?_ | refine TreeAnd (by kernel_rfl) ?_ | refine ⟨rfl, ?_⟩ | refine ⟨by decide, ?_⟩ | refine ⟨trivial, ?_⟩ | refine ⟨⟨rfl, trivial⟩, ?_⟩ | refine ⟨Nat.le_of_ble_eq_true rfl, ?_⟩ | refine ⟨⟨_, rfl, rfl⟩, ?_⟩ | refine ⟨⟨rfl, rfl, trivial⟩, ?_⟩ | refine ⟨⟨rfl, rfl, rfl, trivial⟩, ?_⟩ | refine ⟨⟨rfl, rfl, rfl, rfl, trivial⟩, ?_⟩ | refine ⟨⟨rfl, rfl, rfl, rfl, rfl, trivial⟩, ?_⟩
  conv => whnf
  refine @bool_rec _ _ _ ?_ ?_ <;> intro h1
  · have hlt : i < l.length := by have := of_decide_eq_true h1; rw [tmvs_length] at this; exact Int.ofNat_lt.1 this
    repeat (conv => whnf); first | refine IndepAnd (by kernel_rfl) ?_ | refine TreeAnd (by kernel_rfl) ?_ | refine ⟨rfl, ?_⟩ | refine ⟨by decide, ?_⟩ | refine ⟨trivial, ?_⟩ | refine ⟨⟨rfl, trivial⟩, ?_⟩ | refine ⟨Nat.le_of_ble_eq_true rfl, ?_⟩ | refine ⟨⟨_, rfl, rfl⟩, ?_⟩ | refine ⟨⟨rfl, rfl, trivial⟩, ?_⟩ | refine ⟨⟨rfl, rfl, rfl, trivial⟩, ?_⟩ | refine ⟨⟨rfl, rfl, rfl, rfl, trivial⟩, ?_⟩ | refine ⟨⟨rfl, rfl, rfl, rfl, rfl, trivial⟩, ?_⟩
    conv => whnf
    refine ⟨Int.natCast_nonneg _, TV l[i], tmvs_getN hlt, rfl, rfl, ?_⟩
    repeat (conv => whnf); first | refine IndepAnd (by kernel_rfl) ?_ | refine TreeAnd (by kernel_rfl) ?_ | refine ⟨rfl, ?_⟩ | refine ⟨by decide, ?_⟩ | refine ⟨trivial, ?_⟩ | refine ⟨⟨rfl, trivial⟩, ?_⟩ | refine ⟨Nat.le_of_ble_eq_true rfl, ?_⟩ | refine ⟨⟨_, rfl, rfl⟩, ?_⟩ | refine ⟨⟨rfl, rfl, trivial⟩, ?_⟩ | refine ⟨⟨rfl, rfl, rfl, trivial⟩, ?_⟩ | refine ⟨⟨rfl, rfl, rfl, rfl, trivial⟩, ?_⟩ | refine ⟨⟨rfl, rfl, rfl, rfl, rfl, trivial⟩, ?_⟩
    conv => whnf
    refine ⟨_, MCallVC.pr gid (h i hlt) ⟨LE.of rfl, LE.of rfl, trivial⟩ ⟨.inr (.inl rfl), .inr (.inl rfl), .inr (.inl rfl), .inr (.inl rfl), trivial⟩ rfl, ?_⟩
    repeat (conv => whnf); first | refine IndepAnd (by kernel_rfl) ?_ | refine TreeAnd (by kernel_rfl) ?_ | refine ⟨rfl, ?_⟩ | refine ⟨by decide, ?_⟩ | refine ⟨trivial, ?_⟩ | refine ⟨⟨rfl, trivial⟩, ?_⟩ | refine ⟨Nat.le_of_ble_eq_true rfl, ?_⟩ | refine ⟨⟨_, rfl, rfl⟩, ?_⟩ | refine ⟨⟨rfl, rfl, trivial⟩, ?_⟩ | refine ⟨⟨rfl, rfl, rfl, trivial⟩, ?_⟩ | refine ⟨⟨rfl, rfl, rfl, rfl, trivial⟩, ?_⟩ | refine ⟨⟨rfl, rfl, rfl, rfl, rfl, trivial⟩, ?_⟩
    conv => whnf
    refine @bool_rec _ _ _ ?_ ?_ <;> intro h2
    · have h2 : q l[i] = false := by have h2 : (!q l[i]) = true := h2; revert h2; cases q l[i] <;> simp
      have hstop : stopT q l = i + 1 := by rw [stopT, takeWhile_at hlt hq h2]; omega
      have hall : l.all q = false := by
        rw [← Bool.not_eq_true, List.all_eq_true]
        intro hc
        rw [hc _ (List.getElem_mem hlt)] at h2
        cases h2
      rw [hstop, hall]
      repeat (conv => whnf); first | refine IndepAnd (by kernel_rfl) ?_ | refine TreeAnd (by kernel_rfl) ?_ | refine ⟨rfl, ?_⟩ | refine ⟨by decide, ?_⟩ | refine ⟨trivial, ?_⟩ | refine ⟨⟨rfl, trivial⟩, ?_⟩ | refine ⟨Nat.le_of_ble_eq_true rfl, ?_⟩ | refine ⟨⟨_, rfl, rfl⟩, ?_⟩ | refine ⟨⟨rfl, rfl, trivial⟩, ?_⟩ | refine ⟨⟨rfl, rfl, rfl, trivial⟩, ?_⟩ | refine ⟨⟨rfl, rfl, rfl, rfl, trivial⟩, ?_⟩ | refine ⟨⟨rfl, rfl, rfl, rfl, rfl, trivial⟩, ?_⟩
      conv => whnf
      exact ⟨gid, ⟨rfl, LE.of rfl⟩, ⟨.inr (.inl rfl), .inr (.inl rfl), .inr (.inl rfl), .inr (.inl rfl), trivial⟩, rfl, rfl⟩
    · have h2 : q l[i] = true := by have h2 : (!q l[i]) = false := h2; revert h2; cases q l[i] <;> simp
      repeat (conv => whnf); first | refine IndepAnd (by kernel_rfl) ?_ | refine TreeAnd (by kernel_rfl) ?_ | refine ⟨rfl, ?_⟩ | refine ⟨by decide, ?_⟩ | refine ⟨trivial, ?_⟩ | refine ⟨⟨rfl, trivial⟩, ?_⟩ | refine ⟨Nat.le_of_ble_eq_true rfl, ?_⟩ | refine ⟨⟨_, rfl, rfl⟩, ?_⟩ | refine ⟨⟨rfl, rfl, trivial⟩, ?_⟩ | refine ⟨⟨rfl, rfl, rfl, trivial⟩, ?_⟩ | refine ⟨⟨rfl, rfl, rfl, rfl, trivial⟩, ?_⟩ | refine ⟨⟨rfl, rfl, rfl, rfl, rfl, trivial⟩, ?_⟩
      conv => whnf
      refine ⟨_, wrapN (n := i + 1) rfl (by omega), ?_⟩
      repeat (conv => whnf); first | refine IndepAnd (by kernel_rfl) ?_ | refine TreeAnd (by kernel_rfl) ?_ | refine ⟨rfl, ?_⟩ | refine ⟨by decide, ?_⟩ | refine ⟨trivial, ?_⟩ | refine ⟨⟨rfl, trivial⟩, ?_⟩ | refine ⟨Nat.le_of_ble_eq_true rfl, ?_⟩ | refine ⟨⟨_, rfl, rfl⟩, ?_⟩ | refine ⟨⟨rfl, rfl, trivial⟩, ?_⟩ | refine ⟨⟨rfl, rfl, rfl, trivial⟩, ?_⟩ | refine ⟨⟨rfl, rfl, rfl, rfl, trivial⟩, ?_⟩ | refine ⟨⟨rfl, rfl, rfl, rfl, rfl, trivial⟩, ?_⟩
      conv => whnf
      refine ⟨⟨i + 1, hlt, fun u hu => ?_⟩, ?_, by show l.length - (i + 1) < l.length - i; omega⟩
      · rw [List.take_succ_eq_append_getElem hlt, List.mem_append] at hu
        rcases hu with hu | hu
        · exact hq u hu
        · rw [List.mem_singleton.1 hu]; exact h2
      · refine Ge.of rfl ?_ ?_
        · repeat (conv => whnf); refine ⟨LE.of rfl, ?_⟩
          trivial
        · repeat (conv => whnf); refine ⟨OLE.of rfl, ?_⟩
          trivial
  · have hge : i = l.length := by have h1 := of_decide_eq_false h1; rw [tmvs_length] at h1; have h1 : ¬ (i : Int) < (l.length : Int) := h1; omega
    have hq : ∀ u ∈ l, q u = true := fun u hu => hq u (by show u ∈ l.take i; rw [hge, List.take_length]; exact hu)
    have hstop : stopT q l = i := by rw [stopT, takeWhile_all hq]; omega
    have hall : l.all q = true := List.all_eq_true.2 hq
    rw [hstop, hall]
    repeat (conv => whnf); first | refine IndepAnd (by kernel_rfl) ?_ | refine TreeAnd (by kernel_rfl) ?_ | refine ⟨rfl, ?_⟩ | refine ⟨by decide, ?_⟩ | refine ⟨trivial, ?_⟩ | refine ⟨⟨rfl, trivial⟩, ?_⟩ | refine ⟨Nat.le_of_ble_eq_true rfl, ?_⟩ | refine ⟨⟨_, rfl, rfl⟩, ?_⟩ | refine ⟨⟨rfl, rfl, trivial⟩, ?_⟩ | refine ⟨⟨rfl, rfl, rfl, trivial⟩, ?_⟩ | refine ⟨⟨rfl, rfl, rfl, rfl, trivial⟩, ?_⟩ | refine ⟨⟨rfl, rfl, rfl, rfl, rfl, trivial⟩, ?_⟩
    conv => whnf
    exact ⟨gid, ⟨rfl, LE.of rfl⟩, ⟨.inr (.inl rfl), .inr (.inl rfl), .inr (.inl rfl), .inr (.inl rfl), trivial⟩, rfl, rfl⟩
end Go.Sl
