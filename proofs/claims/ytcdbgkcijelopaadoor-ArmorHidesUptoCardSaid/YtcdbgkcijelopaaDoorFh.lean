/- Contracts: armor opened. -/
import Derived.Test.YtcdbgkcijelopaaDoorFg
set_option linter.unusedVariables false
namespace Go.Sl
open Go Go.Vc Go.Proofs Go.RowKit Go.Sort Go.Lib

/-- The element at a place. -/
abbrev at_ (l : List Tm) (i : Nat) : Tm := l.getD i zeroT
theorem tmvs_at {l : List Tm} {i : Nat} (h : i < l.length) : (tmvs l)[i]? = some (TV (at_ l i)) := by
  rw [tmvs_get h]
  simp [at_, h]
theorem unpackT_len {tag : Bs} {n : Nat} {t : Tm} {l : List Tm} (h : unpackT tag n t = some l) : l.length = n := by
  unfold unpackT at h
  split at h
  · cases h
    rename_i h
    simp [h.2.2]
  · cases h
theorem sealedT_len {k : Tm} {n : Int} {t : Tm} {tag : Bs} {m : Nat} (h : (sealedT k n t tag m).2 = 0) : (sealedT k n t tag m).1.length = m := by
  unfold sealedT at h ⊢
  split at h
  · exact absurd h (by assumption)
  · rename_i h2
    rw [if_neg h2]
    split at h
    · cases h
    · rename_i l e
      exact unpackT_len e
theorem Fit.unpack {tag : Bs} {n : Nat} {t : Tm} {l : List Tm} (hf : Fit t) (h : unpackT tag n t = some l) : ∀ u ∈ l, Fit u := by
  unfold unpackT at h
  split at h
  · cases h
    exact fun u hu => hf.kid (List.mem_of_mem_drop hu)
  · cases h
theorem Fit.sealed {k : Tm} {n : Int} {t : Tm} {tag : Bs} {m : Nat} (hf : Fit t) : ∀ u ∈ (sealedT k n t tag m).1, Fit u := by
  unfold sealedT
  split
  · intro u hu; cases hu
  · split
    · intro u hu; cases hu
    · rename_i l e
      exact hf.unshut.unpack e
theorem Fit.at_ {l : List Tm} (h : ∀ u ∈ l, Fit u) (i : Nat) : Fit (at_ l i) := by
  unfold Sl.at_
  rw [List.getD_eq_getElem?_getD]
  cases e : l[i]? with
  | none => exact Fit.zero
  | some u => exact h u (List.mem_of_getElem? e)
/-- What Open tells. -/
def openT (k t : Tm) : Tm × Int :=
  match unpackT armorW 2 t with
  | none => (zeroT, 2)
  | some l =>
    if (sealedT k 2 (at_ l 0) hostW 1).2 ≠ 0 then (zeroT, (sealedT k 2 (at_ l 0) hostW 1).2) else
    if (sealedT (at_ (sealedT k 2 (at_ l 0) hostW 1).1 0) 11 (at_ l 1) authW 1).2 ≠ 0 then (zeroT, (sealedT (at_ (sealedT k 2 (at_ l 0) hostW 1).1 0) 11 (at_ l 1) authW 1).2) else
    (joinT (at_ (sealedT (at_ (sealedT k 2 (at_ l 0) hostW 1).1 0) 11 (at_ l 1) authW 1).1 0) (at_ (sealedT k 2 (at_ l 0) hostW 1).1 0) subW tickW, 0)
def ansOfT (k : Tm) (n : Bs) (t : Tm) : Tm × Int :=
  if (sealedT k 52 t answerW 2).2 ≠ 0 then (zeroT, (sealedT k 52 t answerW 2).2) else
  if at_ (sealedT k 52 t answerW 2).1 0 ≠ dataT (61 :: n) then (zeroT, 6) else (at_ (sealedT k 52 t answerW 2).1 1, 0)
theorem open_ok (b : Bool) (k t : Tm) (hf : Fit t) : K b 30 [tv k, tv t] (tmR (openT k t)) := by
  have hu := unpack_ok b armorW 2 t (by decide) hf
  unfold openT
  cases e : unpackT armorW 2 t with
  | none =>
    rw [e] at hu
    refine PC_of_vc (cx_ok b) (mixed b) {} Tryd.func30 (by kernel_rfl) rfl rfl (by kernel_rfl) ?_
    repeat (conv => whnf); first | refine IndepAnd (by kernel_rfl) ?_ | refine TreeAnd (by kernel_rfl) ?_ | refine ⟨rfl, ?_⟩ | refine ⟨by decide, ?_⟩ | refine ⟨trivial, ?_⟩ | refine ⟨⟨rfl, trivial⟩, ?_⟩ | refine ⟨Nat.le_of_ble_eq_true rfl, ?_⟩ | refine ⟨⟨_, rfl, rfl⟩, ?_⟩ | refine ⟨⟨rfl, rfl, trivial⟩, ?_⟩ | refine ⟨⟨rfl, rfl, rfl, trivial⟩, ?_⟩ | refine ⟨⟨rfl, rfl, rfl, rfl, trivial⟩, ?_⟩ | refine ⟨⟨rfl, rfl, rfl, rfl, rfl, trivial⟩, ?_⟩
    conv => whnf
    refine ⟨_, CallVC.pr hu rfl rfl, ?_⟩
    repeat (conv => whnf); first | refine IndepAnd (by kernel_rfl) ?_ | refine TreeAnd (by kernel_rfl) ?_ | refine ⟨rfl, ?_⟩ | refine ⟨by decide, ?_⟩ | refine ⟨trivial, ?_⟩ | refine ⟨⟨rfl, trivial⟩, ?_⟩ | refine ⟨Nat.le_of_ble_eq_true rfl, ?_⟩ | refine ⟨⟨_, rfl, rfl⟩, ?_⟩ | refine ⟨⟨rfl, rfl, trivial⟩, ?_⟩ | refine ⟨⟨rfl, rfl, rfl, trivial⟩, ?_⟩ | refine ⟨⟨rfl, rfl, rfl, rfl, trivial⟩, ?_⟩ | refine ⟨⟨rfl, rfl, rfl, rfl, rfl, trivial⟩, ?_⟩
    conv => whnf
    exact ⟨LE_leaf 0 [], LEP.refl _, trivial⟩
  | some l =>
    rw [e] at hu
    have hl := unpackT_len e
    have hfl := hf.unpack e
    have hs1 := sealed_ok b k (at_ l 0) 2 hostW 1 (by decide) (by decide) (by decide) (Fit.at_ hfl 0)
    have hc1 : (sealedT k 2 (at_ l 0) hostW 1).2 = 0 → (sealedT k 2 (at_ l 0) hostW 1).1.length = 1 := sealedT_len
    show K b _ _ (tmR (if (sealedT k 2 (at_ l 0) hostW 1).2 ≠ 0 then _ else _))
    revert hs1 hc1
    generalize sealedT k 2 (at_ l 0) hostW 1 = y
    obtain ⟨m, c⟩ := y
    intro hs1 hc1
    have hs2 := sealed_ok b (at_ m 0) (at_ l 1) 11 authW 1 (by decide) (by decide) (by decide) (Fit.at_ hfl 1)
    have hc2 : (sealedT (at_ m 0) 11 (at_ l 1) authW 1).2 = 0 → (sealedT (at_ m 0) 11 (at_ l 1) authW 1).1.length = 1 := sealedT_len
    revert hs2 hc2
    show _ → _ → K b _ _ (tmR (if c ≠ 0 then (zeroT, c) else if (sealedT (at_ m 0) 11 (at_ l 1) authW 1).2 ≠ 0 then (zeroT, (sealedT (at_ m 0) 11 (at_ l 1) authW 1).2) else (joinT (at_ (sealedT (at_ m 0) 11 (at_ l 1) authW 1).1 0) (at_ m 0) subW tickW, 0)))
    generalize sealedT (at_ m 0) 11 (at_ l 1) authW 1 = z
    obtain ⟨m', c'⟩ := z
    intro hs2 hc2
    refine PC_of_vc (cx_ok b) (mixed b) {} Tryd.func30 (by kernel_rfl) rfl rfl (by kernel_rfl) ?_
    repeat (conv => whnf); first | refine IndepAnd (by kernel_rfl) ?_ | refine TreeAnd (by kernel_rfl) ?_ | refine ⟨rfl, ?_⟩ | refine ⟨by decide, ?_⟩ | refine ⟨trivial, ?_⟩ | refine ⟨⟨rfl, trivial⟩, ?_⟩ | refine ⟨Nat.le_of_ble_eq_true rfl, ?_⟩ | refine ⟨⟨_, rfl, rfl⟩, ?_⟩ | refine ⟨⟨rfl, rfl, trivial⟩, ?_⟩ | refine ⟨⟨rfl, rfl, rfl, trivial⟩, ?_⟩ | refine ⟨⟨rfl, rfl, rfl, rfl, trivial⟩, ?_⟩ | refine ⟨⟨rfl, rfl, rfl, rfl, rfl, trivial⟩, ?_⟩
    conv => whnf
    refine ⟨_, CallVC.pr hu rfl rfl, ?_⟩
    repeat (conv => whnf); first | refine IndepAnd (by kernel_rfl) ?_ | refine TreeAnd (by kernel_rfl) ?_ | refine ⟨rfl, ?_⟩ | refine ⟨by decide, ?_⟩ | refine ⟨trivial, ?_⟩ | refine ⟨⟨rfl, trivial⟩, ?_⟩ | refine ⟨Nat.le_of_ble_eq_true rfl, ?_⟩ | refine ⟨⟨_, rfl, rfl⟩, ?_⟩ | refine ⟨⟨rfl, rfl, trivial⟩, ?_⟩ | refine ⟨⟨rfl, rfl, rfl, trivial⟩, ?_⟩ | refine ⟨⟨rfl, rfl, rfl, rfl, trivial⟩, ?_⟩ | refine ⟨⟨rfl, rfl, rfl, rfl, rfl, trivial⟩, ?_⟩
    conv => whnf
    refine ⟨_, tmvs_at (l := l) (i := 0) (by omega), rfl, rfl, ?_⟩
    repeat (conv => whnf); first | refine IndepAnd (by kernel_rfl) ?_ | refine TreeAnd (by kernel_rfl) ?_ | refine ⟨rfl, ?_⟩ | refine ⟨by decide, ?_⟩ | refine ⟨trivial, ?_⟩ | refine ⟨⟨rfl, trivial⟩, ?_⟩ | refine ⟨Nat.le_of_ble_eq_true rfl, ?_⟩ | refine ⟨⟨_, rfl, rfl⟩, ?_⟩ | refine ⟨⟨rfl, rfl, trivial⟩, ?_⟩ | refine ⟨⟨rfl, rfl, rfl, trivial⟩, ?_⟩ | refine ⟨⟨rfl, rfl, rfl, rfl, trivial⟩, ?_⟩ | refine ⟨⟨rfl, rfl, rfl, rfl, rfl, trivial⟩, ?_⟩
    conv => whnf
    refine ⟨_, CallVC.pr hs1 rfl rfl, ?_⟩
    repeat (conv => whnf); first | refine IndepAnd (by kernel_rfl) ?_ | refine TreeAnd (by kernel_rfl) ?_ | refine ⟨rfl, ?_⟩ | refine ⟨by decide, ?_⟩ | refine ⟨trivial, ?_⟩ | refine ⟨⟨rfl, trivial⟩, ?_⟩ | refine ⟨Nat.le_of_ble_eq_true rfl, ?_⟩ | refine ⟨⟨_, rfl, rfl⟩, ?_⟩ | refine ⟨⟨rfl, rfl, trivial⟩, ?_⟩ | refine ⟨⟨rfl, rfl, rfl, trivial⟩, ?_⟩ | refine ⟨⟨rfl, rfl, rfl, rfl, trivial⟩, ?_⟩ | refine ⟨⟨rfl, rfl, rfl, rfl, rfl, trivial⟩, ?_⟩
    conv => whnf
    refine @bool_rec _ _ _ ?_ ?_ <;> intro h1
    · have h1 : c ≠ 0 := of_decide_eq_true h1
      rw [if_pos h1]
      repeat (conv => whnf); first | refine IndepAnd (by kernel_rfl) ?_ | refine TreeAnd (by kernel_rfl) ?_ | refine ⟨rfl, ?_⟩ | refine ⟨by decide, ?_⟩ | refine ⟨trivial, ?_⟩ | refine ⟨⟨rfl, trivial⟩, ?_⟩ | refine ⟨Nat.le_of_ble_eq_true rfl, ?_⟩ | refine ⟨⟨_, rfl, rfl⟩, ?_⟩ | refine ⟨⟨rfl, rfl, trivial⟩, ?_⟩ | refine ⟨⟨rfl, rfl, rfl, trivial⟩, ?_⟩ | refine ⟨⟨rfl, rfl, rfl, rfl, trivial⟩, ?_⟩ | refine ⟨⟨rfl, rfl, rfl, rfl, rfl, trivial⟩, ?_⟩
      conv => whnf
      exact ⟨LE_leaf 0 [], LEP.refl _, trivial⟩
    · have h1 : c = 0 := by simpa using h1
      subst h1
      have hm : m.length = 1 := hc1 rfl
      repeat (conv => whnf); first | refine IndepAnd (by kernel_rfl) ?_ | refine TreeAnd (by kernel_rfl) ?_ | refine ⟨rfl, ?_⟩ | refine ⟨by decide, ?_⟩ | refine ⟨trivial, ?_⟩ | refine ⟨⟨rfl, trivial⟩, ?_⟩ | refine ⟨Nat.le_of_ble_eq_true rfl, ?_⟩ | refine ⟨⟨_, rfl, rfl⟩, ?_⟩ | refine ⟨⟨rfl, rfl, trivial⟩, ?_⟩ | refine ⟨⟨rfl, rfl, rfl, trivial⟩, ?_⟩ | refine ⟨⟨rfl, rfl, rfl, rfl, trivial⟩, ?_⟩ | refine ⟨⟨rfl, rfl, rfl, rfl, rfl, trivial⟩, ?_⟩
      conv => whnf
      refine ⟨_, tmvs_at (i := 0) (by omega), rfl, rfl, ?_⟩
      repeat (conv => whnf); first | refine IndepAnd (by kernel_rfl) ?_ | refine TreeAnd (by kernel_rfl) ?_ | refine ⟨rfl, ?_⟩ | refine ⟨by decide, ?_⟩ | refine ⟨trivial, ?_⟩ | refine ⟨⟨rfl, trivial⟩, ?_⟩ | refine ⟨Nat.le_of_ble_eq_true rfl, ?_⟩ | refine ⟨⟨_, rfl, rfl⟩, ?_⟩ | refine ⟨⟨rfl, rfl, trivial⟩, ?_⟩ | refine ⟨⟨rfl, rfl, rfl, trivial⟩, ?_⟩ | refine ⟨⟨rfl, rfl, rfl, rfl, trivial⟩, ?_⟩ | refine ⟨⟨rfl, rfl, rfl, rfl, rfl, trivial⟩, ?_⟩
      conv => whnf
      refine ⟨_, tmvs_at (l := l) (i := 1) (by omega), rfl, rfl, ?_⟩
      repeat (conv => whnf); first | refine IndepAnd (by kernel_rfl) ?_ | refine TreeAnd (by kernel_rfl) ?_ | refine ⟨rfl, ?_⟩ | refine ⟨by decide, ?_⟩ | refine ⟨trivial, ?_⟩ | refine ⟨⟨rfl, trivial⟩, ?_⟩ | refine ⟨Nat.le_of_ble_eq_true rfl, ?_⟩ | refine ⟨⟨_, rfl, rfl⟩, ?_⟩ | refine ⟨⟨rfl, rfl, trivial⟩, ?_⟩ | refine ⟨⟨rfl, rfl, rfl, trivial⟩, ?_⟩ | refine ⟨⟨rfl, rfl, rfl, rfl, trivial⟩, ?_⟩ | refine ⟨⟨rfl, rfl, rfl, rfl, rfl, trivial⟩, ?_⟩
      conv => whnf
      refine ⟨_, CallVC.pr hs2 rfl rfl, ?_⟩
      repeat (conv => whnf); first | refine IndepAnd (by kernel_rfl) ?_ | refine TreeAnd (by kernel_rfl) ?_ | refine ⟨rfl, ?_⟩ | refine ⟨by decide, ?_⟩ | refine ⟨trivial, ?_⟩ | refine ⟨⟨rfl, trivial⟩, ?_⟩ | refine ⟨Nat.le_of_ble_eq_true rfl, ?_⟩ | refine ⟨⟨_, rfl, rfl⟩, ?_⟩ | refine ⟨⟨rfl, rfl, trivial⟩, ?_⟩ | refine ⟨⟨rfl, rfl, rfl, trivial⟩, ?_⟩ | refine ⟨⟨rfl, rfl, rfl, rfl, trivial⟩, ?_⟩ | refine ⟨⟨rfl, rfl, rfl, rfl, rfl, trivial⟩, ?_⟩
      conv => whnf
      refine @bool_rec _ _ _ ?_ ?_ <;> intro h2
      · have h2 : c' ≠ 0 := of_decide_eq_true h2
        rw [if_neg (by simp), if_pos h2]
        repeat (conv => whnf); first | refine IndepAnd (by kernel_rfl) ?_ | refine TreeAnd (by kernel_rfl) ?_ | refine ⟨rfl, ?_⟩ | refine ⟨by decide, ?_⟩ | refine ⟨trivial, ?_⟩ | refine ⟨⟨rfl, trivial⟩, ?_⟩ | refine ⟨Nat.le_of_ble_eq_true rfl, ?_⟩ | refine ⟨⟨_, rfl, rfl⟩, ?_⟩ | refine ⟨⟨rfl, rfl, trivial⟩, ?_⟩ | refine ⟨⟨rfl, rfl, rfl, trivial⟩, ?_⟩ | refine ⟨⟨rfl, rfl, rfl, rfl, trivial⟩, ?_⟩ | refine ⟨⟨rfl, rfl, rfl, rfl, rfl, trivial⟩, ?_⟩
        conv => whnf
        exact ⟨LE_leaf 0 [], LEP.refl _, trivial⟩
      · have h2 : c' = 0 := by simpa using h2
        subst h2
        have hm' : m'.length = 1 := hc2 rfl
        rw [if_neg (by simp), if_neg (by simp)]
        repeat (conv => whnf); first | refine IndepAnd (by kernel_rfl) ?_ | refine TreeAnd (by kernel_rfl) ?_ | refine ⟨rfl, ?_⟩ | refine ⟨by decide, ?_⟩ | refine ⟨trivial, ?_⟩ | refine ⟨⟨rfl, trivial⟩, ?_⟩ | refine ⟨Nat.le_of_ble_eq_true rfl, ?_⟩ | refine ⟨⟨_, rfl, rfl⟩, ?_⟩ | refine ⟨⟨rfl, rfl, trivial⟩, ?_⟩ | refine ⟨⟨rfl, rfl, rfl, trivial⟩, ?_⟩ | refine ⟨⟨rfl, rfl, rfl, rfl, trivial⟩, ?_⟩ | refine ⟨⟨rfl, rfl, rfl, rfl, rfl, trivial⟩, ?_⟩
        conv => whnf
        refine ⟨_, tmvs_at (i := 0) (by omega), rfl, rfl, ?_⟩
        repeat (conv => whnf); first | refine IndepAnd (by kernel_rfl) ?_ | refine TreeAnd (by kernel_rfl) ?_ | refine ⟨rfl, ?_⟩ | refine ⟨by decide, ?_⟩ | refine ⟨trivial, ?_⟩ | refine ⟨⟨rfl, trivial⟩, ?_⟩ | refine ⟨Nat.le_of_ble_eq_true rfl, ?_⟩ | refine ⟨⟨_, rfl, rfl⟩, ?_⟩ | refine ⟨⟨rfl, rfl, trivial⟩, ?_⟩ | refine ⟨⟨rfl, rfl, rfl, trivial⟩, ?_⟩ | refine ⟨⟨rfl, rfl, rfl, rfl, trivial⟩, ?_⟩ | refine ⟨⟨rfl, rfl, rfl, rfl, rfl, trivial⟩, ?_⟩
        conv => whnf
        refine ⟨_, tmvs_at (i := 0) (by omega), rfl, rfl, ?_⟩
        repeat (conv => whnf); first | refine IndepAnd (by kernel_rfl) ?_ | refine TreeAnd (by kernel_rfl) ?_ | refine ⟨rfl, ?_⟩ | refine ⟨by decide, ?_⟩ | refine ⟨trivial, ?_⟩ | refine ⟨⟨rfl, trivial⟩, ?_⟩ | refine ⟨Nat.le_of_ble_eq_true rfl, ?_⟩ | refine ⟨⟨_, rfl, rfl⟩, ?_⟩ | refine ⟨⟨rfl, rfl, trivial⟩, ?_⟩ | refine ⟨⟨rfl, rfl, rfl, trivial⟩, ?_⟩ | refine ⟨⟨rfl, rfl, rfl, rfl, trivial⟩, ?_⟩ | refine ⟨⟨rfl, rfl, rfl, rfl, rfl, trivial⟩, ?_⟩
        conv => whnf
        refine ⟨_, CallVC.pr (armor_ok b (at_ m' 0) (at_ m 0)) rfl rfl, ?_⟩
        repeat (conv => whnf); first | refine IndepAnd (by kernel_rfl) ?_ | refine TreeAnd (by kernel_rfl) ?_ | refine ⟨rfl, ?_⟩ | refine ⟨by decide, ?_⟩ | refine ⟨trivial, ?_⟩ | refine ⟨⟨rfl, trivial⟩, ?_⟩ | refine ⟨Nat.le_of_ble_eq_true rfl, ?_⟩ | refine ⟨⟨_, rfl, rfl⟩, ?_⟩ | refine ⟨⟨rfl, rfl, trivial⟩, ?_⟩ | refine ⟨⟨rfl, rfl, rfl, trivial⟩, ?_⟩ | refine ⟨⟨rfl, rfl, rfl, rfl, trivial⟩, ?_⟩ | refine ⟨⟨rfl, rfl, rfl, rfl, rfl, trivial⟩, ?_⟩
        conv => whnf
        exact ⟨LEP.refl _, LEP.refl _, trivial⟩
theorem open16_ok (b : Bool) (k t : Tm) (hf : Fit t) : K b 31 [tv k, tv t] (tmR (openT k t)) := by
  have hu := unpack15_ok b armorW 2 t (by decide) hf
  unfold openT
  cases e : unpackT armorW 2 t with
  | none =>
    rw [e] at hu
    refine PC_of_vc (cx_ok b) (mixed b) {} Tryd.func31 (by kernel_rfl) rfl rfl (by kernel_rfl) ?_
    repeat (conv => whnf); first | refine IndepAnd (by kernel_rfl) ?_ | refine TreeAnd (by kernel_rfl) ?_ | refine ⟨rfl, ?_⟩ | refine ⟨by decide, ?_⟩ | refine ⟨trivial, ?_⟩ | refine ⟨⟨rfl, trivial⟩, ?_⟩ | refine ⟨Nat.le_of_ble_eq_true rfl, ?_⟩ | refine ⟨⟨_, rfl, rfl⟩, ?_⟩ | refine ⟨⟨rfl, rfl, trivial⟩, ?_⟩ | refine ⟨⟨rfl, rfl, rfl, trivial⟩, ?_⟩ | refine ⟨⟨rfl, rfl, rfl, rfl, trivial⟩, ?_⟩ | refine ⟨⟨rfl, rfl, rfl, rfl, rfl, trivial⟩, ?_⟩
    conv => whnf
    refine ⟨_, CallVC.pr hu rfl rfl, ?_⟩
    repeat (conv => whnf); first | refine IndepAnd (by kernel_rfl) ?_ | refine TreeAnd (by kernel_rfl) ?_ | refine ⟨rfl, ?_⟩ | refine ⟨by decide, ?_⟩ | refine ⟨trivial, ?_⟩ | refine ⟨⟨rfl, trivial⟩, ?_⟩ | refine ⟨Nat.le_of_ble_eq_true rfl, ?_⟩ | refine ⟨⟨_, rfl, rfl⟩, ?_⟩ | refine ⟨⟨rfl, rfl, trivial⟩, ?_⟩ | refine ⟨⟨rfl, rfl, rfl, trivial⟩, ?_⟩ | refine ⟨⟨rfl, rfl, rfl, rfl, trivial⟩, ?_⟩ | refine ⟨⟨rfl, rfl, rfl, rfl, rfl, trivial⟩, ?_⟩
    conv => whnf
    exact ⟨LE_leaf 0 [], LEP.refl _, trivial⟩
  | some l =>
    rw [e] at hu
    have hl := unpackT_len e
    have hfl := hf.unpack e
    have hs1 := one_ok b k (at_ l 0) 2 hostW 1 (by decide) (by decide) (by decide) (Fit.at_ hfl 0)
    have hc1 : (sealedT k 2 (at_ l 0) hostW 1).2 = 0 → (sealedT k 2 (at_ l 0) hostW 1).1.length = 1 := sealedT_len
    show K b _ _ (tmR (if (sealedT k 2 (at_ l 0) hostW 1).2 ≠ 0 then _ else _))
    revert hs1 hc1
    generalize sealedT k 2 (at_ l 0) hostW 1 = y
    obtain ⟨m, c⟩ := y
    intro hs1 hc1
    have hs2 := one_ok b (at_ m 0) (at_ l 1) 11 authW 1 (by decide) (by decide) (by decide) (Fit.at_ hfl 1)
    have hc2 : (sealedT (at_ m 0) 11 (at_ l 1) authW 1).2 = 0 → (sealedT (at_ m 0) 11 (at_ l 1) authW 1).1.length = 1 := sealedT_len
    revert hs2 hc2
    show _ → _ → K b _ _ (tmR (if c ≠ 0 then (zeroT, c) else if (sealedT (at_ m 0) 11 (at_ l 1) authW 1).2 ≠ 0 then (zeroT, (sealedT (at_ m 0) 11 (at_ l 1) authW 1).2) else (joinT (at_ (sealedT (at_ m 0) 11 (at_ l 1) authW 1).1 0) (at_ m 0) subW tickW, 0)))
    generalize sealedT (at_ m 0) 11 (at_ l 1) authW 1 = z
    obtain ⟨m', c'⟩ := z
    intro hs2 hc2
    refine PC_of_vc (cx_ok b) (mixed b) {} Tryd.func31 (by kernel_rfl) rfl rfl (by kernel_rfl) ?_
    repeat (conv => whnf); first | refine IndepAnd (by kernel_rfl) ?_ | refine TreeAnd (by kernel_rfl) ?_ | refine ⟨rfl, ?_⟩ | refine ⟨by decide, ?_⟩ | refine ⟨trivial, ?_⟩ | refine ⟨⟨rfl, trivial⟩, ?_⟩ | refine ⟨Nat.le_of_ble_eq_true rfl, ?_⟩ | refine ⟨⟨_, rfl, rfl⟩, ?_⟩ | refine ⟨⟨rfl, rfl, trivial⟩, ?_⟩ | refine ⟨⟨rfl, rfl, rfl, trivial⟩, ?_⟩ | refine ⟨⟨rfl, rfl, rfl, rfl, trivial⟩, ?_⟩ | refine ⟨⟨rfl, rfl, rfl, rfl, rfl, trivial⟩, ?_⟩
    conv => whnf
    refine ⟨_, CallVC.pr hu rfl rfl, ?_⟩
    repeat (conv => whnf); first | refine IndepAnd (by kernel_rfl) ?_ | refine TreeAnd (by kernel_rfl) ?_ | refine ⟨rfl, ?_⟩ | refine ⟨by decide, ?_⟩ | refine ⟨trivial, ?_⟩ | refine ⟨⟨rfl, trivial⟩, ?_⟩ | refine ⟨Nat.le_of_ble_eq_true rfl, ?_⟩ | refine ⟨⟨_, rfl, rfl⟩, ?_⟩ | refine ⟨⟨rfl, rfl, trivial⟩, ?_⟩ | refine ⟨⟨rfl, rfl, rfl, trivial⟩, ?_⟩ | refine ⟨⟨rfl, rfl, rfl, rfl, trivial⟩, ?_⟩ | refine ⟨⟨rfl, rfl, rfl, rfl, rfl, trivial⟩, ?_⟩
    conv => whnf
    refine ⟨_, tmvs_at (l := l) (i := 0) (by omega), rfl, rfl, ?_⟩
    repeat (conv => whnf); first | refine IndepAnd (by kernel_rfl) ?_ | refine TreeAnd (by kernel_rfl) ?_ | refine ⟨rfl, ?_⟩ | refine ⟨by decide, ?_⟩ | refine ⟨trivial, ?_⟩ | refine ⟨⟨rfl, trivial⟩, ?_⟩ | refine ⟨Nat.le_of_ble_eq_true rfl, ?_⟩ | refine ⟨⟨_, rfl, rfl⟩, ?_⟩ | refine ⟨⟨rfl, rfl, trivial⟩, ?_⟩ | refine ⟨⟨rfl, rfl, rfl, trivial⟩, ?_⟩ | refine ⟨⟨rfl, rfl, rfl, rfl, trivial⟩, ?_⟩ | refine ⟨⟨rfl, rfl, rfl, rfl, rfl, trivial⟩, ?_⟩
    conv => whnf
    refine ⟨_, CallVC.pr hs1 rfl rfl, ?_⟩
    repeat (conv => whnf); first | refine IndepAnd (by kernel_rfl) ?_ | refine TreeAnd (by kernel_rfl) ?_ | refine ⟨rfl, ?_⟩ | refine ⟨by decide, ?_⟩ | refine ⟨trivial, ?_⟩ | refine ⟨⟨rfl, trivial⟩, ?_⟩ | refine ⟨Nat.le_of_ble_eq_true rfl, ?_⟩ | refine ⟨⟨_, rfl, rfl⟩, ?_⟩ | refine ⟨⟨rfl, rfl, trivial⟩, ?_⟩ | refine ⟨⟨rfl, rfl, rfl, trivial⟩, ?_⟩ | refine ⟨⟨rfl, rfl, rfl, rfl, trivial⟩, ?_⟩ | refine ⟨⟨rfl, rfl, rfl, rfl, rfl, trivial⟩, ?_⟩
    conv => whnf
    refine @bool_rec _ _ _ ?_ ?_ <;> intro h1
    · have h1 : c ≠ 0 := of_decide_eq_true h1
      rw [if_pos h1]
      repeat (conv => whnf); first | refine IndepAnd (by kernel_rfl) ?_ | refine TreeAnd (by kernel_rfl) ?_ | refine ⟨rfl, ?_⟩ | refine ⟨by decide, ?_⟩ | refine ⟨trivial, ?_⟩ | refine ⟨⟨rfl, trivial⟩, ?_⟩ | refine ⟨Nat.le_of_ble_eq_true rfl, ?_⟩ | refine ⟨⟨_, rfl, rfl⟩, ?_⟩ | refine ⟨⟨rfl, rfl, trivial⟩, ?_⟩ | refine ⟨⟨rfl, rfl, rfl, trivial⟩, ?_⟩ | refine ⟨⟨rfl, rfl, rfl, rfl, trivial⟩, ?_⟩ | refine ⟨⟨rfl, rfl, rfl, rfl, rfl, trivial⟩, ?_⟩
      conv => whnf
      exact ⟨LE_leaf 0 [], LEP.refl _, trivial⟩
    · have h1 : c = 0 := by simpa using h1
      subst h1
      have hm : m.length = 1 := hc1 rfl
      repeat (conv => whnf); first | refine IndepAnd (by kernel_rfl) ?_ | refine TreeAnd (by kernel_rfl) ?_ | refine ⟨rfl, ?_⟩ | refine ⟨by decide, ?_⟩ | refine ⟨trivial, ?_⟩ | refine ⟨⟨rfl, trivial⟩, ?_⟩ | refine ⟨Nat.le_of_ble_eq_true rfl, ?_⟩ | refine ⟨⟨_, rfl, rfl⟩, ?_⟩ | refine ⟨⟨rfl, rfl, trivial⟩, ?_⟩ | refine ⟨⟨rfl, rfl, rfl, trivial⟩, ?_⟩ | refine ⟨⟨rfl, rfl, rfl, rfl, trivial⟩, ?_⟩ | refine ⟨⟨rfl, rfl, rfl, rfl, rfl, trivial⟩, ?_⟩
      conv => whnf
      refine ⟨_, tmvs_at (i := 0) (by omega), rfl, rfl, ?_⟩
      repeat (conv => whnf); first | refine IndepAnd (by kernel_rfl) ?_ | refine TreeAnd (by kernel_rfl) ?_ | refine ⟨rfl, ?_⟩ | refine ⟨by decide, ?_⟩ | refine ⟨trivial, ?_⟩ | refine ⟨⟨rfl, trivial⟩, ?_⟩ | refine ⟨Nat.le_of_ble_eq_true rfl, ?_⟩ | refine ⟨⟨_, rfl, rfl⟩, ?_⟩ | refine ⟨⟨rfl, rfl, trivial⟩, ?_⟩ | refine ⟨⟨rfl, rfl, rfl, trivial⟩, ?_⟩ | refine ⟨⟨rfl, rfl, rfl, rfl, trivial⟩, ?_⟩ | refine ⟨⟨rfl, rfl, rfl, rfl, rfl, trivial⟩, ?_⟩
      conv => whnf
      refine ⟨_, tmvs_at (l := l) (i := 1) (by omega), rfl, rfl, ?_⟩
      repeat (conv => whnf); first | refine IndepAnd (by kernel_rfl) ?_ | refine TreeAnd (by kernel_rfl) ?_ | refine ⟨rfl, ?_⟩ | refine ⟨by decide, ?_⟩ | refine ⟨trivial, ?_⟩ | refine ⟨⟨rfl, trivial⟩, ?_⟩ | refine ⟨Nat.le_of_ble_eq_true rfl, ?_⟩ | refine ⟨⟨_, rfl, rfl⟩, ?_⟩ | refine ⟨⟨rfl, rfl, trivial⟩, ?_⟩ | refine ⟨⟨rfl, rfl, rfl, trivial⟩, ?_⟩ | refine ⟨⟨rfl, rfl, rfl, rfl, trivial⟩, ?_⟩ | refine ⟨⟨rfl, rfl, rfl, rfl, rfl, trivial⟩, ?_⟩
      conv => whnf
      refine ⟨_, CallVC.pr hs2 rfl rfl, ?_⟩
      repeat (conv => whnf); first | refine IndepAnd (by kernel_rfl) ?_ | refine TreeAnd (by kernel_rfl) ?_ | refine ⟨rfl, ?_⟩ | refine ⟨by decide, ?_⟩ | refine ⟨trivial, ?_⟩ | refine ⟨⟨rfl, trivial⟩, ?_⟩ | refine ⟨Nat.le_of_ble_eq_true rfl, ?_⟩ | refine ⟨⟨_, rfl, rfl⟩, ?_⟩ | refine ⟨⟨rfl, rfl, trivial⟩, ?_⟩ | refine ⟨⟨rfl, rfl, rfl, trivial⟩, ?_⟩ | refine ⟨⟨rfl, rfl, rfl, rfl, trivial⟩, ?_⟩ | refine ⟨⟨rfl, rfl, rfl, rfl, rfl, trivial⟩, ?_⟩
      conv => whnf
      refine @bool_rec _ _ _ ?_ ?_ <;> intro h2
      · have h2 : c' ≠ 0 := of_decide_eq_true h2
        rw [if_neg (by simp), if_pos h2]
        repeat (conv => whnf); first | refine IndepAnd (by kernel_rfl) ?_ | refine TreeAnd (by kernel_rfl) ?_ | refine ⟨rfl, ?_⟩ | refine ⟨by decide, ?_⟩ | refine ⟨trivial, ?_⟩ | refine ⟨⟨rfl, trivial⟩, ?_⟩ | refine ⟨Nat.le_of_ble_eq_true rfl, ?_⟩ | refine ⟨⟨_, rfl, rfl⟩, ?_⟩ | refine ⟨⟨rfl, rfl, trivial⟩, ?_⟩ | refine ⟨⟨rfl, rfl, rfl, trivial⟩, ?_⟩ | refine ⟨⟨rfl, rfl, rfl, rfl, trivial⟩, ?_⟩ | refine ⟨⟨rfl, rfl, rfl, rfl, rfl, trivial⟩, ?_⟩
        conv => whnf
        exact ⟨LE_leaf 0 [], LEP.refl _, trivial⟩
      · have h2 : c' = 0 := by simpa using h2
        subst h2
        have hm' : m'.length = 1 := hc2 rfl
        rw [if_neg (by simp), if_neg (by simp)]
        repeat (conv => whnf); first | refine IndepAnd (by kernel_rfl) ?_ | refine TreeAnd (by kernel_rfl) ?_ | refine ⟨rfl, ?_⟩ | refine ⟨by decide, ?_⟩ | refine ⟨trivial, ?_⟩ | refine ⟨⟨rfl, trivial⟩, ?_⟩ | refine ⟨Nat.le_of_ble_eq_true rfl, ?_⟩ | refine ⟨⟨_, rfl, rfl⟩, ?_⟩ | refine ⟨⟨rfl, rfl, trivial⟩, ?_⟩ | refine ⟨⟨rfl, rfl, rfl, trivial⟩, ?_⟩ | refine ⟨⟨rfl, rfl, rfl, rfl, trivial⟩, ?_⟩ | refine ⟨⟨rfl, rfl, rfl, rfl, rfl, trivial⟩, ?_⟩
        conv => whnf
        refine ⟨_, tmvs_at (i := 0) (by omega), rfl, rfl, ?_⟩
        repeat (conv => whnf); first | refine IndepAnd (by kernel_rfl) ?_ | refine TreeAnd (by kernel_rfl) ?_ | refine ⟨rfl, ?_⟩ | refine ⟨by decide, ?_⟩ | refine ⟨trivial, ?_⟩ | refine ⟨⟨rfl, trivial⟩, ?_⟩ | refine ⟨Nat.le_of_ble_eq_true rfl, ?_⟩ | refine ⟨⟨_, rfl, rfl⟩, ?_⟩ | refine ⟨⟨rfl, rfl, trivial⟩, ?_⟩ | refine ⟨⟨rfl, rfl, rfl, trivial⟩, ?_⟩ | refine ⟨⟨rfl, rfl, rfl, rfl, trivial⟩, ?_⟩ | refine ⟨⟨rfl, rfl, rfl, rfl, rfl, trivial⟩, ?_⟩
        conv => whnf
        refine ⟨_, tmvs_at (i := 0) (by omega), rfl, rfl, ?_⟩
        repeat (conv => whnf); first | refine IndepAnd (by kernel_rfl) ?_ | refine TreeAnd (by kernel_rfl) ?_ | refine ⟨rfl, ?_⟩ | refine ⟨by decide, ?_⟩ | refine ⟨trivial, ?_⟩ | refine ⟨⟨rfl, trivial⟩, ?_⟩ | refine ⟨Nat.le_of_ble_eq_true rfl, ?_⟩ | refine ⟨⟨_, rfl, rfl⟩, ?_⟩ | refine ⟨⟨rfl, rfl, trivial⟩, ?_⟩ | refine ⟨⟨rfl, rfl, rfl, trivial⟩, ?_⟩ | refine ⟨⟨rfl, rfl, rfl, rfl, trivial⟩, ?_⟩ | refine ⟨⟨rfl, rfl, rfl, rfl, rfl, trivial⟩, ?_⟩
        conv => whnf
        refine ⟨_, CallVC.pr (armor10_ok b (at_ m' 0) (at_ m 0)) rfl rfl, ?_⟩
        repeat (conv => whnf); first | refine IndepAnd (by kernel_rfl) ?_ | refine TreeAnd (by kernel_rfl) ?_ | refine ⟨rfl, ?_⟩ | refine ⟨by decide, ?_⟩ | refine ⟨trivial, ?_⟩ | refine ⟨⟨rfl, trivial⟩, ?_⟩ | refine ⟨Nat.le_of_ble_eq_true rfl, ?_⟩ | refine ⟨⟨_, rfl, rfl⟩, ?_⟩ | refine ⟨⟨rfl, rfl, trivial⟩, ?_⟩ | refine ⟨⟨rfl, rfl, rfl, trivial⟩, ?_⟩ | refine ⟨⟨rfl, rfl, rfl, rfl, trivial⟩, ?_⟩ | refine ⟨⟨rfl, rfl, rfl, rfl, rfl, trivial⟩, ?_⟩
        conv => whnf
        exact ⟨LEP.refl _, LEP.refl _, trivial⟩
theorem ansof_ok (b : Bool) (k t : Tm) (n : Bs) (hn : n.length ≤ 9223372036854775800) (hf : Fit t) : K b 34 [tv k, sv n, tv t] (tmR (ansOfT k n t)) := by
  have hs := sealed_ok b k t 52 answerW 2 (by decide) (by decide) (by decide) hf
  have hfl : ∀ u ∈ (sealedT k 52 t answerW 2).1, Fit u := hf.sealed
  have hc : (sealedT k 52 t answerW 2).2 = 0 → (sealedT k 52 t answerW 2).1.length = 2 := sealedT_len
  unfold ansOfT
  revert hs hc hfl
  generalize sealedT k 52 t answerW 2 = y
  obtain ⟨m, c⟩ := y
  intro hs hfl hc
  refine PC_of_vc (cx_ok b) (mixed b) {} Tryd.func34 (by kernel_rfl) rfl rfl (by kernel_rfl) ?_
  repeat (conv => whnf); first | refine IndepAnd (by kernel_rfl) ?_ | refine TreeAnd (by kernel_rfl) ?_ | refine ⟨rfl, ?_⟩ | refine ⟨by decide, ?_⟩ | refine ⟨trivial, ?_⟩ | refine ⟨⟨rfl, trivial⟩, ?_⟩ | refine ⟨Nat.le_of_ble_eq_true rfl, ?_⟩ | refine ⟨⟨_, rfl, rfl⟩, ?_⟩ | refine ⟨⟨rfl, rfl, trivial⟩, ?_⟩ | refine ⟨⟨rfl, rfl, rfl, trivial⟩, ?_⟩ | refine ⟨⟨rfl, rfl, rfl, rfl, trivial⟩, ?_⟩ | refine ⟨⟨rfl, rfl, rfl, rfl, rfl, trivial⟩, ?_⟩
  conv => whnf
  refine ⟨_, CallVC.pr hs rfl rfl, ?_⟩
  repeat (conv => whnf); first | refine IndepAnd (by kernel_rfl) ?_ | refine TreeAnd (by kernel_rfl) ?_ | refine ⟨rfl, ?_⟩ | refine ⟨by decide, ?_⟩ | refine ⟨trivial, ?_⟩ | refine ⟨⟨rfl, trivial⟩, ?_⟩ | refine ⟨Nat.le_of_ble_eq_true rfl, ?_⟩ | refine ⟨⟨_, rfl, rfl⟩, ?_⟩ | refine ⟨⟨rfl, rfl, trivial⟩, ?_⟩ | refine ⟨⟨rfl, rfl, rfl, trivial⟩, ?_⟩ | refine ⟨⟨rfl, rfl, rfl, rfl, trivial⟩, ?_⟩ | refine ⟨⟨rfl, rfl, rfl, rfl, rfl, trivial⟩, ?_⟩
  conv => whnf
  refine @bool_rec _ _ _ ?_ ?_ <;> intro h1
  · have h1 : c ≠ 0 := of_decide_eq_true h1
    rw [if_pos h1]
    repeat (conv => whnf); first | refine IndepAnd (by kernel_rfl) ?_ | refine TreeAnd (by kernel_rfl) ?_ | refine ⟨rfl, ?_⟩ | refine ⟨by decide, ?_⟩ | refine ⟨trivial, ?_⟩ | refine ⟨⟨rfl, trivial⟩, ?_⟩ | refine ⟨Nat.le_of_ble_eq_true rfl, ?_⟩ | refine ⟨⟨_, rfl, rfl⟩, ?_⟩ | refine ⟨⟨rfl, rfl, trivial⟩, ?_⟩ | refine ⟨⟨rfl, rfl, rfl, trivial⟩, ?_⟩ | refine ⟨⟨rfl, rfl, rfl, rfl, trivial⟩, ?_⟩ | refine ⟨⟨rfl, rfl, rfl, rfl, rfl, trivial⟩, ?_⟩
    conv => whnf
    exact ⟨LE_leaf 0 [], LEP.refl _, trivial⟩
  · have h1 : c = 0 := by simpa using h1
    subst h1
    have hm : m.length = 2 := hc rfl
    repeat (conv => whnf); first | refine IndepAnd (by kernel_rfl) ?_ | refine TreeAnd (by kernel_rfl) ?_ | refine ⟨rfl, ?_⟩ | refine ⟨by decide, ?_⟩ | refine ⟨trivial, ?_⟩ | refine ⟨⟨rfl, trivial⟩, ?_⟩ | refine ⟨Nat.le_of_ble_eq_true rfl, ?_⟩ | refine ⟨⟨_, rfl, rfl⟩, ?_⟩ | refine ⟨⟨rfl, rfl, trivial⟩, ?_⟩ | refine ⟨⟨rfl, rfl, rfl, trivial⟩, ?_⟩ | refine ⟨⟨rfl, rfl, rfl, rfl, trivial⟩, ?_⟩ | refine ⟨⟨rfl, rfl, rfl, rfl, rfl, trivial⟩, ?_⟩
    conv => whnf
    refine ⟨_, tmvs_at (i := 0) (by omega), rfl, rfl, ?_⟩
    repeat (conv => whnf); first | refine IndepAnd (by kernel_rfl) ?_ | refine TreeAnd (by kernel_rfl) ?_ | refine ⟨rfl, ?_⟩ | refine ⟨by decide, ?_⟩ | refine ⟨trivial, ?_⟩ | refine ⟨⟨rfl, trivial⟩, ?_⟩ | refine ⟨Nat.le_of_ble_eq_true rfl, ?_⟩ | refine ⟨⟨_, rfl, rfl⟩, ?_⟩ | refine ⟨⟨rfl, rfl, trivial⟩, ?_⟩ | refine ⟨⟨rfl, rfl, rfl, trivial⟩, ?_⟩ | refine ⟨⟨rfl, rfl, rfl, rfl, trivial⟩, ?_⟩ | refine ⟨⟨rfl, rfl, rfl, rfl, rfl, trivial⟩, ?_⟩
    conv => whnf
    refine ⟨_, CallVC.pr (word_ok b n hn) rfl rfl, ?_⟩
    repeat (conv => whnf); first | refine IndepAnd (by kernel_rfl) ?_ | refine TreeAnd (by kernel_rfl) ?_ | refine ⟨rfl, ?_⟩ | refine ⟨by decide, ?_⟩ | refine ⟨trivial, ?_⟩ | refine ⟨⟨rfl, trivial⟩, ?_⟩ | refine ⟨Nat.le_of_ble_eq_true rfl, ?_⟩ | refine ⟨⟨_, rfl, rfl⟩, ?_⟩ | refine ⟨⟨rfl, rfl, trivial⟩, ?_⟩ | refine ⟨⟨rfl, rfl, rfl, trivial⟩, ?_⟩ | refine ⟨⟨rfl, rfl, rfl, rfl, trivial⟩, ?_⟩ | refine ⟨⟨rfl, rfl, rfl, rfl, rfl, trivial⟩, ?_⟩
    conv => whnf
    refine ⟨_, CallVC.pr (same_ok b (at_ m 0) (Fit.at_ hfl 0) _) rfl rfl, ?_⟩
    repeat (conv => whnf); first | refine IndepAnd (by kernel_rfl) ?_ | refine TreeAnd (by kernel_rfl) ?_ | refine ⟨rfl, ?_⟩ | refine ⟨by decide, ?_⟩ | refine ⟨trivial, ?_⟩ | refine ⟨⟨rfl, trivial⟩, ?_⟩ | refine ⟨Nat.le_of_ble_eq_true rfl, ?_⟩ | refine ⟨⟨_, rfl, rfl⟩, ?_⟩ | refine ⟨⟨rfl, rfl, trivial⟩, ?_⟩ | refine ⟨⟨rfl, rfl, rfl, trivial⟩, ?_⟩ | refine ⟨⟨rfl, rfl, rfl, rfl, trivial⟩, ?_⟩ | refine ⟨⟨rfl, rfl, rfl, rfl, rfl, trivial⟩, ?_⟩
    conv => whnf
    refine @bool_rec _ _ _ ?_ ?_ <;> intro h2
    · have h2 : at_ m 0 ≠ dataT (61 :: n) := by simpa using h2
      rw [if_neg (by simp), if_pos h2]
      repeat (conv => whnf); first | refine IndepAnd (by kernel_rfl) ?_ | refine TreeAnd (by kernel_rfl) ?_ | refine ⟨rfl, ?_⟩ | refine ⟨by decide, ?_⟩ | refine ⟨trivial, ?_⟩ | refine ⟨⟨rfl, trivial⟩, ?_⟩ | refine ⟨Nat.le_of_ble_eq_true rfl, ?_⟩ | refine ⟨⟨_, rfl, rfl⟩, ?_⟩ | refine ⟨⟨rfl, rfl, trivial⟩, ?_⟩ | refine ⟨⟨rfl, rfl, rfl, trivial⟩, ?_⟩ | refine ⟨⟨rfl, rfl, rfl, rfl, trivial⟩, ?_⟩ | refine ⟨⟨rfl, rfl, rfl, rfl, rfl, trivial⟩, ?_⟩
      conv => whnf
      exact ⟨LE_leaf 0 [], LEP.refl _, trivial⟩
    · have h2 : at_ m 0 = dataT (61 :: n) := by simpa using h2
      rw [if_neg (by simp), if_neg (by simpa using h2)]
      repeat (conv => whnf); first | refine IndepAnd (by kernel_rfl) ?_ | refine TreeAnd (by kernel_rfl) ?_ | refine ⟨rfl, ?_⟩ | refine ⟨by decide, ?_⟩ | refine ⟨trivial, ?_⟩ | refine ⟨⟨rfl, trivial⟩, ?_⟩ | refine ⟨Nat.le_of_ble_eq_true rfl, ?_⟩ | refine ⟨⟨_, rfl, rfl⟩, ?_⟩ | refine ⟨⟨rfl, rfl, trivial⟩, ?_⟩ | refine ⟨⟨rfl, rfl, rfl, trivial⟩, ?_⟩ | refine ⟨⟨rfl, rfl, rfl, rfl, trivial⟩, ?_⟩ | refine ⟨⟨rfl, rfl, rfl, rfl, rfl, trivial⟩, ?_⟩
      conv => whnf
      refine ⟨_, tmvs_at (i := 1) (by omega), rfl, rfl, ?_⟩
      repeat (conv => whnf); first | refine IndepAnd (by kernel_rfl) ?_ | refine TreeAnd (by kernel_rfl) ?_ | refine ⟨rfl, ?_⟩ | refine ⟨by decide, ?_⟩ | refine ⟨trivial, ?_⟩ | refine ⟨⟨rfl, trivial⟩, ?_⟩ | refine ⟨Nat.le_of_ble_eq_true rfl, ?_⟩ | refine ⟨⟨_, rfl, rfl⟩, ?_⟩ | refine ⟨⟨rfl, rfl, trivial⟩, ?_⟩ | refine ⟨⟨rfl, rfl, rfl, trivial⟩, ?_⟩ | refine ⟨⟨rfl, rfl, rfl, rfl, trivial⟩, ?_⟩ | refine ⟨⟨rfl, rfl, rfl, rfl, rfl, trivial⟩, ?_⟩
      conv => whnf
      exact ⟨LEP.refl _, LEP.refl _, trivial⟩
theorem ansof16_ok (b : Bool) (k t : Tm) (n : Bs) (hn : n.length ≤ 9223372036854775800) (hf : Fit t) : K b 35 [tv k, sv n, tv t] (tmR (ansOfT k n t)) := by
  have hs := one_ok b k t 52 answerW 2 (by decide) (by decide) (by decide) hf
  have hfl : ∀ u ∈ (sealedT k 52 t answerW 2).1, Fit u := hf.sealed
  have hc : (sealedT k 52 t answerW 2).2 = 0 → (sealedT k 52 t answerW 2).1.length = 2 := sealedT_len
  unfold ansOfT
  revert hs hc hfl
  generalize sealedT k 52 t answerW 2 = y
  obtain ⟨m, c⟩ := y
  intro hs hfl hc
  refine PC_of_vc (cx_ok b) (mixed b) {} Tryd.func35 (by kernel_rfl) rfl rfl (by kernel_rfl) ?_
  repeat (conv => whnf); first | refine IndepAnd (by kernel_rfl) ?_ | refine TreeAnd (by kernel_rfl) ?_ | refine ⟨rfl, ?_⟩ | refine ⟨by decide, ?_⟩ | refine ⟨trivial, ?_⟩ | refine ⟨⟨rfl, trivial⟩, ?_⟩ | refine ⟨Nat.le_of_ble_eq_true rfl, ?_⟩ | refine ⟨⟨_, rfl, rfl⟩, ?_⟩ | refine ⟨⟨rfl, rfl, trivial⟩, ?_⟩ | refine ⟨⟨rfl, rfl, rfl, trivial⟩, ?_⟩ | refine ⟨⟨rfl, rfl, rfl, rfl, trivial⟩, ?_⟩ | refine ⟨⟨rfl, rfl, rfl, rfl, rfl, trivial⟩, ?_⟩
  conv => whnf
  refine ⟨_, CallVC.pr hs rfl rfl, ?_⟩
  repeat (conv => whnf); first | refine IndepAnd (by kernel_rfl) ?_ | refine TreeAnd (by kernel_rfl) ?_ | refine ⟨rfl, ?_⟩ | refine ⟨by decide, ?_⟩ | refine ⟨trivial, ?_⟩ | refine ⟨⟨rfl, trivial⟩, ?_⟩ | refine ⟨Nat.le_of_ble_eq_true rfl, ?_⟩ | refine ⟨⟨_, rfl, rfl⟩, ?_⟩ | refine ⟨⟨rfl, rfl, trivial⟩, ?_⟩ | refine ⟨⟨rfl, rfl, rfl, trivial⟩, ?_⟩ | refine ⟨⟨rfl, rfl, rfl, rfl, trivial⟩, ?_⟩ | refine ⟨⟨rfl, rfl, rfl, rfl, rfl, trivial⟩, ?_⟩
  conv => whnf
  refine @bool_rec _ _ _ ?_ ?_ <;> intro h1
  · have h1 : c ≠ 0 := of_decide_eq_true h1
    rw [if_pos h1]
    repeat (conv => whnf); first | refine IndepAnd (by kernel_rfl) ?_ | refine TreeAnd (by kernel_rfl) ?_ | refine ⟨rfl, ?_⟩ | refine ⟨by decide, ?_⟩ | refine ⟨trivial, ?_⟩ | refine ⟨⟨rfl, trivial⟩, ?_⟩ | refine ⟨Nat.le_of_ble_eq_true rfl, ?_⟩ | refine ⟨⟨_, rfl, rfl⟩, ?_⟩ | refine ⟨⟨rfl, rfl, trivial⟩, ?_⟩ | refine ⟨⟨rfl, rfl, rfl, trivial⟩, ?_⟩ | refine ⟨⟨rfl, rfl, rfl, rfl, trivial⟩, ?_⟩ | refine ⟨⟨rfl, rfl, rfl, rfl, rfl, trivial⟩, ?_⟩
    conv => whnf
    exact ⟨LE_leaf 0 [], LEP.refl _, trivial⟩
  · have h1 : c = 0 := by simpa using h1
    subst h1
    have hm : m.length = 2 := hc rfl
    repeat (conv => whnf); first | refine IndepAnd (by kernel_rfl) ?_ | refine TreeAnd (by kernel_rfl) ?_ | refine ⟨rfl, ?_⟩ | refine ⟨by decide, ?_⟩ | refine ⟨trivial, ?_⟩ | refine ⟨⟨rfl, trivial⟩, ?_⟩ | refine ⟨Nat.le_of_ble_eq_true rfl, ?_⟩ | refine ⟨⟨_, rfl, rfl⟩, ?_⟩ | refine ⟨⟨rfl, rfl, trivial⟩, ?_⟩ | refine ⟨⟨rfl, rfl, rfl, trivial⟩, ?_⟩ | refine ⟨⟨rfl, rfl, rfl, rfl, trivial⟩, ?_⟩ | refine ⟨⟨rfl, rfl, rfl, rfl, rfl, trivial⟩, ?_⟩
    conv => whnf
    refine ⟨_, tmvs_at (i := 0) (by omega), rfl, rfl, ?_⟩
    repeat (conv => whnf); first | refine IndepAnd (by kernel_rfl) ?_ | refine TreeAnd (by kernel_rfl) ?_ | refine ⟨rfl, ?_⟩ | refine ⟨by decide, ?_⟩ | refine ⟨trivial, ?_⟩ | refine ⟨⟨rfl, trivial⟩, ?_⟩ | refine ⟨Nat.le_of_ble_eq_true rfl, ?_⟩ | refine ⟨⟨_, rfl, rfl⟩, ?_⟩ | refine ⟨⟨rfl, rfl, trivial⟩, ?_⟩ | refine ⟨⟨rfl, rfl, rfl, trivial⟩, ?_⟩ | refine ⟨⟨rfl, rfl, rfl, rfl, trivial⟩, ?_⟩ | refine ⟨⟨rfl, rfl, rfl, rfl, rfl, trivial⟩, ?_⟩
    conv => whnf
    refine ⟨_, CallVC.pr (word15_ok b n hn) rfl rfl, ?_⟩
    repeat (conv => whnf); first | refine IndepAnd (by kernel_rfl) ?_ | refine TreeAnd (by kernel_rfl) ?_ | refine ⟨rfl, ?_⟩ | refine ⟨by decide, ?_⟩ | refine ⟨trivial, ?_⟩ | refine ⟨⟨rfl, trivial⟩, ?_⟩ | refine ⟨Nat.le_of_ble_eq_true rfl, ?_⟩ | refine ⟨⟨_, rfl, rfl⟩, ?_⟩ | refine ⟨⟨rfl, rfl, trivial⟩, ?_⟩ | refine ⟨⟨rfl, rfl, rfl, trivial⟩, ?_⟩ | refine ⟨⟨rfl, rfl, rfl, rfl, trivial⟩, ?_⟩ | refine ⟨⟨rfl, rfl, rfl, rfl, rfl, trivial⟩, ?_⟩
    conv => whnf
    refine ⟨_, CallVC.pr (same10_ok b (at_ m 0) (Fit.at_ hfl 0) _) rfl rfl, ?_⟩
    repeat (conv => whnf); first | refine IndepAnd (by kernel_rfl) ?_ | refine TreeAnd (by kernel_rfl) ?_ | refine ⟨rfl, ?_⟩ | refine ⟨by decide, ?_⟩ | refine ⟨trivial, ?_⟩ | refine ⟨⟨rfl, trivial⟩, ?_⟩ | refine ⟨Nat.le_of_ble_eq_true rfl, ?_⟩ | refine ⟨⟨_, rfl, rfl⟩, ?_⟩ | refine ⟨⟨rfl, rfl, trivial⟩, ?_⟩ | refine ⟨⟨rfl, rfl, rfl, trivial⟩, ?_⟩ | refine ⟨⟨rfl, rfl, rfl, rfl, trivial⟩, ?_⟩ | refine ⟨⟨rfl, rfl, rfl, rfl, rfl, trivial⟩, ?_⟩
    conv => whnf
    refine @bool_rec _ _ _ ?_ ?_ <;> intro h2
    · have h2 : at_ m 0 ≠ dataT (61 :: n) := by simpa using h2
      rw [if_neg (by simp), if_pos h2]
      repeat (conv => whnf); first | refine IndepAnd (by kernel_rfl) ?_ | refine TreeAnd (by kernel_rfl) ?_ | refine ⟨rfl, ?_⟩ | refine ⟨by decide, ?_⟩ | refine ⟨trivial, ?_⟩ | refine ⟨⟨rfl, trivial⟩, ?_⟩ | refine ⟨Nat.le_of_ble_eq_true rfl, ?_⟩ | refine ⟨⟨_, rfl, rfl⟩, ?_⟩ | refine ⟨⟨rfl, rfl, trivial⟩, ?_⟩ | refine ⟨⟨rfl, rfl, rfl, trivial⟩, ?_⟩ | refine ⟨⟨rfl, rfl, rfl, rfl, trivial⟩, ?_⟩ | refine ⟨⟨rfl, rfl, rfl, rfl, rfl, trivial⟩, ?_⟩
      conv => whnf
      exact ⟨LE_leaf 0 [], LEP.refl _, trivial⟩
    · have h2 : at_ m 0 = dataT (61 :: n) := by simpa using h2
      rw [if_neg (by simp), if_neg (by simpa using h2)]
      repeat (conv => whnf); first | refine IndepAnd (by kernel_rfl) ?_ | refine TreeAnd (by kernel_rfl) ?_ | refine ⟨rfl, ?_⟩ | refine ⟨by decide, ?_⟩ | refine ⟨trivial, ?_⟩ | refine ⟨⟨rfl, trivial⟩, ?_⟩ | refine ⟨Nat.le_of_ble_eq_true rfl, ?_⟩ | refine ⟨⟨_, rfl, rfl⟩, ?_⟩ | refine ⟨⟨rfl, rfl, trivial⟩, ?_⟩ | refine ⟨⟨rfl, rfl, rfl, trivial⟩, ?_⟩ | refine ⟨⟨rfl, rfl, rfl, rfl, trivial⟩, ?_⟩ | refine ⟨⟨rfl, rfl, rfl, rfl, rfl, trivial⟩, ?_⟩
      conv => whnf
      refine ⟨_, tmvs_at (i := 1) (by omega), rfl, rfl, ?_⟩
      repeat (conv => whnf); first | refine IndepAnd (by kernel_rfl) ?_ | refine TreeAnd (by kernel_rfl) ?_ | refine ⟨rfl, ?_⟩ | refine ⟨by decide, ?_⟩ | refine ⟨trivial, ?_⟩ | refine ⟨⟨rfl, trivial⟩, ?_⟩ | refine ⟨Nat.le_of_ble_eq_true rfl, ?_⟩ | refine ⟨⟨_, rfl, rfl⟩, ?_⟩ | refine ⟨⟨rfl, rfl, trivial⟩, ?_⟩ | refine ⟨⟨rfl, rfl, rfl, trivial⟩, ?_⟩ | refine ⟨⟨rfl, rfl, rfl, rfl, trivial⟩, ?_⟩ | refine ⟨⟨rfl, rfl, rfl, rfl, rfl, trivial⟩, ?_⟩
      conv => whnf
      exact ⟨LEP.refl _, LEP.refl _, trivial⟩
end Go.Sl
