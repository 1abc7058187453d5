/- Codes as texts. -/
import Derived.Test.YtmillknfnffenaaDoorBh
set_option linter.unusedVariables false
set_option linter.unusedSimpArgs false
namespace Go.So
open Go Go.Vc Go.Proofs Go.RowKit Go.Sort Go.Lib

theorem below_grow (w : World) (k : Nat) (os : Array Obj) : Below w.heap.size w (grow (w.drewN k) os) := by
  refine ⟨rfl, rfl, rfl, ?_, fun b hb => ?_⟩
  · show w.heap.size ≤ (w.heap ++ os).size
    rw [Array.size_append]
    exact Nat.le_add_right _ _
  · show (w.heap ++ os)[b]? = w.heap[b]?
    rw [Array.getElem?_append_left hb]
theorem itoa_ok (n : Int) (h0 : -9223372036854775808 ≤ n) (h1 : n ≤ 9223372036854775807) : K 28 [iv n] (.pv (.str (Lib.itoa n))) := by
  refine ⟨⟨_, Tryd.func28, rfl, rfl⟩, fun ok β w vs hG hlt hr _ _ _ _ => ?_⟩
  match vs, hr with
  | [v], hr =>
    obtain ⟨hr, _⟩ := hr
    rw [R, RP] at hr
    subst hr
    refine (Tryd.strconv_Itoa n h0 h1 w hG.1.1).mono ?_
    rintro e w' ⟨rfl, k, os, rfl⟩
    exact ⟨_, rfl, by rw [RES, RP], below_grow w k os⟩
theorem repeatL_one (b : UInt8) (k : Nat) : repeatL [b] k = List.replicate k b := by
  induction k with
  | zero => rfl
  | succ k ih => rw [repeatL, ih]; rfl
theorem repeat_ok (k : Nat) (hk : k ≤ 100) : K 29 [sv [48], iv k] (.pv (.str (List.replicate k 48))) := by
  refine ⟨⟨_, Tryd.func29, rfl, rfl⟩, fun ok β w vs hG hlt hr _ _ _ _ => ?_⟩
  match vs, hr with
  | [v, u], hr =>
    obtain ⟨hr, hr2, _⟩ := hr
    rw [R, RP] at hr
    rw [R, RP] at hr2
    subst hr hr2
    by_cases h0 : k = 0
    · subst h0
      refine (Tryd.strings_Repeat_zero _ w).mono ?_
      rintro e w' ⟨rfl, rfl⟩
      exact ⟨_, rfl, by rw [RES, RP]; rfl, Below.refl _ _⟩
    · by_cases h1 : k = 1
      · subst h1
        refine (Tryd.strings_Repeat_one _ w).mono ?_
        rintro e w' ⟨rfl, rfl⟩
        exact ⟨_, rfl, by rw [RES, RP]; rfl, Below.refl _ _⟩
      · refine (Tryd.strings_Repeat_main _ k w (by omega) (by omega) (by show 1 * k ≤ _; omega) (by show 0 < 1; decide)).mono ?_
        rintro e w' ⟨rfl, hb⟩
        refine ⟨_, rfl, ?_, hb⟩
        rw [RES, RP]
        show Value.string ⟨(repeatL [48] k).toArray⟩ = _
        rw [repeatL_one]
/-- The last digits of a number. -/
def digs : Nat → Nat → List UInt8
  | 0, _ => []
  | k + 1, n => UInt8.ofNat (48 + n / 10 ^ k % 10) :: digs k n
theorem digs_len (k n : Nat) : (digs k n).length = k := by
  induction k with
  | zero => rfl
  | succ k ih => rw [digs, List.length_cons, ih]
theorem digs_last (k n : Nat) : digs (k + 1) n = digs k (n / 10) ++ [UInt8.ofNat (48 + n % 10)] := by
  induction k with
  | zero => simp [digs]
  | succ k ih =>
    rw [digs, ih, digs, List.cons_append, Nat.div_div_eq_div_mul, Nat.pow_succ']
theorem dec_step {m : Nat} (h : 10 ≤ m) : decDigits m = decDigits (m / 10) ++ [UInt8.ofNat (48 + m % 10)] := by
  rw [decDigits, dif_neg (by omega)]
theorem digs_dec : ∀ (k n : Nat), n < 10 ^ (k + 1) → (decDigits n).length ≤ k + 1 ∧ List.replicate (k + 1 - (decDigits n).length) 48 ++ decDigits n = digs (k + 1) n
  | 0, n, h => by
    have h : n < 10 := by simpa using h
    rw [decDigits_one h]
    refine ⟨by simp, ?_⟩
    show [UInt8.ofNat (48 + n)] = digs 1 n
    simp only [digs, Nat.pow_zero, Nat.div_one]
    rw [Nat.mod_eq_of_lt h]
  | k + 1, n, h => by
    have h10 : n / 10 < 10 ^ (k + 1) := by
      rw [Nat.pow_succ] at h
      omega
    obtain ⟨i1, i2⟩ := digs_dec k (n / 10) h10
    rw [digs_last]
    by_cases hn : n < 10
    · have e0 : n / 10 = 0 := by omega
      rw [e0] at i1 i2 ⊢
      rw [← i2, decDigits_one hn, decDigits_one (show 0 < 10 by decide)]
      refine ⟨by simp, ?_⟩
      simp only [List.length_singleton, Nat.add_sub_cancel]
      rw [Nat.mod_eq_of_lt hn, List.replicate_succ', show UInt8.ofNat (48 + 0) = 48 from rfl]
    · rw [dec_step (by omega), List.length_append, List.length_singleton, ← i2]
      refine ⟨by omega, ?_⟩
      rw [Nat.add_sub_add_right, List.append_assoc]
def textF (c d : Int) : List UInt8 × Int := if pw d = 0 ∨ c < 0 ∨ pw d ≤ c then ([], 1) else (digs d.toNat c.toNat, 0)
theorem pw_pow {d : Int} (h : pw d ≠ 0) : ∃ k : Nat, d = ((k + 1 : Nat) : Int) ∧ pw d = ((10 ^ (k + 1) : Nat) : Int) ∧ 5 ≤ k ∧ k ≤ 7 := by
  rcases pw_cases d with ⟨rfl, e⟩ | ⟨rfl, e⟩ | ⟨rfl, e⟩ | ⟨_, e⟩
  · exact ⟨5, rfl, by rw [e]; rfl, by decide, by decide⟩
  · exact ⟨6, rfl, by rw [e]; rfl, by decide, by decide⟩
  · exact ⟨7, rfl, by rw [e]; rfl, by decide, by decide⟩
  · exact absurd e h
theorem text_ok (c d : Int) (h0 : -9223372036854775808 ≤ d) (h1 : d ≤ 9223372036854775807) : K 18 [iv c, iv d] (.tup [.str (textF c d).1, ii (textF c d).2]) := by
  refine PC_of_vc cx_ok mixed {} Tryd.func18 (by kernel_rfl) rfl rfl (by kernel_rfl) ?_
  repeat (conv => whnf); first | refine IndepAnd (by kernel_rfl) ?_ | refine TreeAnd (by kernel_rfl) ?_ | refine ⟨rfl, ?_⟩ | refine ⟨by decide, ?_⟩ | refine ⟨trivial, ?_⟩ | refine ⟨⟨rfl, trivial⟩, ?_⟩ | refine ⟨Nat.le_of_ble_eq_true rfl, ?_⟩ | refine ⟨⟨_, rfl, rfl⟩, ?_⟩ | refine ⟨⟨rfl, rfl, trivial⟩, ?_⟩ | refine ⟨⟨rfl, rfl, rfl, trivial⟩, ?_⟩ | refine ⟨⟨rfl, rfl, rfl, rfl, trivial⟩, ?_⟩ | refine ⟨⟨rfl, rfl, rfl, rfl, rfl, trivial⟩, ?_⟩
  conv => whnf
  refine ⟨_, CallVC.pr (powers_ok d h0 h1) rfl rfl, ?_⟩
  repeat (conv => whnf); first | refine IndepAnd (by kernel_rfl) ?_ | refine TreeAnd (by kernel_rfl) ?_ | refine ⟨rfl, ?_⟩ | refine ⟨by decide, ?_⟩ | refine ⟨trivial, ?_⟩ | refine ⟨⟨rfl, trivial⟩, ?_⟩ | refine ⟨Nat.le_of_ble_eq_true rfl, ?_⟩ | refine ⟨⟨_, rfl, rfl⟩, ?_⟩ | refine ⟨⟨rfl, rfl, trivial⟩, ?_⟩ | refine ⟨⟨rfl, rfl, rfl, trivial⟩, ?_⟩ | refine ⟨⟨rfl, rfl, rfl, rfl, trivial⟩, ?_⟩ | refine ⟨⟨rfl, rfl, rfl, rfl, rfl, trivial⟩, ?_⟩
  conv => whnf
  by_cases hp : pw d = 0
  · rw [show decide (pw d = 0) = true from decide_eq_true hp, show textF c d = ([], 1) from if_pos (.inl hp)]
    repeat (conv => whnf); first | refine IndepAnd (by kernel_rfl) ?_ | refine TreeAnd (by kernel_rfl) ?_ | refine ⟨rfl, ?_⟩ | refine ⟨by decide, ?_⟩ | refine ⟨trivial, ?_⟩ | refine ⟨⟨rfl, trivial⟩, ?_⟩ | refine ⟨Nat.le_of_ble_eq_true rfl, ?_⟩ | refine ⟨⟨_, rfl, rfl⟩, ?_⟩ | refine ⟨⟨rfl, rfl, trivial⟩, ?_⟩ | refine ⟨⟨rfl, rfl, rfl, trivial⟩, ?_⟩ | refine ⟨⟨rfl, rfl, rfl, rfl, trivial⟩, ?_⟩ | refine ⟨⟨rfl, rfl, rfl, rfl, rfl, trivial⟩, ?_⟩
    conv => whnf
    exact ⟨LEP.refl _, LEP.refl _, trivial⟩
  rw [show decide (pw d = 0) = false from decide_eq_false hp]
  repeat (conv => whnf); first | refine IndepAnd (by kernel_rfl) ?_ | refine TreeAnd (by kernel_rfl) ?_ | refine ⟨rfl, ?_⟩ | refine ⟨by decide, ?_⟩ | refine ⟨trivial, ?_⟩ | refine ⟨⟨rfl, trivial⟩, ?_⟩ | refine ⟨Nat.le_of_ble_eq_true rfl, ?_⟩ | refine ⟨⟨_, rfl, rfl⟩, ?_⟩ | refine ⟨⟨rfl, rfl, trivial⟩, ?_⟩ | refine ⟨⟨rfl, rfl, rfl, trivial⟩, ?_⟩ | refine ⟨⟨rfl, rfl, rfl, rfl, trivial⟩, ?_⟩ | refine ⟨⟨rfl, rfl, rfl, rfl, rfl, trivial⟩, ?_⟩
  conv => whnf
  by_cases hc : c < 0
  · rw [show decide (c < 0) = true from decide_eq_true hc, show textF c d = ([], 1) from if_pos (.inr (.inl hc))]
    repeat (conv => whnf); first | refine IndepAnd (by kernel_rfl) ?_ | refine TreeAnd (by kernel_rfl) ?_ | refine ⟨rfl, ?_⟩ | refine ⟨by decide, ?_⟩ | refine ⟨trivial, ?_⟩ | refine ⟨⟨rfl, trivial⟩, ?_⟩ | refine ⟨Nat.le_of_ble_eq_true rfl, ?_⟩ | refine ⟨⟨_, rfl, rfl⟩, ?_⟩ | refine ⟨⟨rfl, rfl, trivial⟩, ?_⟩ | refine ⟨⟨rfl, rfl, rfl, trivial⟩, ?_⟩ | refine ⟨⟨rfl, rfl, rfl, rfl, trivial⟩, ?_⟩ | refine ⟨⟨rfl, rfl, rfl, rfl, rfl, trivial⟩, ?_⟩
    conv => whnf
    exact ⟨LEP.refl _, LEP.refl _, trivial⟩
  rw [show decide (c < 0) = false from decide_eq_false hc]
  repeat (conv => whnf); first | refine IndepAnd (by kernel_rfl) ?_ | refine TreeAnd (by kernel_rfl) ?_ | refine ⟨rfl, ?_⟩ | refine ⟨by decide, ?_⟩ | refine ⟨trivial, ?_⟩ | refine ⟨⟨rfl, trivial⟩, ?_⟩ | refine ⟨Nat.le_of_ble_eq_true rfl, ?_⟩ | refine ⟨⟨_, rfl, rfl⟩, ?_⟩ | refine ⟨⟨rfl, rfl, trivial⟩, ?_⟩ | refine ⟨⟨rfl, rfl, rfl, trivial⟩, ?_⟩ | refine ⟨⟨rfl, rfl, rfl, rfl, trivial⟩, ?_⟩ | refine ⟨⟨rfl, rfl, rfl, rfl, rfl, trivial⟩, ?_⟩
  conv => whnf
  by_cases hc2 : pw d ≤ c
  · rw [show decide (pw d ≤ c) = true from decide_eq_true hc2, show textF c d = ([], 1) from if_pos (.inr (.inr hc2))]
    repeat (conv => whnf); first | refine IndepAnd (by kernel_rfl) ?_ | refine TreeAnd (by kernel_rfl) ?_ | refine ⟨rfl, ?_⟩ | refine ⟨by decide, ?_⟩ | refine ⟨trivial, ?_⟩ | refine ⟨⟨rfl, trivial⟩, ?_⟩ | refine ⟨Nat.le_of_ble_eq_true rfl, ?_⟩ | refine ⟨⟨_, rfl, rfl⟩, ?_⟩ | refine ⟨⟨rfl, rfl, trivial⟩, ?_⟩ | refine ⟨⟨rfl, rfl, rfl, trivial⟩, ?_⟩ | refine ⟨⟨rfl, rfl, rfl, rfl, trivial⟩, ?_⟩ | refine ⟨⟨rfl, rfl, rfl, rfl, rfl, trivial⟩, ?_⟩
    conv => whnf
    exact ⟨LEP.refl _, LEP.refl _, trivial⟩
  obtain ⟨k, hk1, hk2, hk3, hk4⟩ := pw_pow hp
  obtain ⟨C, rfl⟩ : ∃ C : Nat, c = C := ⟨c.toNat, by omega⟩
  have hC : C < 10 ^ (k + 1) := by omega
  have hbig := (pw_pos hp).2
  obtain ⟨e1, e2⟩ := digs_dec k C hC
  have hit : itoa (C : Int) = decDigits C := by unfold itoa; rw [if_neg (by omega), Int.toNat_natCast]
  rw [show decide (pw d ≤ (C : Int)) = false from decide_eq_false hc2, show textF C d = (digs (k + 1) C, 0) by rw [textF, if_neg (fun h => by omega), hk1, Int.toNat_natCast, Int.toNat_natCast]]
  repeat (conv => whnf); first | refine IndepAnd (by kernel_rfl) ?_ | refine TreeAnd (by kernel_rfl) ?_ | refine ⟨rfl, ?_⟩ | refine ⟨by decide, ?_⟩ | refine ⟨trivial, ?_⟩ | refine ⟨⟨rfl, trivial⟩, ?_⟩ | refine ⟨Nat.le_of_ble_eq_true rfl, ?_⟩ | refine ⟨⟨_, rfl, rfl⟩, ?_⟩ | refine ⟨⟨rfl, rfl, trivial⟩, ?_⟩ | refine ⟨⟨rfl, rfl, rfl, trivial⟩, ?_⟩ | refine ⟨⟨rfl, rfl, rfl, rfl, trivial⟩, ?_⟩ | refine ⟨⟨rfl, rfl, rfl, rfl, rfl, trivial⟩, ?_⟩
  conv => whnf
  refine ⟨_, CallVC.pr (itoa_ok (C : Int) (by omega) (by omega)) rfl rfl, ?_⟩
  rw [hit]
  repeat (conv => whnf); first | refine IndepAnd (by kernel_rfl) ?_ | refine TreeAnd (by kernel_rfl) ?_ | refine ⟨rfl, ?_⟩ | refine ⟨by decide, ?_⟩ | refine ⟨trivial, ?_⟩ | refine ⟨⟨rfl, trivial⟩, ?_⟩ | refine ⟨Nat.le_of_ble_eq_true rfl, ?_⟩ | refine ⟨⟨_, rfl, rfl⟩, ?_⟩ | refine ⟨⟨rfl, rfl, trivial⟩, ?_⟩ | refine ⟨⟨rfl, rfl, rfl, trivial⟩, ?_⟩ | refine ⟨⟨rfl, rfl, rfl, rfl, trivial⟩, ?_⟩ | refine ⟨⟨rfl, rfl, rfl, rfl, rfl, trivial⟩, ?_⟩
  conv => whnf
  refine ⟨_, wrapN (n := k + 1 - (decDigits C).length) (by rw [hk1]; omega) (by omega), ?_⟩
  repeat (conv => whnf); first | refine IndepAnd (by kernel_rfl) ?_ | refine TreeAnd (by kernel_rfl) ?_ | refine ⟨rfl, ?_⟩ | refine ⟨by decide, ?_⟩ | refine ⟨trivial, ?_⟩ | refine ⟨⟨rfl, trivial⟩, ?_⟩ | refine ⟨Nat.le_of_ble_eq_true rfl, ?_⟩ | refine ⟨⟨_, rfl, rfl⟩, ?_⟩ | refine ⟨⟨rfl, rfl, trivial⟩, ?_⟩ | refine ⟨⟨rfl, rfl, rfl, trivial⟩, ?_⟩ | refine ⟨⟨rfl, rfl, rfl, rfl, trivial⟩, ?_⟩ | refine ⟨⟨rfl, rfl, rfl, rfl, rfl, trivial⟩, ?_⟩
  conv => whnf
  refine ⟨_, CallVC.pr (repeat_ok (k + 1 - (decDigits C).length) (by omega)) rfl rfl, ?_⟩
  repeat (conv => whnf); first | refine IndepAnd (by kernel_rfl) ?_ | refine TreeAnd (by kernel_rfl) ?_ | refine ⟨rfl, ?_⟩ | refine ⟨by decide, ?_⟩ | refine ⟨trivial, ?_⟩ | refine ⟨⟨rfl, trivial⟩, ?_⟩ | refine ⟨Nat.le_of_ble_eq_true rfl, ?_⟩ | refine ⟨⟨_, rfl, rfl⟩, ?_⟩ | refine ⟨⟨rfl, rfl, trivial⟩, ?_⟩ | refine ⟨⟨rfl, rfl, rfl, trivial⟩, ?_⟩ | refine ⟨⟨rfl, rfl, rfl, rfl, trivial⟩, ?_⟩ | refine ⟨⟨rfl, rfl, rfl, rfl, rfl, trivial⟩, ?_⟩
  conv => whnf
  refine ⟨by rw [List.length_replicate]; omega, ?_⟩
  rw [e2]
  repeat (conv => whnf); first | refine IndepAnd (by kernel_rfl) ?_ | refine TreeAnd (by kernel_rfl) ?_ | refine ⟨rfl, ?_⟩ | refine ⟨by decide, ?_⟩ | refine ⟨trivial, ?_⟩ | refine ⟨⟨rfl, trivial⟩, ?_⟩ | refine ⟨Nat.le_of_ble_eq_true rfl, ?_⟩ | refine ⟨⟨_, rfl, rfl⟩, ?_⟩ | refine ⟨⟨rfl, rfl, trivial⟩, ?_⟩ | refine ⟨⟨rfl, rfl, rfl, trivial⟩, ?_⟩ | refine ⟨⟨rfl, rfl, rfl, rfl, trivial⟩, ?_⟩ | refine ⟨⟨rfl, rfl, rfl, rfl, rfl, trivial⟩, ?_⟩
  conv => whnf
  exact ⟨LEP.refl _, LEP.refl _, trivial⟩
end Go.So
