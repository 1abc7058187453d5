/- Contracts: numbers as texts. -/
import Derived.Test.YtpeabfflebgamaaDoorFc
set_option linter.unusedVariables false
namespace Go.Sl
open Go Go.Vc Go.Proofs Go.RowKit Go.Sort Go.Lib

theorem wrap8 (n : Nat) : IntKind.u8.wrap (n : Int) = ((UInt8.ofNat n).toNat : Int) := by
  simp only [IntKind.wrap, IntKind.bits, IntKind.signed]
  simp
theorem decDigits_step {m : Nat} (h : 10 ≤ m) : decDigits m = decDigits (m / 10) ++ [UInt8.ofNat (48 + m % 10)] := by
  rw [decDigits, dif_neg (by omega)]
theorem tmod10 (m : Nat) : ((m : Int)).tmod 10 = ((m % 10 : Nat) : Int) := rfl
theorem tdiv10 (m : Nat) : ((m : Int)).tdiv 10 = ((m / 10 : Nat) : Int) := rfl
def NumI (n k m : Nat) (s : Bs) : Prop :=
  k ≤ 19 ∧ m < 10 ^ (19 - k) ∧ s.length ≤ k ∧ ((k = 0 ∧ m = n ∧ s = []) ∨ (0 < k ∧ 0 < m ∧ decDigits n = decDigits m ++ s) ∨ (0 < k ∧ m = 0 ∧ s = decDigits n))
theorem NumI.step {n k m : Nat} {s : Bs} (h : NumI n k m s) (hm : k = 0 ∨ 0 < m) : NumI n (k + 1) (m / 10) (UInt8.ofNat (48 + m % 10) :: s) := by
  obtain ⟨h1, h2, h3, h4⟩ := h
  have hk : k < 19 := by
    by_cases e : k = 19
    · subst e
      simp at h2
      omega
    · omega
  refine ⟨by omega, ?_, by simpa using h3, ?_⟩
  · rw [show 19 - k = (19 - (k + 1)) + 1 by omega, Nat.pow_succ] at h2
    omega
  · have hd : decDigits n = decDigits m ++ s := by
      rcases h4 with ⟨a, rfl, rfl⟩ | ⟨a, b, c⟩ | ⟨a, b, c⟩
      · simp
      · exact c
      · omega
    by_cases h10 : m < 10
    · refine .inr (.inr ⟨by omega, by omega, ?_⟩)
      rw [hd, decDigits, dif_pos h10, Nat.mod_eq_of_lt h10]
      rfl
    · refine .inr (.inl ⟨by omega, by omega, ?_⟩)
      rw [hd, decDigits_step (by omega)]
      simp
theorem NumI.done {n k m : Nat} {s : Bs} (h : NumI n k m s) (hk : k ≠ 0 ∧ m = 0) : s = decDigits n := by
  obtain ⟨h1, h2, h3, h4⟩ := h
  have : m = 0 := hk.2
  rcases h4 with ⟨a, _, _⟩ | ⟨_, a, _⟩ | ⟨_, _, a⟩
  · omega
  · omega
  · exact a
theorem itoa_nat (n : Nat) : itoa n = decDigits n := by simp [itoa, show ¬ ((n : Int) < 0) by omega]
theorem itoa_neg {n : Int} (h : n < 0) : itoa n = 45 :: decDigits n.natAbs := if_pos h
theorem decDigits_lt : ∀ (k m : Nat), m < 10 ^ (k + 1) → (decDigits m).length ≤ k + 1
  | 0, m, h => by rw [decDigits_one (by simpa using h)]; simp
  | k + 1, m, h => by
    by_cases hm : m < 10
    · rw [decDigits_one hm]; simp
    · rw [decDigits_step (by omega), List.length_append]
      have := decDigits_lt k (m / 10) (by rw [Nat.pow_succ] at h; omega)
      simpa using this
theorem decDigits_len (m : Nat) (h : m ≤ 9223372036854775808) : (decDigits m).length ≤ 19 := decDigits_lt 18 m (by omega)
theorem itoa_len {n : Int} (h0 : -9223372036854775808 ≤ n) (h1 : n ≤ 9223372036854775807) : (itoa n).length ≤ 20 := by
  unfold itoa
  split
  · have := decDigits_len n.natAbs (by omega)
    simpa using this
  · have := decDigits_len n.toNat (by omega)
    omega
end Go.Sl
