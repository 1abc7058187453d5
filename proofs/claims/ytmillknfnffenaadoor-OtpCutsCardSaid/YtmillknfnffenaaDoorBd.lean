/- A sum that goes on: bytes taken. -/
import Derived.Test.YtmillknfnffenaaDoorBc
set_option linter.unusedVariables false
set_option linter.unusedSimpArgs false
namespace Go.So
open Go Go.Vc Go.Proofs Go.RowKit

def gid : Nat → Nat := fun k => k
/-- Blocks taken, as long as there are any. -/
def absorb : Nat → S5 → List UInt8 → S5 × List UInt8
  | 0, s, L => (s, L)
  | k + 1, s, L => if 64 ≤ L.length then absorb k (blk s (L.take 64)) (L.drop 64) else (s, L)
theorem absorb_short (k : Nat) (s : S5) (L : List UInt8) (h : L.length < 64) : absorb k s L = (s, L) := by
  cases k with
  | zero => rfl
  | succ k => rw [absorb, if_neg (by omega)]
theorem absorb_ok : ∀ (k : Nat) {s : S5} (L : List UInt8), s.ok → (absorb k s L).1.ok
  | 0, s, L, h => h
  | k + 1, s, L, h => by
    rw [absorb]
    split
    · exact absorb_ok k _ (blk_ok _ _)
    · exact h
theorem absorb_len : ∀ (k : Nat) (s : S5) (L : List UInt8), L.length ≤ k → (absorb k s L).2.length < 64 ∧ (absorb k s L).2.length ≤ L.length ∧ (absorb k s L).2.length % 64 = L.length % 64
  | 0, s, L, h => by rw [absorb]; simp; omega
  | k + 1, s, L, h => by
    rw [absorb]
    split
    · have := absorb_len k (blk s (L.take 64)) (L.drop 64) (by rw [List.length_drop]; omega)
      rw [List.length_drop] at this
      omega
    · exact ⟨by simp; omega, Nat.le_refl _, rfl⟩
theorem cut_bytes (L : List UInt8) (lo hi : Nat) : cut (bytesL L) lo hi = bytesL ((L.drop lo).take (hi - lo)) := by
  unfold cut bytesL
  rw [List.map_take, List.map_drop]
theorem bytes_append (L M : List UInt8) : bytesL L ++ bytesL M = bytesL (L ++ M) := by unfold bytesL; rw [List.map_append]
theorem wrap_len {b : List UInt8} (h : b.length ≤ 140737488355328) : IntKind.u64.wrap ((bytesL b).length : Int) = ((b.length : Nat) : Int) := by
  rw [bytes_len, IntKind.wrap_u64]; omega
theorem wrap_u {a : Int} {m : Nat} (h : a = m) (hm : m < 18446744073709551616) : IntKind.u64.wrap a = m := by
  rw [IntKind.wrap_u64]; omega
/-- One that has taken none yet. -/
theorem write_nil (s : S5) (hs : s.ok) (n : Nat) (b : List UInt8) (hb : b.length ≤ 140737488355328) (hn : n ≤ 140737488355328) :
    PM cx 31 [(2000, HS s .nilS n)] [.ptr 2000 0, .p (.lst (bytesL b))] [(2000, HS (absorb b.length s b).1 (.lst (bytesL (absorb b.length s b).2)) (n + b.length))] (.tupS []) := by
  obtain ⟨fin, hfin⟩ : ∃ fin, fin = absorb b.length s b := ⟨_, rfl⟩
  rw [← hfin]
  refine PM_of_vc cx_ok mixed { own := fun q => Nat.beq q 100035 } Tryd.func31 (by kernel_rfl) rfl rfl (by kernel_rfl) ?_ ?_
  · rfl
  repeat (conv => whnf); first | refine IndepAnd (by kernel_rfl) ?_ | refine TreeAnd (by kernel_rfl) ?_ | refine ⟨rfl, ?_⟩ | refine ⟨by decide, ?_⟩ | refine ⟨trivial, ?_⟩ | refine ⟨⟨rfl, trivial⟩, ?_⟩ | refine ⟨Nat.le_of_ble_eq_true rfl, ?_⟩ | refine ⟨⟨_, rfl, rfl⟩, ?_⟩ | refine ⟨⟨rfl, rfl, trivial⟩, ?_⟩ | refine ⟨⟨rfl, rfl, rfl, trivial⟩, ?_⟩ | refine ⟨⟨rfl, rfl, rfl, rfl, trivial⟩, ?_⟩ | refine ⟨⟨rfl, rfl, rfl, rfl, rfl, trivial⟩, ?_⟩
  conv => whnf
  refine ⟨_, wrap_len hb, ?_⟩
  repeat (conv => whnf); first | refine IndepAnd (by kernel_rfl) ?_ | refine TreeAnd (by kernel_rfl) ?_ | refine ⟨rfl, ?_⟩ | refine ⟨by decide, ?_⟩ | refine ⟨trivial, ?_⟩ | refine ⟨⟨rfl, trivial⟩, ?_⟩ | refine ⟨Nat.le_of_ble_eq_true rfl, ?_⟩ | refine ⟨⟨_, rfl, rfl⟩, ?_⟩ | refine ⟨⟨rfl, rfl, trivial⟩, ?_⟩ | refine ⟨⟨rfl, rfl, rfl, trivial⟩, ?_⟩ | refine ⟨⟨rfl, rfl, rfl, rfl, trivial⟩, ?_⟩ | refine ⟨⟨rfl, rfl, rfl, rfl, rfl, trivial⟩, ?_⟩
  conv => whnf
  refine ⟨_, wrap_u (m := n + b.length) (by omega) (by omega), ?_⟩
  repeat (conv => whnf); first | refine IndepAnd (by kernel_rfl) ?_ | refine TreeAnd (by kernel_rfl) ?_ | refine ⟨rfl, ?_⟩ | refine ⟨by decide, ?_⟩ | refine ⟨trivial, ?_⟩ | refine ⟨⟨rfl, trivial⟩, ?_⟩ | refine ⟨Nat.le_of_ble_eq_true rfl, ?_⟩ | refine ⟨⟨_, rfl, rfl⟩, ?_⟩ | refine ⟨⟨rfl, rfl, trivial⟩, ?_⟩ | refine ⟨⟨rfl, rfl, rfl, trivial⟩, ?_⟩ | refine ⟨⟨rfl, rfl, rfl, rfl, trivial⟩, ?_⟩ | refine ⟨⟨rfl, rfl, rfl, rfl, rfl, trivial⟩, ?_⟩
  conv => whnf
  refine ⟨bytes_sz _, ?_⟩
  repeat (conv => whnf); first | refine IndepAnd (by kernel_rfl) ?_ | refine TreeAnd (by kernel_rfl) ?_ | refine ⟨rfl, ?_⟩ | refine ⟨by decide, ?_⟩ | refine ⟨trivial, ?_⟩ | refine ⟨⟨rfl, trivial⟩, ?_⟩ | refine ⟨Nat.le_of_ble_eq_true rfl, ?_⟩ | refine ⟨⟨_, rfl, rfl⟩, ?_⟩ | refine ⟨⟨rfl, rfl, trivial⟩, ?_⟩ | refine ⟨⟨rfl, rfl, rfl, trivial⟩, ?_⟩ | refine ⟨⟨rfl, rfl, rfl, rfl, trivial⟩, ?_⟩ | refine ⟨⟨rfl, rfl, rfl, rfl, rfl, trivial⟩, ?_⟩
  conv => whnf
  refine ⟨by show (bytesL b).length * 1 ≤ _; rw [bytes_len]; omega, ?_⟩
  repeat (conv => whnf); first | refine IndepAnd (by kernel_rfl) ?_ | refine TreeAnd (by kernel_rfl) ?_ | refine ⟨rfl, ?_⟩ | refine ⟨by decide, ?_⟩ | refine ⟨trivial, ?_⟩ | refine ⟨⟨rfl, trivial⟩, ?_⟩ | refine ⟨Nat.le_of_ble_eq_true rfl, ?_⟩ | refine ⟨⟨_, rfl, rfl⟩, ?_⟩ | refine ⟨⟨rfl, rfl, trivial⟩, ?_⟩ | refine ⟨⟨rfl, rfl, rfl, trivial⟩, ?_⟩ | refine ⟨⟨rfl, rfl, rfl, rfl, trivial⟩, ?_⟩ | refine ⟨⟨rfl, rfl, rfl, rfl, rfl, trivial⟩, ?_⟩
  conv => whnf
  refine ⟨{ x : Nat × S5 × List UInt8 // absorb x.1 x.2.1 x.2.2 = fin ∧ x.2.2.length ≤ x.1 ∧ x.2.1.ok ∧ x.2.2.length ≤ 140737488355328 }, fun x => S.of [(0, .ptr 2000 0)] [(2000, HS x.1.2.1 (.lst (bytesL x.1.2.2)) (n + b.length))], fun x => x.1.2.2.length, ⟨(b.length, s, b), hfin.symm, Nat.le_refl _, hs, hb⟩, ?_, ?_⟩
  · refine Ge.of rfl ?_ ?_
    · repeat (conv => whnf); refine ⟨LE.of rfl, ?_⟩
      trivial
    · repeat (conv => whnf); refine ⟨OLE.of rfl, ?_⟩
      trivial
  rintro ⟨⟨k, t, L'⟩, hfin, hk, ht, hbig⟩
  repeat (conv => whnf); first | refine IndepAnd (by kernel_rfl) ?_ | refine TreeAnd (by kernel_rfl) ?_ | refine ⟨rfl, ?_⟩ | refine ⟨by decide, ?_⟩ | refine ⟨trivial, ?_⟩ | refine ⟨⟨rfl, trivial⟩, ?_⟩ | refine ⟨Nat.le_of_ble_eq_true rfl, ?_⟩ | refine ⟨⟨_, rfl, rfl⟩, ?_⟩ | refine ⟨⟨rfl, rfl, trivial⟩, ?_⟩ | refine ⟨⟨rfl, rfl, rfl, trivial⟩, ?_⟩ | refine ⟨⟨rfl, rfl, rfl, rfl, trivial⟩, ?_⟩ | refine ⟨⟨rfl, rfl, rfl, rfl, rfl, trivial⟩, ?_⟩
  conv => whnf
  refine @bool_rec _ _ _ ?_ ?_ <;> intro hh
  · have h : 64 ≤ ((bytesL L').length : Int) := of_decide_eq_true hh
    rw [bytes_len] at h
    have h : 64 ≤ L'.length := by omega
    repeat (conv => whnf); first | refine IndepAnd (by kernel_rfl) ?_ | refine TreeAnd (by kernel_rfl) ?_ | refine ⟨rfl, ?_⟩ | refine ⟨by decide, ?_⟩ | refine ⟨trivial, ?_⟩ | refine ⟨⟨rfl, trivial⟩, ?_⟩ | refine ⟨Nat.le_of_ble_eq_true rfl, ?_⟩ | refine ⟨⟨_, rfl, rfl⟩, ?_⟩ | refine ⟨⟨rfl, rfl, trivial⟩, ?_⟩ | refine ⟨⟨rfl, rfl, rfl, trivial⟩, ?_⟩ | refine ⟨⟨rfl, rfl, rfl, rfl, trivial⟩, ?_⟩ | refine ⟨⟨rfl, rfl, rfl, rfl, rfl, trivial⟩, ?_⟩
    conv => whnf
    refine ⟨⟨_, rfl, bytes_sz _⟩, ?_⟩
    repeat (conv => whnf); first | refine IndepAnd (by kernel_rfl) ?_ | refine TreeAnd (by kernel_rfl) ?_ | refine ⟨rfl, ?_⟩ | refine ⟨by decide, ?_⟩ | refine ⟨trivial, ?_⟩ | refine ⟨⟨rfl, trivial⟩, ?_⟩ | refine ⟨Nat.le_of_ble_eq_true rfl, ?_⟩ | refine ⟨⟨_, rfl, rfl⟩, ?_⟩ | refine ⟨⟨rfl, rfl, trivial⟩, ?_⟩ | refine ⟨⟨rfl, rfl, rfl, trivial⟩, ?_⟩ | refine ⟨⟨rfl, rfl, rfl, rfl, trivial⟩, ?_⟩ | refine ⟨⟨rfl, rfl, rfl, rfl, rfl, trivial⟩, ?_⟩
    conv => whnf
    refine ⟨by show 64 ≤ (bytesL L').length; rw [bytes_len]; omega, Nat.le_refl _, ?_⟩
    repeat (conv => whnf); first | refine IndepAnd (by kernel_rfl) ?_ | refine TreeAnd (by kernel_rfl) ?_ | refine ⟨rfl, ?_⟩ | refine ⟨by decide, ?_⟩ | refine ⟨trivial, ?_⟩ | refine ⟨⟨rfl, trivial⟩, ?_⟩ | refine ⟨Nat.le_of_ble_eq_true rfl, ?_⟩ | refine ⟨⟨_, rfl, rfl⟩, ?_⟩ | refine ⟨⟨rfl, rfl, trivial⟩, ?_⟩ | refine ⟨⟨rfl, rfl, rfl, trivial⟩, ?_⟩ | refine ⟨⟨rfl, rfl, rfl, rfl, trivial⟩, ?_⟩ | refine ⟨⟨rfl, rfl, rfl, rfl, rfl, trivial⟩, ?_⟩
    conv => whnf
    refine ⟨_, MCallVC.pr gid (block_ok t ht (bytesL L') (n + b.length) (L'.take 64) (by rw [List.length_take]; omega)) ⟨LE.of rfl, LE.of (congrArg (fun l => SV.p (.lst l)) (cut_bytes L' 0 64)), trivial⟩ ⟨.inr (.inl rfl), trivial⟩ rfl, ?_⟩
    repeat (conv => whnf); first | refine IndepAnd (by kernel_rfl) ?_ | refine TreeAnd (by kernel_rfl) ?_ | refine ⟨rfl, ?_⟩ | refine ⟨by decide, ?_⟩ | refine ⟨trivial, ?_⟩ | refine ⟨⟨rfl, trivial⟩, ?_⟩ | refine ⟨Nat.le_of_ble_eq_true rfl, ?_⟩ | refine ⟨⟨_, rfl, rfl⟩, ?_⟩ | refine ⟨⟨rfl, rfl, trivial⟩, ?_⟩ | refine ⟨⟨rfl, rfl, rfl, trivial⟩, ?_⟩ | refine ⟨⟨rfl, rfl, rfl, rfl, trivial⟩, ?_⟩ | refine ⟨⟨rfl, rfl, rfl, rfl, rfl, trivial⟩, ?_⟩
    conv => whnf
    refine ⟨⟨_, rfl, bytes_sz _⟩, ?_⟩
    repeat (conv => whnf); first | refine IndepAnd (by kernel_rfl) ?_ | refine TreeAnd (by kernel_rfl) ?_ | refine ⟨rfl, ?_⟩ | refine ⟨by decide, ?_⟩ | refine ⟨trivial, ?_⟩ | refine ⟨⟨rfl, trivial⟩, ?_⟩ | refine ⟨Nat.le_of_ble_eq_true rfl, ?_⟩ | refine ⟨⟨_, rfl, rfl⟩, ?_⟩ | refine ⟨⟨rfl, rfl, trivial⟩, ?_⟩ | refine ⟨⟨rfl, rfl, rfl, trivial⟩, ?_⟩ | refine ⟨⟨rfl, rfl, rfl, rfl, trivial⟩, ?_⟩ | refine ⟨⟨rfl, rfl, rfl, rfl, rfl, trivial⟩, ?_⟩
    conv => whnf
    refine ⟨by show 64 ≤ (bytesL L').length; rw [bytes_len]; omega, Nat.le_refl _, Nat.le_refl _, ?_⟩
    repeat (conv => whnf); first | refine IndepAnd (by kernel_rfl) ?_ | refine TreeAnd (by kernel_rfl) ?_ | refine ⟨rfl, ?_⟩ | refine ⟨by decide, ?_⟩ | refine ⟨trivial, ?_⟩ | refine ⟨⟨rfl, trivial⟩, ?_⟩ | refine ⟨Nat.le_of_ble_eq_true rfl, ?_⟩ | refine ⟨⟨_, rfl, rfl⟩, ?_⟩ | refine ⟨⟨rfl, rfl, trivial⟩, ?_⟩ | refine ⟨⟨rfl, rfl, rfl, trivial⟩, ?_⟩ | refine ⟨⟨rfl, rfl, rfl, rfl, trivial⟩, ?_⟩ | refine ⟨⟨rfl, rfl, rfl, rfl, rfl, trivial⟩, ?_⟩
    conv => whnf
    obtain ⟨k, rfl⟩ : ∃ m, k = m + 1 := ⟨k - 1, by have : L'.length ≤ k := hk; omega⟩
    refine ⟨⟨(k, blk t (L'.take 64), L'.drop 64), ?_, ?_, blk_ok _ _, ?_⟩, ?_, ?_⟩
    · rw [← hfin]
      show absorb k _ _ = absorb (k + 1) t L'
      rw [absorb, if_pos h]
    · have : L'.length ≤ k + 1 := hk
      show (L'.drop 64).length ≤ k
      rw [List.length_drop]; omega
    · have : L'.length ≤ _ := hbig
      show (L'.drop 64).length ≤ _
      rw [List.length_drop]; omega
    · refine Ge.of rfl ?_ ?_
      · repeat (conv => whnf); refine ⟨LE.of rfl, ?_⟩
        trivial
      · conv => whnf
        refine ⟨OLE.of (congrArg (fun l => HS (blk t (L'.take 64)) (.lst l) (n + b.length)) ?_), trivial⟩
        have := cut_bytes L' 64 (bytesL L').length
        rw [bytes_len, List.take_of_length_le (by rw [List.length_drop]; omega)] at this
        rw [bytes_len]
        exact this
    · show (L'.drop 64).length < L'.length
      rw [List.length_drop]; omega
  · have h : ¬ 64 ≤ ((bytesL L').length : Int) := of_decide_eq_false hh
    rw [bytes_len] at h
    have e : absorb k t L' = (t, L') := absorb_short k t L' (by omega)
    have hfin : absorb k t L' = fin := hfin
    rw [e] at hfin
    subst hfin
    repeat (conv => whnf); first | refine IndepAnd (by kernel_rfl) ?_ | refine TreeAnd (by kernel_rfl) ?_ | refine ⟨rfl, ?_⟩ | refine ⟨by decide, ?_⟩ | refine ⟨trivial, ?_⟩ | refine ⟨⟨rfl, trivial⟩, ?_⟩ | refine ⟨Nat.le_of_ble_eq_true rfl, ?_⟩ | refine ⟨⟨_, rfl, rfl⟩, ?_⟩ | refine ⟨⟨rfl, rfl, trivial⟩, ?_⟩ | refine ⟨⟨rfl, rfl, rfl, trivial⟩, ?_⟩ | refine ⟨⟨rfl, rfl, rfl, rfl, trivial⟩, ?_⟩ | refine ⟨⟨rfl, rfl, rfl, rfl, rfl, trivial⟩, ?_⟩
    conv => whnf
    exact ⟨id, rfl, ⟨.inr (.inl rfl), trivial⟩, rfl, rfl⟩
/-- One that goes on, its bytes being in a row of its own. -/
theorem write_row (s : S5) (hs : s.ok) (n : Nat) (l b : List UInt8) (hl : l.length ≤ 1000000) (hb : b.length ≤ 1000000) (hn : n ≤ 140737488355328) :
    PM cx 31 [(2000, .var true 73 (.mix [uv s.a, uv s.b, uv s.c, uv s.d, uv s.e, .slc 1001, .p (.int .u64 n)])), (1001, .row 5 1 (bytesL l))] [.ptr 2000 0, .p (.lst (bytesL b))]
      [(2000, HS (absorb (l ++ b).length s (l ++ b)).1 (.lst (bytesL (absorb (l ++ b).length s (l ++ b)).2)) (n + b.length))] (.tupS []) := by
  obtain ⟨fin, hfin⟩ : ∃ fin, fin = absorb (l ++ b).length s (l ++ b) := ⟨_, rfl⟩
  have hlb : (l ++ b).length ≤ 140737488355328 := by rw [List.length_append]; omega
  rw [← hfin]
  refine PM_of_vc cx_ok mixed { own := fun q => Nat.beq q 100035 } Tryd.func31 (by kernel_rfl) rfl rfl (by kernel_rfl) ?_ ?_
  · rfl
  repeat (conv => whnf); first | refine IndepAnd (by kernel_rfl) ?_ | refine TreeAnd (by kernel_rfl) ?_ | refine ⟨rfl, ?_⟩ | refine ⟨by decide, ?_⟩ | refine ⟨trivial, ?_⟩ | refine ⟨⟨rfl, trivial⟩, ?_⟩ | refine ⟨Nat.le_of_ble_eq_true rfl, ?_⟩ | refine ⟨⟨_, rfl, rfl⟩, ?_⟩ | refine ⟨⟨rfl, rfl, trivial⟩, ?_⟩ | refine ⟨⟨rfl, rfl, rfl, trivial⟩, ?_⟩ | refine ⟨⟨rfl, rfl, rfl, rfl, trivial⟩, ?_⟩ | refine ⟨⟨rfl, rfl, rfl, rfl, rfl, trivial⟩, ?_⟩
  conv => whnf
  refine ⟨_, wrap_len (by omega), ?_⟩
  repeat (conv => whnf); first | refine IndepAnd (by kernel_rfl) ?_ | refine TreeAnd (by kernel_rfl) ?_ | refine ⟨rfl, ?_⟩ | refine ⟨by decide, ?_⟩ | refine ⟨trivial, ?_⟩ | refine ⟨⟨rfl, trivial⟩, ?_⟩ | refine ⟨Nat.le_of_ble_eq_true rfl, ?_⟩ | refine ⟨⟨_, rfl, rfl⟩, ?_⟩ | refine ⟨⟨rfl, rfl, trivial⟩, ?_⟩ | refine ⟨⟨rfl, rfl, rfl, trivial⟩, ?_⟩ | refine ⟨⟨rfl, rfl, rfl, rfl, trivial⟩, ?_⟩ | refine ⟨⟨rfl, rfl, rfl, rfl, rfl, trivial⟩, ?_⟩
  conv => whnf
  refine ⟨_, wrap_u (m := n + b.length) (by omega) (by omega), ?_⟩
  repeat (conv => whnf); first | refine IndepAnd (by kernel_rfl) ?_ | refine TreeAnd (by kernel_rfl) ?_ | refine ⟨rfl, ?_⟩ | refine ⟨by decide, ?_⟩ | refine ⟨trivial, ?_⟩ | refine ⟨⟨rfl, trivial⟩, ?_⟩ | refine ⟨Nat.le_of_ble_eq_true rfl, ?_⟩ | refine ⟨⟨_, rfl, rfl⟩, ?_⟩ | refine ⟨⟨rfl, rfl, trivial⟩, ?_⟩ | refine ⟨⟨rfl, rfl, rfl, trivial⟩, ?_⟩ | refine ⟨⟨rfl, rfl, rfl, rfl, trivial⟩, ?_⟩ | refine ⟨⟨rfl, rfl, rfl, rfl, rfl, trivial⟩, ?_⟩
  conv => whnf
  refine ⟨bytes_sz _, ?_⟩
  repeat (conv => whnf); first | refine IndepAnd (by kernel_rfl) ?_ | refine TreeAnd (by kernel_rfl) ?_ | refine ⟨rfl, ?_⟩ | refine ⟨by decide, ?_⟩ | refine ⟨trivial, ?_⟩ | refine ⟨⟨rfl, trivial⟩, ?_⟩ | refine ⟨Nat.le_of_ble_eq_true rfl, ?_⟩ | refine ⟨⟨_, rfl, rfl⟩, ?_⟩ | refine ⟨⟨rfl, rfl, trivial⟩, ?_⟩ | refine ⟨⟨rfl, rfl, rfl, trivial⟩, ?_⟩ | refine ⟨⟨rfl, rfl, rfl, rfl, trivial⟩, ?_⟩ | refine ⟨⟨rfl, rfl, rfl, rfl, rfl, trivial⟩, ?_⟩
  conv => whnf
  refine ⟨by show ((bytesL l).length + (bytesL b).length) * 1 ≤ _; rw [bytes_len, bytes_len]; omega, ?_⟩
  repeat (conv => whnf); first | refine IndepAnd (by kernel_rfl) ?_ | refine TreeAnd (by kernel_rfl) ?_ | refine ⟨rfl, ?_⟩ | refine ⟨by decide, ?_⟩ | refine ⟨trivial, ?_⟩ | refine ⟨⟨rfl, trivial⟩, ?_⟩ | refine ⟨Nat.le_of_ble_eq_true rfl, ?_⟩ | refine ⟨⟨_, rfl, rfl⟩, ?_⟩ | refine ⟨⟨rfl, rfl, trivial⟩, ?_⟩ | refine ⟨⟨rfl, rfl, rfl, trivial⟩, ?_⟩ | refine ⟨⟨rfl, rfl, rfl, rfl, trivial⟩, ?_⟩ | refine ⟨⟨rfl, rfl, rfl, rfl, rfl, trivial⟩, ?_⟩
  conv => whnf
  refine ⟨{ x : Nat × S5 × List UInt8 // absorb x.1 x.2.1 x.2.2 = fin ∧ x.2.2.length ≤ x.1 ∧ x.2.1.ok ∧ x.2.2.length ≤ 140737488355328 }, fun x => S.of [(0, .ptr 2000 0)] [(2000, HS x.1.2.1 (.lst (bytesL x.1.2.2)) (n + b.length))], fun x => x.1.2.2.length, ⟨((l ++ b).length, s, (l ++ b)), hfin.symm, Nat.le_refl _, hs, hlb⟩, ?_, ?_⟩
  · refine Ge.of rfl ?_ ?_
    · repeat (conv => whnf); refine ⟨LE.of rfl, ?_⟩
      trivial
    · conv => whnf
      exact ⟨OLE.of (congrArg (fun c => HS s (.lst c) (n + b.length)) (bytes_append l b)), trivial⟩
  rintro ⟨⟨k, t, L'⟩, hfin, hk, ht, hbig⟩
  repeat (conv => whnf); first | refine IndepAnd (by kernel_rfl) ?_ | refine TreeAnd (by kernel_rfl) ?_ | refine ⟨rfl, ?_⟩ | refine ⟨by decide, ?_⟩ | refine ⟨trivial, ?_⟩ | refine ⟨⟨rfl, trivial⟩, ?_⟩ | refine ⟨Nat.le_of_ble_eq_true rfl, ?_⟩ | refine ⟨⟨_, rfl, rfl⟩, ?_⟩ | refine ⟨⟨rfl, rfl, trivial⟩, ?_⟩ | refine ⟨⟨rfl, rfl, rfl, trivial⟩, ?_⟩ | refine ⟨⟨rfl, rfl, rfl, rfl, trivial⟩, ?_⟩ | refine ⟨⟨rfl, rfl, rfl, rfl, rfl, trivial⟩, ?_⟩
  conv => whnf
  refine @bool_rec _ _ _ ?_ ?_ <;> intro hh
  · have h : 64 ≤ ((bytesL L').length : Int) := of_decide_eq_true hh
    rw [bytes_len] at h
    have h : 64 ≤ L'.length := by omega
    repeat (conv => whnf); first | refine IndepAnd (by kernel_rfl) ?_ | refine TreeAnd (by kernel_rfl) ?_ | refine ⟨rfl, ?_⟩ | refine ⟨by decide, ?_⟩ | refine ⟨trivial, ?_⟩ | refine ⟨⟨rfl, trivial⟩, ?_⟩ | refine ⟨Nat.le_of_ble_eq_true rfl, ?_⟩ | refine ⟨⟨_, rfl, rfl⟩, ?_⟩ | refine ⟨⟨rfl, rfl, trivial⟩, ?_⟩ | refine ⟨⟨rfl, rfl, rfl, trivial⟩, ?_⟩ | refine ⟨⟨rfl, rfl, rfl, rfl, trivial⟩, ?_⟩ | refine ⟨⟨rfl, rfl, rfl, rfl, rfl, trivial⟩, ?_⟩
    conv => whnf
    refine ⟨⟨_, rfl, bytes_sz _⟩, ?_⟩
    repeat (conv => whnf); first | refine IndepAnd (by kernel_rfl) ?_ | refine TreeAnd (by kernel_rfl) ?_ | refine ⟨rfl, ?_⟩ | refine ⟨by decide, ?_⟩ | refine ⟨trivial, ?_⟩ | refine ⟨⟨rfl, trivial⟩, ?_⟩ | refine ⟨Nat.le_of_ble_eq_true rfl, ?_⟩ | refine ⟨⟨_, rfl, rfl⟩, ?_⟩ | refine ⟨⟨rfl, rfl, trivial⟩, ?_⟩ | refine ⟨⟨rfl, rfl, rfl, trivial⟩, ?_⟩ | refine ⟨⟨rfl, rfl, rfl, rfl, trivial⟩, ?_⟩ | refine ⟨⟨rfl, rfl, rfl, rfl, rfl, trivial⟩, ?_⟩
    conv => whnf
    refine ⟨by show 64 ≤ (bytesL L').length; rw [bytes_len]; omega, Nat.le_refl _, ?_⟩
    repeat (conv => whnf); first | refine IndepAnd (by kernel_rfl) ?_ | refine TreeAnd (by kernel_rfl) ?_ | refine ⟨rfl, ?_⟩ | refine ⟨by decide, ?_⟩ | refine ⟨trivial, ?_⟩ | refine ⟨⟨rfl, trivial⟩, ?_⟩ | refine ⟨Nat.le_of_ble_eq_true rfl, ?_⟩ | refine ⟨⟨_, rfl, rfl⟩, ?_⟩ | refine ⟨⟨rfl, rfl, trivial⟩, ?_⟩ | refine ⟨⟨rfl, rfl, rfl, trivial⟩, ?_⟩ | refine ⟨⟨rfl, rfl, rfl, rfl, trivial⟩, ?_⟩ | refine ⟨⟨rfl, rfl, rfl, rfl, rfl, trivial⟩, ?_⟩
    conv => whnf
    refine ⟨_, MCallVC.pr gid (block_ok t ht (bytesL L') (n + b.length) (L'.take 64) (by rw [List.length_take]; omega)) ⟨LE.of rfl, LE.of (congrArg (fun l => SV.p (.lst l)) (cut_bytes L' 0 64)), trivial⟩ ⟨.inr (.inl rfl), trivial⟩ rfl, ?_⟩
    repeat (conv => whnf); first | refine IndepAnd (by kernel_rfl) ?_ | refine TreeAnd (by kernel_rfl) ?_ | refine ⟨rfl, ?_⟩ | refine ⟨by decide, ?_⟩ | refine ⟨trivial, ?_⟩ | refine ⟨⟨rfl, trivial⟩, ?_⟩ | refine ⟨Nat.le_of_ble_eq_true rfl, ?_⟩ | refine ⟨⟨_, rfl, rfl⟩, ?_⟩ | refine ⟨⟨rfl, rfl, trivial⟩, ?_⟩ | refine ⟨⟨rfl, rfl, rfl, trivial⟩, ?_⟩ | refine ⟨⟨rfl, rfl, rfl, rfl, trivial⟩, ?_⟩ | refine ⟨⟨rfl, rfl, rfl, rfl, rfl, trivial⟩, ?_⟩
    conv => whnf
    refine ⟨⟨_, rfl, bytes_sz _⟩, ?_⟩
    repeat (conv => whnf); first | refine IndepAnd (by kernel_rfl) ?_ | refine TreeAnd (by kernel_rfl) ?_ | refine ⟨rfl, ?_⟩ | refine ⟨by decide, ?_⟩ | refine ⟨trivial, ?_⟩ | refine ⟨⟨rfl, trivial⟩, ?_⟩ | refine ⟨Nat.le_of_ble_eq_true rfl, ?_⟩ | refine ⟨⟨_, rfl, rfl⟩, ?_⟩ | refine ⟨⟨rfl, rfl, trivial⟩, ?_⟩ | refine ⟨⟨rfl, rfl, rfl, trivial⟩, ?_⟩ | refine ⟨⟨rfl, rfl, rfl, rfl, trivial⟩, ?_⟩ | refine ⟨⟨rfl, rfl, rfl, rfl, rfl, trivial⟩, ?_⟩
    conv => whnf
    refine ⟨by show 64 ≤ (bytesL L').length; rw [bytes_len]; omega, Nat.le_refl _, Nat.le_refl _, ?_⟩
    repeat (conv => whnf); first | refine IndepAnd (by kernel_rfl) ?_ | refine TreeAnd (by kernel_rfl) ?_ | refine ⟨rfl, ?_⟩ | refine ⟨by decide, ?_⟩ | refine ⟨trivial, ?_⟩ | refine ⟨⟨rfl, trivial⟩, ?_⟩ | refine ⟨Nat.le_of_ble_eq_true rfl, ?_⟩ | refine ⟨⟨_, rfl, rfl⟩, ?_⟩ | refine ⟨⟨rfl, rfl, trivial⟩, ?_⟩ | refine ⟨⟨rfl, rfl, rfl, trivial⟩, ?_⟩ | refine ⟨⟨rfl, rfl, rfl, rfl, trivial⟩, ?_⟩ | refine ⟨⟨rfl, rfl, rfl, rfl, rfl, trivial⟩, ?_⟩
    conv => whnf
    obtain ⟨k, rfl⟩ : ∃ m, k = m + 1 := ⟨k - 1, by have : L'.length ≤ k := hk; omega⟩
    refine ⟨⟨(k, blk t (L'.take 64), L'.drop 64), ?_, ?_, blk_ok _ _, ?_⟩, ?_, ?_⟩
    · rw [← hfin]
      show absorb k _ _ = absorb (k + 1) t L'
      rw [absorb, if_pos h]
    · have : L'.length ≤ k + 1 := hk
      show (L'.drop 64).length ≤ k
      rw [List.length_drop]; omega
    · have : L'.length ≤ _ := hbig
      show (L'.drop 64).length ≤ _
      rw [List.length_drop]; omega
    · refine Ge.of rfl ?_ ?_
      · repeat (conv => whnf); refine ⟨LE.of rfl, ?_⟩
        trivial
      · conv => whnf
        refine ⟨OLE.of (congrArg (fun l => HS (blk t (L'.take 64)) (.lst l) (n + b.length)) ?_), trivial⟩
        have := cut_bytes L' 64 (bytesL L').length
        rw [bytes_len, List.take_of_length_le (by rw [List.length_drop]; omega)] at this
        rw [bytes_len]
        exact this
    · show (L'.drop 64).length < L'.length
      rw [List.length_drop]; omega
  · have h : ¬ 64 ≤ ((bytesL L').length : Int) := of_decide_eq_false hh
    rw [bytes_len] at h
    have e : absorb k t L' = (t, L') := absorb_short k t L' (by omega)
    have hfin : absorb k t L' = fin := hfin
    rw [e] at hfin
    subst hfin
    repeat (conv => whnf); first | refine IndepAnd (by kernel_rfl) ?_ | refine TreeAnd (by kernel_rfl) ?_ | refine ⟨rfl, ?_⟩ | refine ⟨by decide, ?_⟩ | refine ⟨trivial, ?_⟩ | refine ⟨⟨rfl, trivial⟩, ?_⟩ | refine ⟨Nat.le_of_ble_eq_true rfl, ?_⟩ | refine ⟨⟨_, rfl, rfl⟩, ?_⟩ | refine ⟨⟨rfl, rfl, trivial⟩, ?_⟩ | refine ⟨⟨rfl, rfl, rfl, trivial⟩, ?_⟩ | refine ⟨⟨rfl, rfl, rfl, rfl, trivial⟩, ?_⟩ | refine ⟨⟨rfl, rfl, rfl, rfl, rfl, trivial⟩, ?_⟩
    conv => whnf
    exact ⟨id, rfl, ⟨.inr (.inl rfl), trivial⟩, rfl, rfl⟩
end Go.So
