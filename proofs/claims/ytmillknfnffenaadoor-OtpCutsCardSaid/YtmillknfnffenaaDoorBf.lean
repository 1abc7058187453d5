/- The sum of bytes at once; the mac of a message. -/
import Derived.Test.YtmillknfnffenaaDoorBe
set_option linter.unusedVariables false
set_option linter.unusedSimpArgs false
namespace Go.So
open Go Go.Vc Go.Proofs Go.RowKit

/-- SHA-1, as the code reckons it. -/
def shaF (b : List UInt8) : List UInt8 := sumF (absorb b.length s0 b).1 (absorb b.length s0 b).2 b.length
theorem digest_len (s : S5) : (digest s).length = 20 := by unfold digest; rw [List.length_map, List.length_range]
theorem shaF_len (b : List UInt8) : (shaF b).length = 20 := digest_len _
theorem sha_ok (b : List UInt8) (hb : b.length ≤ 1000000) : K 24 [.p (.lst (bytesL b))] (.pv (.agg (bytesL (shaF b)))) := by
  obtain ⟨r, hr⟩ : ∃ r, r = absorb b.length s0 b := ⟨_, rfl⟩
  obtain ⟨d, hd⟩ : ∃ d, d = sumF r.1 r.2 b.length := ⟨_, rfl⟩
  have hlen : r.2.length < 64 := by rw [hr]; exact (absorb_len _ _ _ (Nat.le_refl _)).1
  have hsum := sum_ok r.1 (by rw [hr]; exact absorb_ok _ _ s0_ok) r.2 hlen b.length (by omega)
  have hdl : d.length = 20 := by rw [hd]; exact digest_len _
  have hres : shaF b = d := by rw [hd, hr]; rfl
  have hw := write_nil s0 s0_ok 0 b (by omega) (by omega)
  rw [← hr, Nat.zero_add] at hw
  rw [← hd] at hsum
  rw [hres]
  refine PC_of_vc cx_ok mixed { own := fun q => Nat.beq q 100004 || Nat.beq q 100007 || Nat.beq q 100009 } Tryd.func24 (by kernel_rfl) rfl rfl (by kernel_rfl) ?_
  repeat (conv => whnf); first | refine IndepAnd (by kernel_rfl) ?_ | refine TreeAnd (by kernel_rfl) ?_ | refine ⟨rfl, ?_⟩ | refine ⟨by decide, ?_⟩ | refine ⟨trivial, ?_⟩ | refine ⟨⟨rfl, trivial⟩, ?_⟩ | refine ⟨Nat.le_of_ble_eq_true rfl, ?_⟩ | refine ⟨⟨_, rfl, rfl⟩, ?_⟩ | refine ⟨⟨rfl, rfl, trivial⟩, ?_⟩ | refine ⟨⟨rfl, rfl, rfl, trivial⟩, ?_⟩ | refine ⟨⟨rfl, rfl, rfl, rfl, trivial⟩, ?_⟩ | refine ⟨⟨rfl, rfl, rfl, rfl, rfl, trivial⟩, ?_⟩
  conv => whnf
  refine ⟨_, MCallVC.pr gid new_ok trivial trivial rfl, ?_⟩
  repeat (conv => whnf); first | refine IndepAnd (by kernel_rfl) ?_ | refine TreeAnd (by kernel_rfl) ?_ | refine ⟨rfl, ?_⟩ | refine ⟨by decide, ?_⟩ | refine ⟨trivial, ?_⟩ | refine ⟨⟨rfl, trivial⟩, ?_⟩ | refine ⟨Nat.le_of_ble_eq_true rfl, ?_⟩ | refine ⟨⟨_, rfl, rfl⟩, ?_⟩ | refine ⟨⟨rfl, rfl, trivial⟩, ?_⟩ | refine ⟨⟨rfl, rfl, rfl, trivial⟩, ?_⟩ | refine ⟨⟨rfl, rfl, rfl, rfl, trivial⟩, ?_⟩ | refine ⟨⟨rfl, rfl, rfl, rfl, rfl, trivial⟩, ?_⟩
  conv => whnf
  refine ⟨_, MCallVC.pr (gT [(2000, 1000)]) hw ⟨LE.of rfl, LE.of rfl, trivial⟩ ⟨.inr (.inl rfl), trivial⟩ rfl, ?_⟩
  repeat (conv => whnf); first | refine IndepAnd (by kernel_rfl) ?_ | refine TreeAnd (by kernel_rfl) ?_ | refine ⟨rfl, ?_⟩ | refine ⟨by decide, ?_⟩ | refine ⟨trivial, ?_⟩ | refine ⟨⟨rfl, trivial⟩, ?_⟩ | refine ⟨Nat.le_of_ble_eq_true rfl, ?_⟩ | refine ⟨⟨_, rfl, rfl⟩, ?_⟩ | refine ⟨⟨rfl, rfl, trivial⟩, ?_⟩ | refine ⟨⟨rfl, rfl, rfl, trivial⟩, ?_⟩ | refine ⟨⟨rfl, rfl, rfl, rfl, trivial⟩, ?_⟩ | refine ⟨⟨rfl, rfl, rfl, rfl, rfl, trivial⟩, ?_⟩
  conv => whnf
  refine ⟨_, MCallVC.pr (gT [(2000, 1000)]) hsum ⟨LE.of rfl, trivial⟩ ⟨.inr (.inr (.inr ⟨_, _, _, rfl, rfl, LE.of rfl⟩)), trivial⟩ rfl, ?_⟩
  conv => whnf
  refine ⟨by show some (true, (bytesL d).length) = some (true, 20); rw [bytes_len, hdl], ?_⟩
  repeat (conv => whnf); first | refine IndepAnd (by kernel_rfl) ?_ | refine TreeAnd (by kernel_rfl) ?_ | refine ⟨rfl, ?_⟩ | refine ⟨by decide, ?_⟩ | refine ⟨trivial, ?_⟩ | refine ⟨⟨rfl, trivial⟩, ?_⟩ | refine ⟨Nat.le_of_ble_eq_true rfl, ?_⟩ | refine ⟨⟨_, rfl, rfl⟩, ?_⟩ | refine ⟨⟨rfl, rfl, trivial⟩, ?_⟩ | refine ⟨⟨rfl, rfl, rfl, trivial⟩, ?_⟩ | refine ⟨⟨rfl, rfl, rfl, rfl, trivial⟩, ?_⟩ | refine ⟨⟨rfl, rfl, rfl, rfl, rfl, trivial⟩, ?_⟩
  conv => whnf
  refine Eq.mpr (PV.forceL_eq _ _) ?_
  repeat (conv => whnf); first | refine IndepAnd (by kernel_rfl) ?_ | refine TreeAnd (by kernel_rfl) ?_ | refine ⟨rfl, ?_⟩ | refine ⟨by decide, ?_⟩ | refine ⟨trivial, ?_⟩ | refine ⟨⟨rfl, trivial⟩, ?_⟩ | refine ⟨Nat.le_of_ble_eq_true rfl, ?_⟩ | refine ⟨⟨_, rfl, rfl⟩, ?_⟩ | refine ⟨⟨rfl, rfl, trivial⟩, ?_⟩ | refine ⟨⟨rfl, rfl, rfl, trivial⟩, ?_⟩ | refine ⟨⟨rfl, rfl, rfl, rfl, trivial⟩, ?_⟩ | refine ⟨⟨rfl, rfl, rfl, rfl, rfl, trivial⟩, ?_⟩
  conv => whnf
  refine Eq.mpr (PV.forceL_eq _ _) ?_
  exact LEP.refl _
/-- A key's bytes, with something. -/
def kpad (key : List UInt8) : List UInt8 := key ++ List.replicate (64 - key.length) 0
theorem kpad_len {key : List UInt8} (h : key.length ≤ 64) : (kpad key).length = 64 := by unfold kpad; rw [List.length_append, List.length_replicate]; omega
def xorK (w : UInt8) (k : List UInt8) (i : Nat) : List UInt8 := (k.take i).map (fun c => c ^^^ w) ++ k.drop i
def xpad (w : UInt8) (key : List UInt8) : List UInt8 := (kpad key).map fun c => c ^^^ w
theorem xorK_len (w : UInt8) (k : List UInt8) (i : Nat) : (xorK w k i).length = k.length := by
  unfold xorK
  rw [List.length_append, List.length_map, ← List.length_append, List.take_append_drop]
theorem xorK_get {w : UInt8} {k : List UInt8} {i : Nat} (h : i < k.length) : (bytesL (xorK w k i))[i]? = some (.int .u8 (k[i].toNat)) := by
  unfold xorK bytesL
  rw [List.getElem?_map, List.getElem?_append_right (by rw [List.length_map, List.length_take]; omega), List.length_map, List.length_take, List.getElem?_drop, show i + (i - min i k.length) = i by omega, List.getElem?_eq_getElem h]
  rfl
theorem xorK_set {w : UInt8} {k : List UInt8} {i : Nat} (h : i < k.length) : (bytesL (xorK w k i)).set i (.int .u8 ((k[i] ^^^ w).toNat : Nat)) = bytesL (xorK w k (i + 1)) := by
  unfold xorK bytesL
  rw [List.map_append, List.set_append_right _ _ (by rw [List.length_map, List.length_map, List.length_take]; omega), List.length_map, List.length_map, List.length_take, show i - min i k.length = 0 by omega]
  rw [List.drop_eq_getElem_cons h, List.map_cons, List.set_cons_zero, List.take_succ_eq_append_getElem h, List.map_append, List.map_append, List.map_append, List.append_assoc]
  rfl
theorem u8xor (a w : UInt8) : IntKind.u8.wrap ((BitVec.ofInt IntKind.u8.bits ((a.toNat : Nat) : Int) ^^^ BitVec.ofInt IntKind.u8.bits ((w.toNat : Nat) : Int)).toNat : Int) = (((a ^^^ w).toNat : Nat) : Int) := by
  have := u8_xor_nat a.toNat w.toNat (UInt8.toNat_lt _) (UInt8.toNat_lt _)
  rw [UInt8.toNat_xor]
  exact this
theorem around_ok (w : UInt8) (b key : List UInt8) (hb : b.length ≤ 100000) (h0 : 0 < key.length) (h1 : key.length ≤ 64) :
    PM cx 25 [(2000, .var false 22 (.p (.lst (bytesL key))))] [.p (.int .u8 (w.toNat : Nat)), .p (.lst (bytesL b)), .ptr 2000 0] [] (.p (.agg (bytesL (shaF (xpad w key ++ b))))) := by
  have hpl : (xpad w key).length = 64 := by unfold xpad; rw [List.length_map, kpad_len h1]
  have hsha := sha_ok (xpad w key ++ b) (by rw [List.length_append]; omega)
  have hdl := shaF_len (xpad w key ++ b)
  obtain ⟨d, hd⟩ : ∃ d, d = shaF (xpad w key ++ b) := ⟨_, rfl⟩
  rw [← hd] at hsha hdl ⊢
  obtain ⟨k, hk⟩ : ∃ k, k = kpad key := ⟨_, rfl⟩
  have hkl : k.length = 64 := by rw [hk, kpad_len h1]
  have hxk : xorK w k 64 = xpad w key := by unfold xorK xpad; rw [← hk, List.take_of_length_le (by omega), List.drop_eq_nil_of_le (by omega), List.append_nil]
  refine PM_of_vc cx_ok mixed {} Tryd.func25 (by kernel_rfl) rfl rfl (by kernel_rfl) ?_ ?_
  · rfl
  repeat (conv => whnf); first | refine IndepAnd (by kernel_rfl) ?_ | refine TreeAnd (by kernel_rfl) ?_ | refine ⟨rfl, ?_⟩ | refine ⟨by decide, ?_⟩ | refine ⟨trivial, ?_⟩ | refine ⟨⟨rfl, trivial⟩, ?_⟩ | refine ⟨Nat.le_of_ble_eq_true rfl, ?_⟩ | refine ⟨⟨_, rfl, rfl⟩, ?_⟩ | refine ⟨⟨rfl, rfl, trivial⟩, ?_⟩ | refine ⟨⟨rfl, rfl, rfl, trivial⟩, ?_⟩ | refine ⟨⟨rfl, rfl, rfl, rfl, trivial⟩, ?_⟩ | refine ⟨⟨rfl, rfl, rfl, rfl, rfl, trivial⟩, ?_⟩
  conv => whnf
  refine ⟨bytes_sz _, by rw [bytes_len]; exact h0, by rw [bytes_len]; exact h1, ?_⟩
  repeat (conv => whnf); first | refine IndepAnd (by kernel_rfl) ?_ | refine TreeAnd (by kernel_rfl) ?_ | refine ⟨rfl, ?_⟩ | refine ⟨by decide, ?_⟩ | refine ⟨trivial, ?_⟩ | refine ⟨⟨rfl, trivial⟩, ?_⟩ | refine ⟨Nat.le_of_ble_eq_true rfl, ?_⟩ | refine ⟨⟨_, rfl, rfl⟩, ?_⟩ | refine ⟨⟨rfl, rfl, trivial⟩, ?_⟩ | refine ⟨⟨rfl, rfl, rfl, trivial⟩, ?_⟩ | refine ⟨⟨rfl, rfl, rfl, rfl, trivial⟩, ?_⟩ | refine ⟨⟨rfl, rfl, rfl, rfl, rfl, trivial⟩, ?_⟩
  conv => whnf
  refine ⟨Rd 64, fun i => S.of [(0, .p (.int .u8 (w.toNat : Nat))), (1, .p (.lst (bytesL b))), (5, .ptr 5 0), (6, .slc 8), (13, iv 64), (14, iv (i.1 : Nat))] [(5, .var true 28 (.p (.agg (List.replicate 20 (.int .u8 0))))), (8, .row 5 1 (bytesL (xorK w k i.1)))], fun i => 64 - i.1, Rd.zero 64, ?_, ?_⟩
  · refine Ge.of rfl ?_ ?_
    · conv => whnf
      refine ⟨LE.of rfl, ?_⟩
      conv => whnf
      refine ⟨LE.of rfl, ?_⟩
      conv => whnf
      refine ⟨LE.of rfl, ?_⟩
      conv => whnf
      refine ⟨LE.of rfl, ?_⟩
      conv => whnf
      refine ⟨LE.of (congrArg (fun m : Nat => SV.p (.int .i64 m)) (show _ = 64 from ?_)), ?_⟩
      · rw [List.length_append, List.length_drop, List.length_replicate, bytes_len]
        show key.length + (64 - key.length) = 64
        omega
      conv => whnf
      exact ⟨LE.of rfl, trivial⟩
    · conv => whnf
      refine ⟨OLE.of rfl, ?_⟩
      conv => whnf
      refine ⟨OLE.of (congrArg (AO.row 5 1) ?_), trivial⟩
      show bytesL key ++ (List.replicate 64 (PV.int .u8 0)).drop (bytesL key).length = bytesL (xorK w k 0)
      rw [hk, bytes_len]
      unfold xorK kpad
      rw [List.take_zero, List.map_nil, List.nil_append, List.drop_zero, ← bytes_append, List.drop_replicate]
      unfold bytesL
      rw [List.map_replicate]
      rfl
  rintro ⟨i, hi⟩
  repeat (conv => whnf); first | refine IndepAnd (by kernel_rfl) ?_ | refine TreeAnd (by kernel_rfl) ?_ | refine ⟨rfl, ?_⟩ | refine ⟨by decide, ?_⟩ | refine ⟨trivial, ?_⟩ | refine ⟨⟨rfl, trivial⟩, ?_⟩ | refine ⟨Nat.le_of_ble_eq_true rfl, ?_⟩ | refine ⟨⟨_, rfl, rfl⟩, ?_⟩ | refine ⟨⟨rfl, rfl, trivial⟩, ?_⟩ | refine ⟨⟨rfl, rfl, rfl, trivial⟩, ?_⟩ | refine ⟨⟨rfl, rfl, rfl, rfl, trivial⟩, ?_⟩ | refine ⟨⟨rfl, rfl, rfl, rfl, rfl, trivial⟩, ?_⟩
  conv => whnf
  refine @bool_rec _ _ _ ?_ ?_ <;> intro hh
  · have hh : ((i : Nat) : Int) < 64 := of_decide_eq_true hh
    have hik : i < k.length := by omega
    repeat (conv => whnf); first | refine IndepAnd (by kernel_rfl) ?_ | refine TreeAnd (by kernel_rfl) ?_ | refine ⟨rfl, ?_⟩ | refine ⟨by decide, ?_⟩ | refine ⟨trivial, ?_⟩ | refine ⟨⟨rfl, trivial⟩, ?_⟩ | refine ⟨Nat.le_of_ble_eq_true rfl, ?_⟩ | refine ⟨⟨_, rfl, rfl⟩, ?_⟩ | refine ⟨⟨rfl, rfl, trivial⟩, ?_⟩ | refine ⟨⟨rfl, rfl, rfl, trivial⟩, ?_⟩ | refine ⟨⟨rfl, rfl, rfl, rfl, trivial⟩, ?_⟩ | refine ⟨⟨rfl, rfl, rfl, rfl, rfl, trivial⟩, ?_⟩
    conv => whnf
    refine ⟨Int.natCast_nonneg _, by show i < (bytesL (xorK w k i)).length; rw [bytes_len, xorK_len]; exact hik, ?_⟩
    repeat (conv => whnf); first | refine IndepAnd (by kernel_rfl) ?_ | refine TreeAnd (by kernel_rfl) ?_ | refine ⟨rfl, ?_⟩ | refine ⟨by decide, ?_⟩ | refine ⟨trivial, ?_⟩ | refine ⟨⟨rfl, trivial⟩, ?_⟩ | refine ⟨Nat.le_of_ble_eq_true rfl, ?_⟩ | refine ⟨⟨_, rfl, rfl⟩, ?_⟩ | refine ⟨⟨rfl, rfl, trivial⟩, ?_⟩ | refine ⟨⟨rfl, rfl, rfl, trivial⟩, ?_⟩ | refine ⟨⟨rfl, rfl, rfl, rfl, trivial⟩, ?_⟩ | refine ⟨⟨rfl, rfl, rfl, rfl, rfl, trivial⟩, ?_⟩
    conv => whnf
    refine ⟨_, xorK_get hik, ?_⟩
    repeat (conv => whnf); first | refine IndepAnd (by kernel_rfl) ?_ | refine TreeAnd (by kernel_rfl) ?_ | refine ⟨rfl, ?_⟩ | refine ⟨by decide, ?_⟩ | refine ⟨trivial, ?_⟩ | refine ⟨⟨rfl, trivial⟩, ?_⟩ | refine ⟨Nat.le_of_ble_eq_true rfl, ?_⟩ | refine ⟨⟨_, rfl, rfl⟩, ?_⟩ | refine ⟨⟨rfl, rfl, trivial⟩, ?_⟩ | refine ⟨⟨rfl, rfl, rfl, trivial⟩, ?_⟩ | refine ⟨⟨rfl, rfl, rfl, rfl, trivial⟩, ?_⟩ | refine ⟨⟨rfl, rfl, rfl, rfl, rfl, trivial⟩, ?_⟩
    conv => whnf
    refine ⟨_, u8xor _ _, ?_⟩
    repeat (conv => whnf); first | refine IndepAnd (by kernel_rfl) ?_ | refine TreeAnd (by kernel_rfl) ?_ | refine ⟨rfl, ?_⟩ | refine ⟨by decide, ?_⟩ | refine ⟨trivial, ?_⟩ | refine ⟨⟨rfl, trivial⟩, ?_⟩ | refine ⟨Nat.le_of_ble_eq_true rfl, ?_⟩ | refine ⟨⟨_, rfl, rfl⟩, ?_⟩ | refine ⟨⟨rfl, rfl, trivial⟩, ?_⟩ | refine ⟨⟨rfl, rfl, rfl, trivial⟩, ?_⟩ | refine ⟨⟨rfl, rfl, rfl, rfl, trivial⟩, ?_⟩ | refine ⟨⟨rfl, rfl, rfl, rfl, rfl, trivial⟩, ?_⟩
    conv => whnf
    refine ⟨Int.natCast_nonneg _, by show i < (bytesL (xorK w k i)).length; rw [bytes_len, xorK_len]; exact hik, ?_⟩
    repeat (conv => whnf); first | refine IndepAnd (by kernel_rfl) ?_ | refine TreeAnd (by kernel_rfl) ?_ | refine ⟨rfl, ?_⟩ | refine ⟨by decide, ?_⟩ | refine ⟨trivial, ?_⟩ | refine ⟨⟨rfl, trivial⟩, ?_⟩ | refine ⟨Nat.le_of_ble_eq_true rfl, ?_⟩ | refine ⟨⟨_, rfl, rfl⟩, ?_⟩ | refine ⟨⟨rfl, rfl, trivial⟩, ?_⟩ | refine ⟨⟨rfl, rfl, rfl, trivial⟩, ?_⟩ | refine ⟨⟨rfl, rfl, rfl, rfl, trivial⟩, ?_⟩ | refine ⟨⟨rfl, rfl, rfl, rfl, rfl, trivial⟩, ?_⟩
    conv => whnf
    refine ⟨by show i < (bytesL (xorK w k i)).length; rw [bytes_len, xorK_len]; exact hik, ?_⟩
    repeat (conv => whnf); first | refine IndepAnd (by kernel_rfl) ?_ | refine TreeAnd (by kernel_rfl) ?_ | refine ⟨rfl, ?_⟩ | refine ⟨by decide, ?_⟩ | refine ⟨trivial, ?_⟩ | refine ⟨⟨rfl, trivial⟩, ?_⟩ | refine ⟨Nat.le_of_ble_eq_true rfl, ?_⟩ | refine ⟨⟨_, rfl, rfl⟩, ?_⟩ | refine ⟨⟨rfl, rfl, trivial⟩, ?_⟩ | refine ⟨⟨rfl, rfl, rfl, trivial⟩, ?_⟩ | refine ⟨⟨rfl, rfl, rfl, rfl, trivial⟩, ?_⟩ | refine ⟨⟨rfl, rfl, rfl, rfl, rfl, trivial⟩, ?_⟩
    conv => whnf
    refine ⟨_, wrapN (n := i + 1) rfl (by omega), ?_⟩
    repeat (conv => whnf); first | refine IndepAnd (by kernel_rfl) ?_ | refine TreeAnd (by kernel_rfl) ?_ | refine ⟨rfl, ?_⟩ | refine ⟨by decide, ?_⟩ | refine ⟨trivial, ?_⟩ | refine ⟨⟨rfl, trivial⟩, ?_⟩ | refine ⟨Nat.le_of_ble_eq_true rfl, ?_⟩ | refine ⟨⟨_, rfl, rfl⟩, ?_⟩ | refine ⟨⟨rfl, rfl, trivial⟩, ?_⟩ | refine ⟨⟨rfl, rfl, rfl, trivial⟩, ?_⟩ | refine ⟨⟨rfl, rfl, rfl, rfl, trivial⟩, ?_⟩ | refine ⟨⟨rfl, rfl, rfl, rfl, rfl, trivial⟩, ?_⟩
    conv => whnf
    refine ⟨⟨i + 1, by omega⟩, Ge.of rfl ?_ ?_, by show 64 - (i + 1) < 64 - i; omega⟩
    · repeat (conv => whnf); refine ⟨LE.of rfl, ?_⟩
      trivial
    · conv => whnf
      refine ⟨OLE.of rfl, ?_⟩
      conv => whnf
      exact ⟨OLE.of (congrArg (AO.row 5 1) (xorK_set hik)), trivial⟩
  have hi64 : i = 64 := by
    have : ¬ ((i : Nat) : Int) < 64 := of_decide_eq_false hh
    omega
  repeat (conv => whnf); first | refine IndepAnd (by kernel_rfl) ?_ | refine TreeAnd (by kernel_rfl) ?_ | refine ⟨rfl, ?_⟩ | refine ⟨by decide, ?_⟩ | refine ⟨trivial, ?_⟩ | refine ⟨⟨rfl, trivial⟩, ?_⟩ | refine ⟨Nat.le_of_ble_eq_true rfl, ?_⟩ | refine ⟨⟨_, rfl, rfl⟩, ?_⟩ | refine ⟨⟨rfl, rfl, trivial⟩, ?_⟩ | refine ⟨⟨rfl, rfl, rfl, trivial⟩, ?_⟩ | refine ⟨⟨rfl, rfl, rfl, rfl, trivial⟩, ?_⟩ | refine ⟨⟨rfl, rfl, rfl, rfl, rfl, trivial⟩, ?_⟩
  conv => whnf
  refine ⟨bytes_sz _, ?_⟩
  repeat (conv => whnf); first | refine IndepAnd (by kernel_rfl) ?_ | refine TreeAnd (by kernel_rfl) ?_ | refine ⟨rfl, ?_⟩ | refine ⟨by decide, ?_⟩ | refine ⟨trivial, ?_⟩ | refine ⟨⟨rfl, trivial⟩, ?_⟩ | refine ⟨Nat.le_of_ble_eq_true rfl, ?_⟩ | refine ⟨⟨_, rfl, rfl⟩, ?_⟩ | refine ⟨⟨rfl, rfl, trivial⟩, ?_⟩ | refine ⟨⟨rfl, rfl, rfl, trivial⟩, ?_⟩ | refine ⟨⟨rfl, rfl, rfl, rfl, trivial⟩, ?_⟩ | refine ⟨⟨rfl, rfl, rfl, rfl, rfl, trivial⟩, ?_⟩
  conv => whnf
  refine ⟨by show ((bytesL (xorK w k i)).length + (bytesL b).length) * 1 ≤ _; rw [bytes_len, bytes_len, xorK_len]; omega, ?_⟩
  repeat (conv => whnf); first | refine IndepAnd (by kernel_rfl) ?_ | refine TreeAnd (by kernel_rfl) ?_ | refine ⟨rfl, ?_⟩ | refine ⟨by decide, ?_⟩ | refine ⟨trivial, ?_⟩ | refine ⟨⟨rfl, trivial⟩, ?_⟩ | refine ⟨Nat.le_of_ble_eq_true rfl, ?_⟩ | refine ⟨⟨_, rfl, rfl⟩, ?_⟩ | refine ⟨⟨rfl, rfl, trivial⟩, ?_⟩ | refine ⟨⟨rfl, rfl, rfl, trivial⟩, ?_⟩ | refine ⟨⟨rfl, rfl, rfl, rfl, trivial⟩, ?_⟩ | refine ⟨⟨rfl, rfl, rfl, rfl, rfl, trivial⟩, ?_⟩
  conv => whnf
  refine ⟨_, CallVC.le hsha ⟨LE.of ?_, trivial⟩ rfl rfl, ?_⟩
  · show SV.p (.lst (bytesL (xorK w k i) ++ bytesL b)) = _
    rw [bytes_append, hi64, hxk]
  repeat (conv => whnf); first | refine IndepAnd (by kernel_rfl) ?_ | refine TreeAnd (by kernel_rfl) ?_ | refine ⟨rfl, ?_⟩ | refine ⟨by decide, ?_⟩ | refine ⟨trivial, ?_⟩ | refine ⟨⟨rfl, trivial⟩, ?_⟩ | refine ⟨Nat.le_of_ble_eq_true rfl, ?_⟩ | refine ⟨⟨_, rfl, rfl⟩, ?_⟩ | refine ⟨⟨rfl, rfl, trivial⟩, ?_⟩ | refine ⟨⟨rfl, rfl, rfl, trivial⟩, ?_⟩ | refine ⟨⟨rfl, rfl, rfl, rfl, trivial⟩, ?_⟩ | refine ⟨⟨rfl, rfl, rfl, rfl, rfl, trivial⟩, ?_⟩
  conv => whnf
  refine Eq.mpr (PV.forceL_eq _ _) ?_
  conv => whnf
  refine ⟨by show some (true, (bytesL d).length) = some (true, 20); rw [bytes_len, hdl], ?_⟩
  repeat (conv => whnf); first | refine IndepAnd (by kernel_rfl) ?_ | refine TreeAnd (by kernel_rfl) ?_ | refine ⟨rfl, ?_⟩ | refine ⟨by decide, ?_⟩ | refine ⟨trivial, ?_⟩ | refine ⟨⟨rfl, trivial⟩, ?_⟩ | refine ⟨Nat.le_of_ble_eq_true rfl, ?_⟩ | refine ⟨⟨_, rfl, rfl⟩, ?_⟩ | refine ⟨⟨rfl, rfl, trivial⟩, ?_⟩ | refine ⟨⟨rfl, rfl, rfl, trivial⟩, ?_⟩ | refine ⟨⟨rfl, rfl, rfl, rfl, trivial⟩, ?_⟩ | refine ⟨⟨rfl, rfl, rfl, rfl, rfl, trivial⟩, ?_⟩
  conv => whnf
  refine Eq.mpr (PV.forceL_eq _ _) ?_
  repeat (conv => whnf); first | refine IndepAnd (by kernel_rfl) ?_ | refine TreeAnd (by kernel_rfl) ?_ | refine ⟨rfl, ?_⟩ | refine ⟨by decide, ?_⟩ | refine ⟨trivial, ?_⟩ | refine ⟨⟨rfl, trivial⟩, ?_⟩ | refine ⟨Nat.le_of_ble_eq_true rfl, ?_⟩ | refine ⟨⟨_, rfl, rfl⟩, ?_⟩ | refine ⟨⟨rfl, rfl, trivial⟩, ?_⟩ | refine ⟨⟨rfl, rfl, rfl, trivial⟩, ?_⟩ | refine ⟨⟨rfl, rfl, rfl, rfl, trivial⟩, ?_⟩ | refine ⟨⟨rfl, rfl, rfl, rfl, rfl, trivial⟩, ?_⟩
  conv => whnf
  refine ⟨gid, ?_, trivial, rfl, rfl⟩
  conv => whnf
  refine Eq.mpr (PV.forceL_eq _ _) ?_
  exact ⟨rfl, LE.of rfl⟩
/-- HMAC-SHA-1, as the code reckons it. -/
def hmacF (key msg : List UInt8) : List UInt8 := shaF (xpad 92 key ++ shaF (xpad 54 key ++ msg))
theorem hmac_len (key msg : List UInt8) : (hmacF key msg).length = 20 := shaF_len _
theorem mac_ok (key msg : List UInt8) (h0 : 0 < key.length) (h1 : key.length ≤ 64) (hm : msg.length ≤ 100000) : K 13 [.p (.lst (bytesL key)), .p (.lst (bytesL msg))] (.pv (.agg (bytesL (hmacF key msg)))) := by
  have ha := around_ok 54 msg key hm h0 h1
  obtain ⟨m, hm1⟩ : ∃ m, m = shaF (xpad 54 key ++ msg) := ⟨_, rfl⟩
  have hml : m.length = 20 := by rw [hm1]; exact shaF_len _
  have hb := around_ok 92 m key (by omega) h0 h1
  obtain ⟨d, hd⟩ : ∃ d, d = shaF (xpad 92 key ++ m) := ⟨_, rfl⟩
  have hdl : d.length = 20 := by rw [hd]; exact shaF_len _
  have hres : hmacF key msg = d := by rw [hd, hm1]; rfl
  rw [← hm1] at ha
  rw [← hd] at hb
  rw [hres]
  refine PC_of_vc cx_ok mixed { own := fun q => Nat.beq q 100017 || Nat.beq q 100020, fz := fun r => cond (Nat.beq r 6) [7] [] } Tryd.func13 (by kernel_rfl) rfl rfl (by kernel_rfl) ?_
  repeat (conv => whnf); first | refine IndepAnd (by kernel_rfl) ?_ | refine TreeAnd (by kernel_rfl) ?_ | refine ⟨rfl, ?_⟩ | refine ⟨by decide, ?_⟩ | refine ⟨trivial, ?_⟩ | refine ⟨⟨rfl, trivial⟩, ?_⟩ | refine ⟨Nat.le_of_ble_eq_true rfl, ?_⟩ | refine ⟨⟨_, rfl, rfl⟩, ?_⟩ | refine ⟨⟨rfl, rfl, trivial⟩, ?_⟩ | refine ⟨⟨rfl, rfl, rfl, trivial⟩, ?_⟩ | refine ⟨⟨rfl, rfl, rfl, rfl, trivial⟩, ?_⟩ | refine ⟨⟨rfl, rfl, rfl, rfl, rfl, trivial⟩, ?_⟩
  conv => whnf
  rw [show decide (64 < ((bytesL key).length : Int)) = false from decide_eq_false (by rw [bytes_len]; omega)]
  repeat (conv => whnf); first | refine IndepAnd (by kernel_rfl) ?_ | refine TreeAnd (by kernel_rfl) ?_ | refine ⟨rfl, ?_⟩ | refine ⟨by decide, ?_⟩ | refine ⟨trivial, ?_⟩ | refine ⟨⟨rfl, trivial⟩, ?_⟩ | refine ⟨Nat.le_of_ble_eq_true rfl, ?_⟩ | refine ⟨⟨_, rfl, rfl⟩, ?_⟩ | refine ⟨⟨rfl, rfl, trivial⟩, ?_⟩ | refine ⟨⟨rfl, rfl, rfl, trivial⟩, ?_⟩ | refine ⟨⟨rfl, rfl, rfl, rfl, trivial⟩, ?_⟩ | refine ⟨⟨rfl, rfl, rfl, rfl, rfl, trivial⟩, ?_⟩
  conv => whnf
  refine ⟨_, MCallVC.pr (gT [(2000, 2)]) ha ⟨LE.of rfl, LE.of rfl, LE.of rfl, trivial⟩ ⟨.inr (.inr (.inr ⟨_, _, _, rfl, rfl, LE.of rfl⟩)), trivial⟩ rfl, ?_⟩
  conv => whnf
  refine ⟨by show some (true, (bytesL m).length) = some (true, 20); rw [bytes_len, hml], ?_⟩
  repeat (conv => whnf); first | refine IndepAnd (by kernel_rfl) ?_ | refine TreeAnd (by kernel_rfl) ?_ | refine ⟨rfl, ?_⟩ | refine ⟨by decide, ?_⟩ | refine ⟨trivial, ?_⟩ | refine ⟨⟨rfl, trivial⟩, ?_⟩ | refine ⟨Nat.le_of_ble_eq_true rfl, ?_⟩ | refine ⟨⟨_, rfl, rfl⟩, ?_⟩ | refine ⟨⟨rfl, rfl, trivial⟩, ?_⟩ | refine ⟨⟨rfl, rfl, rfl, trivial⟩, ?_⟩ | refine ⟨⟨rfl, rfl, rfl, rfl, trivial⟩, ?_⟩ | refine ⟨⟨rfl, rfl, rfl, rfl, rfl, trivial⟩, ?_⟩
  conv => whnf
  refine Eq.mpr (PV.forceL_eq _ _) ?_
  repeat (conv => whnf); first | refine IndepAnd (by kernel_rfl) ?_ | refine TreeAnd (by kernel_rfl) ?_ | refine ⟨rfl, ?_⟩ | refine ⟨by decide, ?_⟩ | refine ⟨trivial, ?_⟩ | refine ⟨⟨rfl, trivial⟩, ?_⟩ | refine ⟨Nat.le_of_ble_eq_true rfl, ?_⟩ | refine ⟨⟨_, rfl, rfl⟩, ?_⟩ | refine ⟨⟨rfl, rfl, trivial⟩, ?_⟩ | refine ⟨⟨rfl, rfl, rfl, trivial⟩, ?_⟩ | refine ⟨⟨rfl, rfl, rfl, rfl, trivial⟩, ?_⟩ | refine ⟨⟨rfl, rfl, rfl, rfl, rfl, trivial⟩, ?_⟩
  conv => whnf
  refine ⟨by show 20 = (bytesL m).length; rw [bytes_len, hml], ?_⟩
  repeat (conv => whnf); first | refine IndepAnd (by kernel_rfl) ?_ | refine TreeAnd (by kernel_rfl) ?_ | refine ⟨rfl, ?_⟩ | refine ⟨by decide, ?_⟩ | refine ⟨trivial, ?_⟩ | refine ⟨⟨rfl, trivial⟩, ?_⟩ | refine ⟨Nat.le_of_ble_eq_true rfl, ?_⟩ | refine ⟨⟨_, rfl, rfl⟩, ?_⟩ | refine ⟨⟨rfl, rfl, trivial⟩, ?_⟩ | refine ⟨⟨rfl, rfl, rfl, trivial⟩, ?_⟩ | refine ⟨⟨rfl, rfl, rfl, rfl, trivial⟩, ?_⟩ | refine ⟨⟨rfl, rfl, rfl, rfl, rfl, trivial⟩, ?_⟩
  conv => whnf
  refine ⟨_, MCallVC.pr (gT [(2000, 2)]) hb ⟨LE.of rfl, LE.of rfl, LE.of rfl, trivial⟩ ⟨.inr (.inr (.inr ⟨_, _, _, rfl, rfl, LE.of rfl⟩)), trivial⟩ rfl, ?_⟩
  conv => whnf
  refine ⟨by show some (true, (bytesL d).length) = some (true, 20); rw [bytes_len, hdl], ?_⟩
  repeat (conv => whnf); first | refine IndepAnd (by kernel_rfl) ?_ | refine TreeAnd (by kernel_rfl) ?_ | refine ⟨rfl, ?_⟩ | refine ⟨by decide, ?_⟩ | refine ⟨trivial, ?_⟩ | refine ⟨⟨rfl, trivial⟩, ?_⟩ | refine ⟨Nat.le_of_ble_eq_true rfl, ?_⟩ | refine ⟨⟨_, rfl, rfl⟩, ?_⟩ | refine ⟨⟨rfl, rfl, trivial⟩, ?_⟩ | refine ⟨⟨rfl, rfl, rfl, trivial⟩, ?_⟩ | refine ⟨⟨rfl, rfl, rfl, rfl, trivial⟩, ?_⟩ | refine ⟨⟨rfl, rfl, rfl, rfl, rfl, trivial⟩, ?_⟩
  conv => whnf
  refine Eq.mpr (PV.forceL_eq _ _) ?_
  repeat (conv => whnf); first | refine IndepAnd (by kernel_rfl) ?_ | refine TreeAnd (by kernel_rfl) ?_ | refine ⟨rfl, ?_⟩ | refine ⟨by decide, ?_⟩ | refine ⟨trivial, ?_⟩ | refine ⟨⟨rfl, trivial⟩, ?_⟩ | refine ⟨Nat.le_of_ble_eq_true rfl, ?_⟩ | refine ⟨⟨_, rfl, rfl⟩, ?_⟩ | refine ⟨⟨rfl, rfl, trivial⟩, ?_⟩ | refine ⟨⟨rfl, rfl, rfl, trivial⟩, ?_⟩ | refine ⟨⟨rfl, rfl, rfl, rfl, trivial⟩, ?_⟩ | refine ⟨⟨rfl, rfl, rfl, rfl, rfl, trivial⟩, ?_⟩
  conv => whnf
  refine Eq.mpr (PV.forceL_eq _ _) ?_
  exact LEP.refl _
end Go.So
