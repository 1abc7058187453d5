/- The statement TopTickets, without a condition: a ticket of one KDC is none of another one's. Part 18: Bg Bh Yt Yu Yv Zb Op Rw Zr. -/
import Derived.Test.YteicafhbhdliaaaGreatDoorPaq
import Derived.ProofKit
import Derived.ChangeArms
import Derived.DataReads
import Derived.Test.YteicafhbhdliaaaGreatDoorCards
import Derived.Test.YteicafhbhdliaaaGreatDoorTie
import Derived.WalkKit
import Derived.OpenShut
import Derived.Deep.DeepHandedRow
import Derived.Lib.LaidTab
import Derived.SizedLaws
import Derived.Carry
import Derived.ChangeMaps5
set_option linter.constructorNameAsVariable false
set_option linter.unusedSimpArgs false
set_option linter.unusedVariables false
set_option maxHeartbeats 4000000
set_option maxRecDepth 100000
namespace Go.So
open Go Go.Vc Go.Proofs Go.RowKit
abbrev ii (n : Int) : PV := .int .i64 n
def pw (d : Int) : Int := if d = 6 then 1000000 else if d = 7 then 10000000 else if d = 8 then 100000000 else 0
theorem pw_cases (d : Int) : d = 6 ∧ pw d = 1000000 ∨ d = 7 ∧ pw d = 10000000 ∨ d = 8 ∧ pw d = 100000000 ∨ (d < 6 ∨ 8 < d) ∧ pw d = 0 := by
 unfold pw
 by_cases h6 : d = 6
 ·exact .inl ⟨h6, by rw [if_pos h6]⟩
 ·by_cases h7 : d = 7
  ·exact .inr (.inl ⟨h7, by rw [if_neg h6, if_pos h7]⟩)
  ·by_cases h8 : d = 8
   ·exact .inr (.inr (.inl ⟨h8, by rw [if_neg h6, if_neg h7, if_pos h8]⟩))
   ·exact .inr (.inr (.inr ⟨by omega, by rw [if_neg h6, if_neg h7, if_neg h8]⟩))
theorem powers_ok (d : Int) (h0 : -9223372036854775808 ≤ d) (h1 : d ≤ 9223372036854775807) : K 118 [iv d] (.pv (ii (pw d))) := by
 rcases pw_cases d with ⟨rfl, e⟩ | ⟨rfl, e⟩ | ⟨rfl, e⟩ | ⟨h, e⟩
 ·rw [e]
  refine PC_of_vc cx_ok mixed {} Tryz.func118 (by kernel_rfl) rfl rfl (by kernel_rfl) ?_
  refine goL ?_
  refine ⟨0, by decide, ?_⟩
  refine goL ?_
  exact LEP.refl _
 ·rw [e]
  refine PC_of_vc cx_ok mixed {} Tryz.func118 (by kernel_rfl) rfl rfl (by kernel_rfl) ?_
  refine goL ?_
  refine ⟨1, by decide, ?_⟩
  refine goL ?_
  exact LEP.refl _
 ·rw [e]
  refine PC_of_vc cx_ok mixed {} Tryz.func118 (by kernel_rfl) rfl rfl (by kernel_rfl) ?_
  refine goL ?_
  refine ⟨2, by decide, ?_⟩
  refine goL ?_
  exact LEP.refl _
 ·rw [e]
  refine PC_of_vc cx_ok mixed {} Tryz.func118 (by kernel_rfl) rfl rfl (by kernel_rfl) ?_
  refine goL ?_
  refine @bool_rec _ _ _ ?_ ?_ <;> intro h6
  ·refine goL ?_
   exact LEP.refl _
  ·have h6 : ¬ d < 6 := of_decide_eq_false h6
   refine goL ?_
   rw [show decide (8 < d) = true from decide_eq_true (by omega)]
   refine goL ?_
   exact LEP.refl _
def tnO (sum : List UInt8) (o : Nat) : Nat := (byt sum o % 128) * 2 ^ 24 + byt sum (o + 1) * 2 ^ 16 + byt sum (o + 2) * 2 ^ 8 + byt sum (o + 3)
def tn (sum : List UInt8) : Nat := tnO sum (byt sum 19 % 16)
def truncF (sum : List UInt8) (d : Int) : Int × Int := if sum.length = 20 ∧ pw d ≠ 0 then ((tn sum : Int) % pw d, 0) else (0, 1)
theorem wshl64 (a : Nat) {k : Int} {m : Nat} (hk : k = m) (ha : a < 256) (hm : m ≤ 24) : IntKind.i64.wrap ((a : Int) * 2 ^ (min k.toNat IntKind.i64.bits)) = ((a * 2 ^ m : Nat) : Int) := by
 subst hk
 rw [Int.toNat_natCast, show min m IntKind.i64.bits = m from Nat.min_eq_left (by show m ≤ 64; omega)]
 have h : ((a * 2 ^ m : Nat) : Int) = (a : Int) * 2 ^ m := by rw [Int.natCast_mul, Int.natCast_pow]; rfl
 rw [← h]
 have h2 : 2 ^ m ≤ 2 ^ 24 := Nat.pow_le_pow_right (by decide) hm
 have h3 : a * 2 ^ m ≤ 256 * 2 ^ 24 := Nat.mul_le_mul (by omega) h2
 exact wrapN rfl (by omega)
theorem wor64 {x y : Nat} (i : Nat) (hx : x % 2 ^ i = 0) (hy : y < 2 ^ i) (h : x + y < 9223372036854775808) : IntKind.i64.wrap ((BitVec.ofInt IntKind.i64.bits (x : Int) ||| BitVec.ofInt IntKind.i64.bits (y : Int)).toNat : Int) = ((x + y : Nat) : Int) := by
 have e : (BitVec.ofInt IntKind.i64.bits (x : Int) ||| BitVec.ofInt IntKind.i64.bits (y : Int)).toNat = x + y := by
  show (BitVec.ofInt 64 (x : Int) ||| BitVec.ofInt 64 (y : Int)).toNat = _
  rw [BitVec.toNat_or, ofInt_u64 x (by omega), ofInt_u64 y (by omega), nat_join i x y hx hy]
 rw [e]
 exact wrapN rfl (by omega)
theorem trunc_ok (sum : List UInt8) (d : Int) (hl : sum.length ≤ 140737488355328) (h0 : -9223372036854775808 ≤ d) (h1 : d ≤ 9223372036854775807) : K 64 [.p (.lst (bytesL sum)), iv d] (.tup [ii (truncF sum d).1, ii (truncF sum d).2]) := by
 refine PC_of_vc cx_ok mixed {} Tryz.func64 (by kernel_rfl) rfl rfl (by kernel_rfl) ?_
 refine goL ?_
 refine ⟨_, CallVC.pr (powers_ok d h0 h1) rfl rfl, ?_⟩
 refine goL ?_
 by_cases hl20 : sum.length = 20
 ·rw [show decide (((bytesL sum).length : Int) ≠ 20) = false from decide_eq_false (by rw [bytes_len, hl20]; decide)]
  refine goL ?_
  by_cases hp : pw d = 0
  ·rw [show truncF sum d = (0, 1) from if_neg (fun h => h.2 hp), show decide (pw d = 0) = true from decide_eq_true hp]
   refine goL ?_
   exact ⟨LEP.refl _, LEP.refl _, trivial⟩
  ·rw [show truncF sum d = ((tn sum : Int) % pw d, 0) from if_pos ⟨hl20, hp⟩, show decide (pw d = 0) = false from decide_eq_false hp]
   obtain ⟨o, ho⟩ : ∃ o, o = byt sum 19 % 16 := ⟨_, rfl⟩
   have ho15 : o < 16 := by rw [ho]; exact Nat.mod_lt _ (by decide)
   have htn : tn sum = tnO sum o := by rw [ho]; rfl
   rw [htn]
   refine goL ?_
   refine ⟨_, byt_getN (i := 19) (by omega), rfl, rfl, ?_⟩
   refine goL ?_
   refine ⟨_, show IntKind.u8.wrap ((BitVec.ofInt IntKind.u8.bits ((byt sum 19 : Nat) : Int) &&& BitVec.ofInt IntKind.u8.bits (15 : Int)).toNat : Int) = ((o : Nat) : Int) from (u8_and_nat _ 15 (byt_lt _ _) (by decide)).trans (by rw [nat_mask4, ho]), ?_⟩
   refine goL ?_
   refine ⟨Int.natCast_nonneg _, _, byt_getN (i := o) (by omega), rfl, rfl, ?_⟩
   refine goL ?_
   refine ⟨_, show IntKind.u8.wrap ((BitVec.ofInt IntKind.u8.bits ((byt sum o : Nat) : Int) &&& BitVec.ofInt IntKind.u8.bits (127 : Int)).toNat : Int) = ((byt sum o % 128 : Nat) : Int) from (u8_and_nat _ 127 (byt_lt _ _) (by decide)).trans (by rw [nat_mask7]), ?_⟩
   refine goL ?_
   refine ⟨_, wrapN (n := byt sum o % 128) rfl (by have := byt_lt sum (o + 0); omega), ?_⟩
   refine goL ?_
   refine ⟨_, wshl64 (byt sum o % 128) (m := 24) rfl (by have := byt_lt sum (o + 0); omega) (by decide), ?_⟩
   refine goL ?_
   refine ⟨_, show IntKind.u8.wrap (((o : Nat) : Int) + 1) = ((o + 1 : Nat) : Int) by rw [IntKind.wrap_u8']; omega, ?_⟩
   refine goL ?_
   refine ⟨Int.natCast_nonneg _, _, byt_getN (i := o + 1) (by omega), rfl, rfl, ?_⟩
   refine goL ?_
   refine ⟨_, wrapN (n := byt sum (o + 1)) rfl (by have := byt_lt sum (o + 1); omega), ?_⟩
   refine goL ?_
   refine ⟨_, wshl64 (byt sum (o + 1)) (m := 16) rfl (by have := byt_lt sum (o + 1); omega) (by decide), ?_⟩
   refine goL ?_
   refine ⟨_, wor64 (x := (byt sum o % 128) * 2 ^ 24) (y := byt sum (o + 1) * 2 ^ 16) 24 (by omega) (by have := byt_lt sum (o + 1); omega) (by have h0 := byt_lt sum o; have h1 := byt_lt sum (o + 1); have h2 := byt_lt sum (o + 2); have h3 := byt_lt sum (o + 3); omega), ?_⟩
   refine goL ?_
   refine ⟨_, show IntKind.u8.wrap (((o : Nat) : Int) + 2) = ((o + 2 : Nat) : Int) by rw [IntKind.wrap_u8']; omega, ?_⟩
   refine goL ?_
   refine ⟨Int.natCast_nonneg _, _, byt_getN (i := o + 2) (by omega), rfl, rfl, ?_⟩
   refine goL ?_
   refine ⟨_, wrapN (n := byt sum (o + 2)) rfl (by have := byt_lt sum (o + 2); omega), ?_⟩
   refine goL ?_
   refine ⟨_, wshl64 (byt sum (o + 2)) (m := 8) rfl (by have := byt_lt sum (o + 2); omega) (by decide), ?_⟩
   refine goL ?_
   refine ⟨_, wor64 (x := (byt sum o % 128) * 2 ^ 24 + byt sum (o + 1) * 2 ^ 16) (y := byt sum (o + 2) * 2 ^ 8) 16 (by omega) (by have := byt_lt sum (o + 2); omega) (by have h0 := byt_lt sum o; have h1 := byt_lt sum (o + 1); have h2 := byt_lt sum (o + 2); have h3 := byt_lt sum (o + 3); omega), ?_⟩
   refine goL ?_
   refine ⟨_, show IntKind.u8.wrap (((o : Nat) : Int) + 3) = ((o + 3 : Nat) : Int) by rw [IntKind.wrap_u8']; omega, ?_⟩
   refine goL ?_
   refine ⟨Int.natCast_nonneg _, _, byt_getN (i := o + 3) (by omega), rfl, rfl, ?_⟩
   refine goL ?_
   refine ⟨_, wrapN (n := byt sum (o + 3)) rfl (by have := byt_lt sum (o + 3); omega), ?_⟩
   refine goL ?_
   refine ⟨_, wor64 (x := (byt sum o % 128) * 2 ^ 24 + byt sum (o + 1) * 2 ^ 16 + byt sum (o + 2) * 2 ^ 8) (y := byt sum (o + 3)) 8 (by omega) (by have := byt_lt sum (o + 3); omega) (by have h0 := byt_lt sum o; have h1 := byt_lt sum (o + 1); have h2 := byt_lt sum (o + 2); have h3 := byt_lt sum (o + 3); omega), ?_⟩
   refine goL ?_
   refine ⟨hp, _, Int.tmod_eq_emod_of_nonneg (Int.natCast_nonneg _), ?_⟩
   refine goL ?_
   exact ⟨LEP.refl _, LEP.refl _, trivial⟩
 ·rw [show truncF sum d = (0, 1) from if_neg (fun h => hl20 h.1), show decide (((bytesL sum).length : Int) ≠ 20) = true from decide_eq_true (by rw [bytes_len]; omega)]
  refine goL ?_
  exact ⟨LEP.refl _, LEP.refl _, trivial⟩
end Go.So
namespace Go.So
open Go Go.Vc Go.Proofs Go.RowKit
def codeF (key : List UInt8) (c d : Int) : Int × Int := if key.length = 0 ∨ 64 < key.length ∨ c < 0 then (0, 1) else truncF (hmacF key (lenK c.toNat 8)) d
def ml (c i : Nat) : List PV := bytesL (lenK c i) ++ List.replicate (8 - i) (.int .u8 0)
theorem lenK_len (c i : Nat) : (lenK c i).length = i := by unfold lenK; rw [List.length_map, List.length_range]
theorem ml_len {c i : Nat} (h : i ≤ 8) : (ml c i).length = 8 := by
 unfold ml
 rw [List.length_append, bytes_len, lenK_len, List.length_replicate]
 omega
theorem ml_set {c i : Nat} (h : i < 8) : (ml c i).set i (.int .u8 (UInt8.ofNat (c / 2 ^ (56 - 8 * i) % 256)).toNat) = ml c (i + 1) := by
 unfold ml
 rw [List.set_append_right _ _ (by rw [bytes_len, lenK_len]; exact Nat.le_refl _), bytes_len, lenK_len, Nat.sub_self, show 8 - i = (8 - (i + 1)) + 1 by omega, List.replicate_succ, List.set_cons_zero]
 unfold lenK
 rw [List.range_succ, List.map_append, ← bytes_append, List.append_assoc]
 rfl
theorem wshrI (a : Nat) {k : Int} {m : Nat} (hk : k = m) (hm : m ≤ 64) : (a : Int).fdiv (2 ^ (min k.toNat IntKind.i64.bits)) = ((a / 2 ^ m : Nat) : Int) := wshr64 a hk hm
theorem code_ok (key : List UInt8) (c d : Int) (hk : key.length ≤ 140737488355328) (hc : c ≤ 9223372036854775807) (h0 : -9223372036854775808 ≤ d) (h1 : d ≤ 9223372036854775807) :
  K 26 [.p (.lst (bytesL key)), iv c, iv d] (.tup [ii (codeF key c d).1, ii (codeF key c d).2]) := by
 refine PC_of_vc cx_ok mixed { fz := fun r => cond (Nat.beq r 9) [8] (cond (Nat.beq r 10) [10] []) } Tryz.func26 (by kernel_rfl) rfl rfl (by kernel_rfl) ?_
 refine goL ?_
 by_cases hk0 : key.length = 0
 ·rw [show decide (((bytesL key).length : Int) = 0) = true from decide_eq_true (by rw [bytes_len, hk0]; rfl), show codeF key c d = (0, 1) from if_pos (.inl hk0)]
  refine goL ?_
  exact ⟨LEP.refl _, LEP.refl _, trivial⟩
 rw [show decide (((bytesL key).length : Int) = 0) = false from decide_eq_false (by rw [bytes_len]; omega)]
 refine goL ?_
 by_cases hk64 : 64 < key.length
 ·rw [show decide (64 < ((bytesL key).length : Int)) = true from decide_eq_true (by rw [bytes_len]; omega), show codeF key c d = (0, 1) from if_pos (.inr (.inl hk64))]
  refine goL ?_
  exact ⟨LEP.refl _, LEP.refl _, trivial⟩
 rw [show decide (64 < ((bytesL key).length : Int)) = false from decide_eq_false (by rw [bytes_len]; omega)]
 refine goL ?_
 by_cases hc0 : c < 0
 ·rw [show decide (c < 0) = true from decide_eq_true hc0, show codeF key c d = (0, 1) from if_pos (.inr (.inr hc0))]
  refine goL ?_
  exact ⟨LEP.refl _, LEP.refl _, trivial⟩
 obtain ⟨m, hm⟩ : ∃ m, m = hmacF key (lenK c.toNat 8) := ⟨_, rfl⟩
 have hml : m.length = 20 := by rw [hm]; exact hmac_len _ _
 rw [show decide (c < 0) = false from decide_eq_false hc0, show codeF key c d = truncF m d by rw [hm]; exact if_neg (fun h => by omega)]
 obtain ⟨C, rfl⟩ : ∃ C : Nat, c = C := ⟨c.toNat, by omega⟩
 rw [Int.toNat_natCast] at hm
 refine goL ?_
 refine ⟨Rd 8, fun i => S.of [(0, .p (.lst (bytesL key))), (1, iv C), (2, iv d), (8, .ptr 8 0), (23, iv (i.1 : Nat))] [(8, .var true 128 (.p (.agg (ml C i.1))))], fun i => 8 - i.1, Rd.zero 8, ?_, ?_⟩
 ·exact Ge.go
 rintro ⟨i, hi⟩
 refine goL ?_
 refine @bool_rec _ _ _ ?_ ?_ <;> intro h8
 ·have h8 : ((i : Nat) : Int) < 8 := of_decide_eq_true h8
  refine goL ?_
  refine ⟨_, wrapN (n := 8 * i) (by show 8 * ((i : Nat) : Int) = _; omega) (by omega), ?_⟩
  refine goL ?_
  refine ⟨_, wrapN (n := 56 - 8 * i) (by omega) (by omega), ?_⟩
  refine goL ?_
  refine ⟨Int.natCast_nonneg _, _, wshrI C (m := 56 - 8 * i) rfl (by omega), ?_⟩
  refine goL ?_
  refine ⟨_, u8w _, ?_⟩
  refine goL ?_
  refine ⟨Int.natCast_nonneg _, rfl, show i < 8 by omega, ?_⟩
  refine goL ?_
  refine ⟨by show 0 + i * 1 + 1 ≤ ((ml C i).map SV.p).length; rw [List.length_map, ml_len (by omega)]; omega, ⟨_, rfl, rfl⟩, ?_⟩
  refine goL ?_
  refine Eq.mpr (PV.forceL_eq _ _) ?_
  refine goL ?_
  refine ⟨_, wrapN (n := i + 1) rfl (by omega), ?_⟩
  refine goL ?_
  refine ⟨⟨i + 1, by omega⟩, Ge.of rfl ?_ ?_, by show 8 - (i + 1) < 8 - i; omega⟩
  ·repeat (conv => whnf); refine ⟨LE.of rfl, ?_⟩
   trivial
  ·conv => whnf
   refine Eq.mpr (PV.forceL_eq _ _) ?_
   refine ⟨OLE.of (congrArg (fun c => AO.var true 128 (.p (.agg c))) ?_), trivial⟩
   show (ml C i).set (0 + i * 1) (.int .u8 (UInt8.ofNat (C / 2 ^ (56 - 8 * i) % 256)).toNat) = ml C (i + 1)
   rw [Nat.zero_add, Nat.mul_one, ml_set (by omega)]
 have hi8 : i = 8 := by
  have : ¬ ((i : Nat) : Int) < 8 := of_decide_eq_false h8
  omega
 refine goL ?_
 refine ⟨by show 8 = (ml C i).length; rw [ml_len hi], ?_⟩
 refine goL ?_
 have hmac := mac_ok key (lenK C 8) (by omega) (by omega) (by rw [lenK_len]; decide)
 rw [← hm] at hmac
 refine ⟨_, CallVC.le hmac ⟨LE.of rfl, LE.of ?_, trivial⟩ rfl rfl, ?_⟩
 ·show SV.p (.lst (ml C i)) = SV.p (.lst (bytesL (lenK C 8)))
  rw [hi8]
  unfold ml
  simp
 refine goL ?_
 refine Eq.mpr (PV.forceL_eq _ _) ?_
 conv => whnf
 refine ⟨by show some (true, (bytesL m).length) = some (true, 20); rw [bytes_len, hml], ?_⟩
 refine goL ?_
 refine Eq.mpr (PV.forceL_eq _ _) ?_
 refine goL ?_
 refine ⟨by show 20 = (bytesL m).length; rw [bytes_len, hml], ?_⟩
 refine goL ?_
 refine ⟨_, CallVC.pr (trunc_ok m d (by omega) h0 h1) rfl rfl, ?_⟩
 refine goL ?_
 exact ⟨LEP.refl _, LEP.refl _, trivial⟩
end Go.So
namespace Go.Sl
open Go Go.Vc Go.Proofs Go.RowKit
theorem pc_conv {f : FuncId} {args : List SV} {r : Res} (h : PC Go.So.cx f (fun _ => .no) args r) : PC (cx true) f (fun _ => .no) args r :=
 ⟨h.fn, fun ok β w vs hg hlt hr hob hk hk2 hm => h.run ok β w vs ⟨⟨hg.1.1, hg.1.2.1⟩, fun g L e => by cases e⟩ hlt hr (fun κ => trivial) hk hk2 hm⟩
def keyW : List UInt8 := [49, 50, 51, 52, 53, 54, 55, 56, 57, 48, 49, 50, 51, 52, 53, 54, 55, 56, 57, 48]
theorem code1 : Go.So.codeF keyW 1 6 = (287082, 0) := by decide +kernel
theorem codeW_ok : K true 26 [.p (.lst (bytesL keyW)), iv 1, iv 6] (.tup [.int .i64 287082, .int .i64 0]) := by
 have h := Go.So.code_ok keyW 1 6 (by decide) (by decide) (by decide) (by decide)
 rw [code1] at h
 exact pc_conv h
theorem quarters_ok : K true 65 [] (.pv (.agg [.exact (.complex .f64 4607182418800017408 0), .exact (.complex .f64 0 4607182418800017408), .exact (.complex .f64 13830554455654793216 0), .exact (.complex .f64 0 13830554455654793216)])) := by
 refine PC_of_vc (cx_ok true) (mixed true) {} Tryz.func65 (by kernel_rfl) rfl rfl (by kernel_rfl) ?_
 refine goL ?_
 exact LEP.refl _
theorem turn_ok : K true 27 [iv 2] (.pv (.exact (.complex .f64 13830554455654793216 0))) := by
 refine PC_of_vc (cx_ok true) (mixed true) {} Tryz.func27 (by kernel_rfl) rfl rfl (by kernel_rfl) ?_
 refine goL ?_
 refine ⟨_, CallVC.pr quarters_ok rfl rfl, ?_⟩
 refine goL ?_
 refine ⟨2, by decide, ?_⟩
 refine goL ?_
 exact LEP.refl _
theorem wkdc_ok1 (W : Wo) (c : Cln) (hc : W.cs = [c]) : PM (cx true) 22 (woQ W) [.ptr 2000 0] (woQ W) (.ptr 2010 0) := by
 obtain ⟨k, cs, names, pool, given, told, bad, lost, now, n⟩ := W
 simp only at hc
 subst hc
 refine PM_of_vc (cx_ok true) (mixed true) {} Tryz.func22 (by kernel_rfl) rfl rfl (by kernel_rfl) ?_ ?_
 ·rfl
 refine goL ?_
 exact ⟨gI, ⟨rfl, LE.of rfl⟩, ⟨.inr (.inl rfl), .inr (.inl rfl), .inr (.inl rfl), .inr (.inl rfl), .inr (.inl rfl), .inr (.inl rfl), .inr (.inl rfl), .inr (.inl rfl), .inr (.inl rfl), .inr (.inl rfl), .inr (.inl rfl), .inr (.inl rfl), .inr (.inl rfl), .inr (.inl rfl), trivial⟩, rfl, rfl⟩
theorem wclient_ok1 (W : Wo) (c : Cln) (hc : W.cs = [c]) : PM (cx true) 23 (woQ W) [.ptr 2000 0, iv 0] (woQ W) (.ptr 2020 0) := by
 have hi := is_ok1 W c hc 0
 rw [decide_eq_true (by decide : (0 : Int) ≤ 0 ∧ (0 : Int) < 1)] at hi
 obtain ⟨k, cs, names, pool, given, told, bad, lost, now, n⟩ := W
 simp only at hc
 subst hc
 refine PM_of_vc (cx_ok true) (mixed true) { own := fun q => Nat.beq q 100007 } Tryz.func23 (by kernel_rfl) rfl rfl (by kernel_rfl) ?_ ?_
 ·rfl
 refine goL ?_
 refine ⟨_, MCallVC.pr gI hi ⟨LE.of rfl, LE.of rfl, trivial⟩ (by (conv => whnf); exact ⟨.inr (.inl rfl), .inr (.inl rfl), .inr (.inl rfl), .inr (.inl rfl), .inr (.inl rfl), .inr (.inl rfl), .inr (.inl rfl), .inr (.inl rfl), .inr (.inl rfl), .inr (.inl rfl), .inr (.inl rfl), .inr (.inl rfl), .inr (.inl rfl), .inr (.inl rfl), trivial⟩) rfl, ?_⟩
 refine goL ?_
 exact ⟨gI, ⟨rfl, LE.of rfl⟩, ⟨.inr (.inl rfl), .inr (.inl rfl), .inr (.inl rfl), .inr (.inl rfl), .inr (.inl rfl), .inr (.inl rfl), .inr (.inl rfl), .inr (.inl rfl), .inr (.inl rfl), .inr (.inl rfl), .inr (.inl rfl), .inr (.inl rfl), .inr (.inl rfl), .inr (.inl rfl), trivial⟩, rfl, rfl⟩
theorem newCl_inv {nm : Bs} (h : nm.length = 1) : CInv 0 (newCl (cfT nm)) :=
 {on := fun h => (by cases h), nonce := Nat.zero_le _, c0 := Int.le_refl _, c1 := Int.le_refl _, marks := Nat.le_refl _, name := by show nm.length ≤ 1; omega, tick := rfl, host := rfl
  key := by
   have hl : longW.length = 5 := rfl
   have hne : longW ++ nm ≠ [] := by
    intro e
    have q := congrArg List.length e
    rw [List.length_append, hl] at q
    simp at q
   refine (G.kdf (n := longW ++ nm) hne (pw_G (s := nm) (by omega))).mono (Nat.le_refl _) ?_ (by decide)
   rw [List.length_append]
   omega
  seed := (sd_G (s := nm) (by omega)).mono (Nat.le_refl _) (by decide) (Nat.le_refl _) }
theorem usT_inv {nm : Bs} {st : List Bs} (h : nm.length = 1) : G 2 200 3 (usT nm st).key := (newCl_inv h).key
theorem newW_k {us : List Us} (hf : us.length ≤ 3) (h : ∀ u ∈ us, G 2 200 3 u.key ∧ 0 < u.set.length ∧ u.set.length ≤ 3 ∧ (∀ s ∈ u.set, s.length ≤ 20) ∧ u.fails = 0) {room : Int} (r0 : 0 ≤ room) (r1 : room ≤ 64) : KInv 0 ⟨kyT, ckT, us, room, [], 0, []⟩ :=
 {key := rfl, ck := rfl, few := hf, ukey := fun u hu => (h u hu).1, set0 := fun u hu => (h u hu).2.1, set3 := fun u hu => (h u hu).2.2.1, words := fun u hu => (h u hu).2.2.2.1
  f0 := fun u hu => (by rw [(h u hu).2.2.2.2]; exact Int.le_refl _), f1 := fun u hu => (by rw [(h u hu).2.2.2.2]; exact Int.le_refl _), room0 := r0, room1 := r1, nod := List.nodup_nil, cal := r0, d0 := Int.le_refl _, d1 := Int.le_refl _, iss := Nat.le_refl _ }
theorem newW_inv1 {s0 : List Bs} (h0 : 0 < s0.length) (h3 : s0.length ≤ 3) (hw : ∀ s ∈ s0, s.length ≤ 20) {room : Int} (r0 : 0 ≤ room) (r1 : room ≤ 64) : WInv 1 0 (newW [s0] room) :=
 {len := rfl, cs := fun c hc => (by
   rw [List.mem_singleton.1 (show c ∈ [newCl (cfT [97])] from hc)]
   exact newCl_inv rfl)
  k := newW_k (us := [usT [97] s0]) (by decide : 1 ≤ 3) (fun u hu => by
   rw [List.mem_singleton.1 hu]
   exact ⟨usT_inv rfl, h0, h3, hw, rfl⟩) r0 r1
  given := rfl, names := fun s hs => (by rw [List.mem_singleton.1 (show s ∈ [[97]] from hs)]; decide), nlen := rfl, bad := rfl, told := fun t ht => (by cases ht), tlen := Nat.le_refl _, pool := fun t ht => (by cases ht), plen := Nat.le_refl _, t0 := Int.le_refl _, t1 := Int.le_refl _, n0 := Int.le_refl _, n1 := Int.le_refl _ }
theorem wkB_all : (sessT (wk7.cs.getD 0 cl0)).2.2 = true ∧ wk7.k.iss.length = 1 ∧ wk1.pool.length = 1 ∧ wk2.pool.length = 2 ∧ wk3.pool.length = 3 ∧ wk4.pool.length = 4 ∧ wk5.pool.length = 5 ∧ wk6.pool.length = 6 := by
 have h := wkB_yes
 unfold wkB at h
 simp only [Bool.and_eq_true, decide_eq_true_eq] at h
 exact h
abbrev st1 : Stp := ⟨1, 0, 0, zeroT⟩
abbrev st2 (p : Int) : Stp := ⟨2, 0, p, zeroT⟩
abbrev st3 (p : Int) : Stp := ⟨3, 0, p, zeroT⟩
theorem doK1 {W : Wo} (h : W.cs.length = 1) : (doT W st1).1 = (wstartT W 0 (W.cs.getD 0 cl0)).1 := by
 have hM : mayT W st1 = 0 := may_yes (by decide) (by decide) (fun _ => by rw [h]; exact ⟨by decide, by decide⟩) (fun h => absurd h (by decide)) (fun h => absurd h (by decide))
 rw [doT_1 hM]
 rfl
theorem doK2 {W : Wo} {p : Nat} (hp : p < W.pool.length) : (doT W (st2 p)).1 = asks0T W (at_ W.pool p) := by
 have hM : mayT W (st2 p) = 0 := may_yes (by decide : (1 : Int) ≤ 2) (by decide : (2 : Int) ≤ 9) (fun h => absurd h (by simp)) (fun _ => ⟨Int.natCast_nonneg _, by show (p : Int) < _; omega⟩) (fun h => absurd h (by simp))
 rw [doT_2 hM, asks_0]
 rfl
theorem doK3 {W : Wo} (h : W.cs.length = 1) {p : Nat} (hp : p < W.pool.length) : (doT W (st3 p)).1 = (wtakesT W 0 (W.cs.getD 0 cl0) (at_ W.pool p)).1 := by
 have hM : mayT W (st3 p) = 0 := may_yes (by decide : (1 : Int) ≤ 3) (by decide : (3 : Int) ≤ 9) (fun _ => by rw [h]; exact ⟨(by decide : (0 : Int) ≤ 0), (by decide : (0 : Int) < ((1 : Nat) : Int))⟩) (fun _ => ⟨Int.natCast_nonneg _, by show (p : Int) < _; omega⟩) (fun h => absurd h (by simp))
 rw [doT_3 hM]
 rfl
end Go.Sl
namespace Go.Sl
open Go Go.Vc Go.Proofs Go.RowKit
abbrev gW : Nat → Nat := gn [(2000, 1600), (2001, 1601), (2006, 1606), (2005, 1605), (2010, 1610), (2011, 1611), (2013, 1613), (2020, 1620)]
abbrev gWQ : Nat → Nat := gn [(2000, 1600), (2001, 1601), (2006, 1606), (2005, 1605), (2010, 1610), (2011, 1611), (2013, 1613), (2020, 1620), (2101, 1001), (2103, 1003), (2110, 1010), (2120, 1020), (2112, 1012), (2114, 1014)]
theorem leS {a b c : Int} : LE (.p (.agg [.int .i64 a, .int .i64 b, .int .i64 c, .int .i64 0, .str [], .nilS])) (.p (Stp.pv ⟨a, b, c, zeroT⟩)) := LE_agg ⟨LEP.refl _, LEP.refl _, LEP.refl _, LEP.refl _, LEP.refl _, LEP_nil, trivial⟩
def renO (g : Nat → Nat) : List (Nat × AO) → List (Nat × AO)
 | [] => []
 | (k, o) :: l => (g k, o.ren g) :: renO g l
theorem cmp_ok (P : Program) (w : World) : Sem.run P (Op.complexOp BinOp.eql FloatKind.f64 13830554455654793216 0 13830554455654793216 0) w = Result.ok (Value.bool true) w := by
 kernel_rfl
structure DoK (W : Wo) (s : Stp) (V : Wo) : Prop where
 out : ∃ (r : Tm) (e : Int) (c : Cln), V.cs = [c] ∧ PM (cx true) 24 (woO W) [.ptr 2000 0, .p s.pv] (woO V) (.tupS [tv r, iv e])
structure WkI (Vs : Nat → Wo) (i : Nat) (V : Wo) (c : Cln) : Prop where
 i3 : i ≤ 3
 cs : V.cs = [c]
 eq : V = Vs i
set_option maxHeartbeats 8000000 in
theorem works_go {V0 : Wo} {Vs : Nat → Wo} {c0 : Cln} (h0 : V0.cs = [c0])
  (hn : PM (cx true) 15 [] [.p (.lst [.lst (strL [spW, otpM])]), iv 8] (woO V0) (.tupS [.ptr 2000 0, iv 0]))
  (d0 : DoK V0 st1 (Vs 0)) (da : ∀ i, i < 3 → ∃ A, DoK (Vs i) (st2 (2 * i : Nat)) A ∧ DoK A (st3 (2 * i + 1 : Nat)) (Vs (i + 1)))
  (hs : (sessT ((Vs 3).cs.getD 0 cl0)).2.2 = true) (hi : (Vs 3).k.iss.length = 1) (hd : ∀ x ∈ (Vs 3).k.iss, x.done.length ≤ 1000000000) : K true 5 [] (.pv (.bool true)) := by
 obtain ⟨r0, e0, c1, h1, d0⟩ := d0.out
 have hk0 := wkdc_ok1 V0 c0 h0
 have hc0 := wclient_ok1 V0 c0 h0
 obtain ⟨V1, hV1⟩ : ∃ V, V = Vs 0 := ⟨_, rfl⟩
 rw [← hV1] at d0 h1
 obtain ⟨k0, cs0, names0, pool0, given0, told0, bad0, lost0, now0, n0⟩ := V0
 simp only at h0
 subst h0
 obtain ⟨k1, cs1, names1, pool1, given1, told1, bad1, lost1, now1, n1⟩ := V1
 simp only at h1
 subst h1
 refine PC_of_vc (cx_ok true) (mixed true) { own := fun q => Nat.beq q 100012 || Nat.beq q 100023 || Nat.beq q 100028 || Nat.beq q 100033 || Nat.beq q 100042 || Nat.beq q 100048 || Nat.beq q 100051 || Nat.beq q 100052 || Nat.beq q 100065 || Nat.beq q 100066 || Nat.beq q 57, kp := kpT [(7, [0, 1, 3], [1600, 1601, 1001, 1606, 1003, 1605, 1610, 1611, 1613, 1012, 1014, 1010, 1620, 1020]), (8, [0, 1, 3], [1600, 1601, 1001, 1606, 1003, 1605, 1610, 1611, 1613, 1012, 1014, 1010, 1620, 1020]), (9, [0, 1, 3], [1600, 1601, 1001, 1606, 1003, 1605, 1610, 1611, 1613, 1012, 1014, 1010, 1620, 1020]), (10, [0, 1], [1600, 1601, 1001, 1606, 1003, 1605, 1610, 1611, 1613, 1012, 1014, 1010, 1620, 1020])] } Tryz.func5 (by kernel_rfl) rfl rfl (by kernel_rfl) ?_
 refine goL ?_
 refine ⟨_, MCallVC.pr gW hn ⟨LE.of rfl, LE.of rfl, trivial⟩ (by (conv => whnf); exact trivial) rfl, ?_⟩
 refine goL ?_
 refine ⟨_, MCallVC.pr gWQ hk0 ⟨LE.of rfl, trivial⟩ (by (conv => whnf); exact ⟨.inr (.inl rfl), .inr (.inl rfl), .inr (.inl rfl), .inr (.inl rfl), .inr (.inl rfl), .inr (.inl rfl), .inr (.inl rfl), .inr (.inl rfl), .inr (.inl rfl), .inr (.inl rfl), .inr (.inl rfl), .inr (.inl rfl), .inr (.inl rfl), .inr (.inl rfl), trivial⟩) rfl, ?_⟩
 refine goL ?_
 refine ⟨_, MCallVC.pr gWQ hc0 ⟨LE.of rfl, LE.of rfl, trivial⟩ (by (conv => whnf); exact ⟨.inr (.inl rfl), .inr (.inl rfl), .inr (.inl rfl), .inr (.inl rfl), .inr (.inl rfl), .inr (.inl rfl), .inr (.inl rfl), .inr (.inl rfl), .inr (.inl rfl), .inr (.inl rfl), .inr (.inl rfl), .inr (.inl rfl), .inr (.inl rfl), .inr (.inl rfl), trivial⟩) rfl, ?_⟩
 refine goL ?_
 refine ⟨_, MCallVC.pr gW d0 ⟨LE.of rfl, leS, trivial⟩ (by (conv => whnf); exact ⟨.inr (.inl rfl), .inr (.inl rfl), .inr (.inl rfl), .inr (.inl rfl), .inr (.inl rfl), .inr (.inl rfl), .inr (.inl rfl), .inr (.inl rfl), .inr (.inl rfl), .inr (.inl rfl), .inr (.inl rfl), .inr (.inl rfl), .inr (.inl rfl), .inr (.inl rfl), trivial⟩) rfl, ?_⟩
 refine goL ?_
 refine ⟨{ x : Nat × Wo × Cln // WkI Vs x.1 x.2.1 x.2.2 }, fun x => S.of [(0, .p (.bool false)), (1, .ptr 1600 0), (3, iv (x.1.1 : Int))] (renO gW (woO { x.1.2.1 with cs := [x.1.2.2] })), fun x => 3 - x.1.1, ⟨(0, ⟨k1, [c1], names1, pool1, given1, told1, bad1, lost1, now1, n1⟩, c1), ?_⟩, ?_, ?_⟩
 ·exact ⟨Nat.zero_le _, rfl, hV1⟩
 ·exact Ge.go
 rintro ⟨⟨i, V, c⟩, hI⟩
 obtain ⟨i3, hcs, heq⟩ := hI
 simp only at i3 hcs heq
 refine goL ?_
 refine @bool_rec _ _ _ ?_ ?_ <;> intro h1
 ·have hlt : i < 3 := Int.ofNat_lt.1 (of_decide_eq_true h1)
  obtain ⟨A, dA, dB⟩ := da i hlt
  rw [← heq] at dA
  obtain ⟨r1, e1, c2, hc2, dA⟩ := dA.out
  obtain ⟨r2, e2, c3, hc3, dB⟩ := dB.out
  obtain ⟨V2, hV2⟩ : ∃ V, V = Vs (i + 1) := ⟨_, rfl⟩
  rw [← hV2] at dB hc3
  obtain ⟨k, cs, names, pool, given, told, bad, lost, now, n⟩ := V
  simp only at hcs
  subst hcs
  obtain ⟨k2, cs2, names2, pool2, given2, told2, bad2, lost2, now2, n2⟩ := A
  simp only at hc2
  subst hc2
  obtain ⟨k3, cs3, names3, pool3, given3, told3, bad3, lost3, now3, n3⟩ := V2
  simp only at hc3
  subst hc3
  refine goL ?_
  refine ⟨_, wrapN (n := 2 * i) (show (2 : Int) * (i : Int) = ((2 * i : Nat) : Int) by omega) (by omega), ?_⟩
  refine goL ?_
  refine ⟨_, MCallVC.pr gW dA ⟨LE.of rfl, leS, trivial⟩ (by (conv => whnf); exact ⟨.inr (.inl rfl), .inr (.inl rfl), .inr (.inl rfl), .inr (.inl rfl), .inr (.inl rfl), .inr (.inl rfl), .inr (.inl rfl), .inr (.inl rfl), .inr (.inl rfl), .inr (.inl rfl), .inr (.inl rfl), .inr (.inl rfl), .inr (.inl rfl), .inr (.inl rfl), trivial⟩) rfl, ?_⟩
  refine goL ?_
  refine ⟨_, wrapN (n := 2 * i) (show (2 : Int) * (i : Int) = ((2 * i : Nat) : Int) by omega) (by omega), ?_⟩
  refine goL ?_
  refine ⟨_, wrapN (n := 2 * i + 1) (show ((2 * i : Nat) : Int) + 1 = ((2 * i + 1 : Nat) : Int) by omega) (by omega), ?_⟩
  refine goL ?_
  refine ⟨_, MCallVC.pr gW dB ⟨LE.of rfl, leS, trivial⟩ (by (conv => whnf); exact ⟨.inr (.inl rfl), .inr (.inl rfl), .inr (.inl rfl), .inr (.inl rfl), .inr (.inl rfl), .inr (.inl rfl), .inr (.inl rfl), .inr (.inl rfl), .inr (.inl rfl), .inr (.inl rfl), .inr (.inl rfl), .inr (.inl rfl), .inr (.inl rfl), .inr (.inl rfl), trivial⟩) rfl, ?_⟩
  refine goL ?_
  refine ⟨_, wrapN (n := i + 1) (show (i : Int) + 1 = ((i + 1 : Nat) : Int) by omega) (by omega), ?_⟩
  refine goL ?_
  refine ⟨⟨(i + 1, ⟨k3, [c3], names3, pool3, given3, told3, bad3, lost3, now3, n3⟩, c3), ⟨hlt, rfl, hV2⟩⟩, ?_, by show 3 - (i + 1) < 3 - i; omega⟩
  exact Ge.go
 ·have hge : ¬ (i : Int) < (3 : Int) := of_decide_eq_false h1
  obtain rfl : i = 3 := by omega
  rw [← heq] at hs hi hd
  have hk := wkdc_ok1 V c hcs
  have hc := wclient_ok1 V c hcs
  have hse := session_ok c
  rw [hcs] at hs
  have hq : (sessT c).2.2 = true := hs
  rw [hq] at hse
  have hiss := issued_ok V.k (by omega) hd
  clear hs
  obtain ⟨k, cs, names, pool, given, told, bad, lost, now, n⟩ := V
  simp only at hcs
  subst hcs
  simp only at hi hd hiss
  refine goL ?_
  refine ⟨_, MCallVC.pr gWQ hc ⟨LE.of rfl, LE.of rfl, trivial⟩ (by (conv => whnf); exact ⟨.inr (.inl rfl), .inr (.inl rfl), .inr (.inl rfl), .inr (.inl rfl), .inr (.inl rfl), .inr (.inl rfl), .inr (.inl rfl), .inr (.inl rfl), .inr (.inl rfl), .inr (.inl rfl), .inr (.inl rfl), .inr (.inl rfl), .inr (.inl rfl), .inr (.inl rfl), trivial⟩) rfl, ?_⟩
  refine goL ?_
  refine ⟨_, MCallVC.pr gW hse ⟨LE.of rfl, trivial⟩ (by (conv => whnf); exact ⟨.inr (.inl rfl), .inr (.inl rfl), trivial⟩) rfl, ?_⟩
  refine goL ?_
  refine ⟨by (repeat (refine ⟨rfl, ?_⟩)); exact trivial, ?_⟩
  refine goL ?_
  refine ⟨_, CallVC.pr codeW_ok rfl rfl, ?_⟩
  refine goL ?_
  refine ⟨_, MCallVC.pr gWQ hk ⟨LE.of rfl, trivial⟩ (by (conv => whnf); exact ⟨.inr (.inl rfl), .inr (.inl rfl), .inr (.inl rfl), .inr (.inl rfl), .inr (.inl rfl), .inr (.inl rfl), .inr (.inl rfl), .inr (.inl rfl), .inr (.inl rfl), .inr (.inl rfl), .inr (.inl rfl), .inr (.inl rfl), .inr (.inl rfl), .inr (.inl rfl), trivial⟩) rfl, ?_⟩
  refine goL ?_
  refine ⟨_, MCallVC.pr (gn [(2010, 1610), (2011, 1611), (2013, 1613), (2012, 1012), (2014, 1014)]) hiss ⟨LE.of rfl, trivial⟩ (by (conv => whnf); exact ⟨.inr (.inl rfl), .inr (.inl rfl), .inr (.inl rfl), .inr (.inl rfl), .inr (.inl rfl), .inr (.inl rfl), trivial⟩) rfl, ?_⟩
  refine goL ?_
  refine @bool_rec _ _ _ ?_ ?_ <;> intro h5
  ·refine goL ?_
   refine ⟨_, CallVC.pr turn_ok rfl rfl, ?_⟩
   refine goL ?_
   refine ⟨true, cmp_ok, ?_⟩
   refine goL ?_
   exact LEP.refl _
  ·have h5 : ¬ ((isL k.iss).length : Int) = 1 := of_decide_eq_false h5
   rw [isL_len] at h5
   exact absurd (by omega) h5
end Go.Sl
namespace Go.Sl
open Go Go.Vc Go.Proofs Go.RowKit
theorem good1 : GoodU [usT [97] [spW, otpM]] :=
 {few := (by decide : 1 ≤ 32)
  right := fun u hu => by rw [List.mem_singleton.1 hu]; decide +kernel
  apart := fun i h => by
   have : i = 0 := by have : i < 1 := h; omega
   subst this
   exact Nat.not_lt_zero _ }
theorem dok_of {W V : Wo} {s : Stp} {j : Nat} (hV : (doT W s).1 = V) (h : PM (cx true) 24 (woO W) [.ptr 2000 0, .p s.pv] (woO (doT W s).1) (.tupS [tv (doT W s).2.1, iv (doT W s).2.2]) ∧ WInv 1 j (doT W s).1) : DoK W s V ∧ WInv 1 j V := by
 rw [hV] at h
 obtain ⟨c, hc⟩ := len1 h.2.len
 exact ⟨⟨_, _, c, hc, h.1⟩, h.2⟩
theorem wk0_inv : WInv 1 0 wk0 := newW_inv1 (s0 := [spW, otpM]) (room := 8) (by decide) (by decide) (fun s hs => by
 rcases List.mem_cons.1 hs with rfl | hs
 ·decide
 ·rw [List.mem_singleton.1 hs]; decide) (by decide) (by decide)
theorem wk_steps : (DoK wk0 st1 wk1 ∧ WInv 1 3 wk1) ∧ (DoK wk1 (st2 (0 : Nat)) wk2 ∧ WInv 1 6 wk2) ∧ (DoK wk2 (st3 (1 : Nat)) wk3 ∧ WInv 1 9 wk3) ∧ (DoK wk3 (st2 (2 : Nat)) wk4 ∧ WInv 1 12 wk4) ∧ (DoK wk4 (st3 (3 : Nat)) wk5 ∧ WInv 1 15 wk5) ∧ (DoK wk5 (st2 (4 : Nat)) wk6 ∧ WInv 1 18 wk6) ∧ (DoK wk6 (st3 (5 : Nat)) wk7 ∧ WInv 1 21 wk7) := by
 obtain ⟨_, _, p1, p2, p3, p4, p5, p6⟩ := wkB_all
 have i0 := wk0_inv
 have s1 : DoK wk0 st1 wk1 ∧ WInv 1 3 wk1 := dok_of (doK1 i0.len) (step1_ok1 wk0 i0 (by omega) 0 0 zeroT (by decide))
 have s2 : DoK wk1 (st2 (0 : Nat)) wk2 ∧ WInv 1 6 wk2 := dok_of (doK2 (by omega)) (step2_ok1 wk1 s1.2 (by omega) 0 _ zeroT (by decide))
 have s3 : DoK wk2 (st3 (1 : Nat)) wk3 ∧ WInv 1 9 wk3 := dok_of (doK3 s2.2.len (by omega)) (step3_ok1 wk2 s2.2 (by omega) 0 _ zeroT (by decide))
 have s4 : DoK wk3 (st2 (2 : Nat)) wk4 ∧ WInv 1 12 wk4 := dok_of (doK2 (by omega)) (step2_ok1 wk3 s3.2 (by omega) 0 _ zeroT (by decide))
 have s5 : DoK wk4 (st3 (3 : Nat)) wk5 ∧ WInv 1 15 wk5 := dok_of (doK3 s4.2.len (by omega)) (step3_ok1 wk4 s4.2 (by omega) 0 _ zeroT (by decide))
 have s6 : DoK wk5 (st2 (4 : Nat)) wk6 ∧ WInv 1 18 wk6 := dok_of (doK2 (by omega)) (step2_ok1 wk5 s5.2 (by omega) 0 _ zeroT (by decide))
 have s7 : DoK wk6 (st3 (5 : Nat)) wk7 ∧ WInv 1 21 wk7 := dok_of (doK3 s6.2.len (by omega)) (step3_ok1 wk6 s6.2 (by omega) 0 _ zeroT (by decide))
 exact ⟨s1, s2, s3, s4, s5, s6, s7⟩
def wkS : Nat → Wo
 | 0 => wk1
 | 1 => wk3
 | 2 => wk5
 | _ => wk7
theorem wkD : (wk7.k.iss.all fun x => decide (x.done.length ≤ 1000000000)) = true := by decide +kernel
theorem works_ok : K true 5 [] (.pv (.bool true)) := by
 obtain ⟨hs, hi, _⟩ := wkB_all
 obtain ⟨s1, s2, s3, s4, s5, s6, s7⟩ := wk_steps
 obtain ⟨c0, h0⟩ := len1 wk0_inv.len
 refine works_go (V0 := wk0) (Vs := wkS) (c0 := c0) h0 (wnew_ok1 [spW, otpM] 8 good1 (by decide) (by decide) (by decide)) s1.1 (fun i hi => ?_) hs hi (fun x hx => of_decide_eq_true (List.all_eq_true.1 wkD x hx))
 match i, hi with
 | 0, _ => exact ⟨wk2, s2.1, s3.1⟩
 | 1, _ => exact ⟨wk4, s4.1, s5.1⟩
 | 2, _ => exact ⟨wk6, s6.1, s7.1⟩
end Go.Sl
namespace Go.Sl
open Go Go.Vc Go.Proofs Go.RowKit
theorem atomz_ok (b : Bool) (s : Bs) : K b 6 [sv s] (.pv (TV (atomT s))) := by
 refine PC_of_vc (cx_ok b) (mixed b) {} Tryz.func6 (by kernel_rfl) rfl rfl (by kernel_rfl) ?_
 refine goL ?_
 refine ⟨_, CallVC.pr (atom10_ok b s) rfl rfl, ?_⟩
 refine goL ?_
 exact LEP.refl _
theorem and255 (n : Int) : ∃ m : Nat, IntKind.i64.wrap ((BitVec.ofInt IntKind.i64.bits n &&& BitVec.ofInt IntKind.i64.bits 255).toNat : Int) = (m : Int) ∧ m ≤ 255 := by
 have hb : (BitVec.ofInt IntKind.i64.bits 255).toNat = 255 := by decide
 have h : (BitVec.ofInt IntKind.i64.bits n &&& BitVec.ofInt IntKind.i64.bits 255).toNat ≤ 255 := by
  rw [BitVec.toNat_and, hb]
  exact Nat.and_le_right
 exact ⟨_, wrapN rfl (by omega), h⟩
theorem tickets_ok (n : Int) (s : Bs) (n0 : -9223372036854775808 ≤ n) (n1 : n ≤ 9223372036854775807) (hs : s.length ≤ 140737488351232) : K true 3 [iv n, sv s] (.pv (.bool true)) := by
 refine PC_of_vc (cx_ok true) (mixed true) { own := fun q => Nat.beq q 100044 || Nat.beq q 100052 || Nat.beq q 100075 || Nat.beq q 100079 || Nat.beq q 100082 || Nat.beq q 100085 || Nat.beq q 100110 || Nat.beq q 100115, nl := fun r => cond (Nat.beq r 10) [(1520, 36, 1530, 227, 2)] [] } Tryz.func3 (by kernel_rfl) rfl rfl (by kernel_rfl) ?_
 refine goL ?_
 refine ⟨_, CallVC.pr works_ok rfl rfl, ?_⟩
 refine goL ?_
 refine ⟨by omega, ?_⟩
 refine goL ?_
 refine ⟨by omega, ?_⟩
 have hcl : (cut s 0 (min (s.length : Int) 20).toNat).length ≤ 20 := by
  unfold cut
  rw [List.length_take, List.length_drop]
  omega
 revert hcl
 generalize cut s 0 (min (s.length : Int) 20).toNat = w
 intro hcl
 refine goL ?_
 refine ⟨by show 1 + w.length ≤ _; omega, ?_⟩
 refine goL ?_
 obtain ⟨m, hm, hm5⟩ := and255 n
 refine ⟨(m : Int), hm, ?_⟩
 refine goL ?_
 refine ⟨((m % 3 : Nat) : Int), rfl, ?_⟩
 have hk : m % 3 < 3 := Nat.mod_lt _ (by decide)
 revert hk
 generalize m % 3 = k
 intro hk
 refine goL ?_
 obtain ⟨x, hx, hx20, hgood⟩ : ∃ x : Bs, [PV.str chW, PV.str otpM, PV.str spW][k]? = some (.str x) ∧ x.length ≤ 20 ∧ usRight (usZ x) = true := by
  match k, hk with
  | 0, _ => exact ⟨chW, rfl, by decide, usZ_all.1⟩
  | 1, _ => exact ⟨otpM, rfl, by decide, usZ_all.2.1⟩
  | 2, _ => exact ⟨spW, rfl, by decide, usZ_all.2.2⟩
 refine ⟨Int.natCast_nonneg _, .str x, hx, rfl, rfl, ?_⟩
 refine goL ?_
 clear hx hm
 have hnn : ([110] : Bs) ++ w ≠ [] := by simp
 have hnl : (([110] : Bs) ++ w).length ≤ 30 := by rw [List.length_append]; show 1 + w.length ≤ 30; omega
 have hcn := cnew_ok ⟨[97], atomT passN, zeroT, 0, tickZ, hstN⟩ (by decide)
 have hst := start_ok clZ (([110] : Bs) ++ w) subN (by decide) (by omega)
 have hr1 := request_ok (kdZ oneW x) (askZ (([110] : Bs) ++ w)) 0 (kdZ_ok oneW (by decide) hx20) (askZ_wt hnl) (by decide) (by decide)
 have hr2 := request_ok (kdZ twoW x) (askZ (([110] : Bs) ++ w)) 0 (kdZ_ok twoW (by decide) hx20) (askZ_wt hnl) (by decide) (by decide)
 rw [request_two hnn] at hr2
 have hpw := answer_wt hnn hnl hx20
 have hpr := request_one hnn x
 have hpn := refuse_none hnn x
 revert hr1 hpw hpr hpn
 generalize requestT (kdZ oneW x) (askZ (([110] : Bs) ++ w)) 0 = q
 obtain ⟨K1, p⟩ := q
 intro hr1 hpw hpr hpn
 have hpw : wt p ≤ 1000000000 := hpw
 have hpr : (refOfT p).2 = false := hpr
 have hpn : unpackT errW 1 p = none := hpn
 have hf1 := refof_ok true p (wt_fit p hpw) (fun l e => by rw [hpn] at e; cases e)
 have hf2 := refof_ok true (refT 4) (wt_fit _ (by decide +kernel)) (fun l e => (at_len (e := e) (by decide +kernel)))
 rw [refOf_four] at hf2
 revert hf1 hpr
 generalize refOfT p = rp
 obtain ⟨rn, rb⟩ := rp
 intro hpr hf1
 obtain rfl : rb = false := hpr
 have hdr := drawn_ok (kdZ twoW x)
 have his := issued_ok (kdZ twoW x) (Nat.zero_le _) (fun y hy => by cases hy)
 have hgd := usZ_good hgood
 have hk1 := knew_ok (atomT oneW) (atomT [99, 111, 111, 107, 105, 101]) [usZ x] 8 hgd (by decide) (by decide)
 have hk2 := knew_ok (atomT twoW) (atomT [99, 111, 111, 107, 105, 101]) [usZ x] 8 hgd (by decide) (by decide)
 refine ⟨_, CallVC.pr (atomz_ok true keyN) rfl rfl, ?_⟩
 refine goL ?_
 refine ⟨_, CallVC.pr (atomz_ok true seedN) rfl rfl, ?_⟩
 refine goL ?_
 refine ⟨_, CallVC.pr (atomz_ok true oneW) rfl rfl, ?_⟩
 refine goL ?_
 refine ⟨_, CallVC.pr (atomz_ok true [99, 111, 111, 107, 105, 101]) rfl rfl, ?_⟩
 refine goL ?_
 refine ⟨_, MCallVC.pr (gn [(2010, 1510), (2011, 1511), (2013, 1513), (2012, 1512), (2014, 1514), (1010, 1515)]) hk1 ⟨LE.of rfl, LE.of rfl, LE.of rfl, LE.of rfl, trivial⟩ (by (conv => whnf); exact trivial) rfl, ?_⟩
 refine goL ?_
 refine ⟨_, CallVC.pr (atomz_ok true twoW) rfl rfl, ?_⟩
 refine goL ?_
 refine ⟨_, CallVC.pr (atomz_ok true [99, 111, 111, 107, 105, 101]) rfl rfl, ?_⟩
 refine goL ?_
 refine ⟨_, MCallVC.pr (gn [(2010, 1610), (2011, 1611), (2013, 1613), (2012, 1612), (2014, 1614), (1010, 1615)]) hk2 ⟨LE.of rfl, LE.of rfl, LE.of rfl, LE.of rfl, trivial⟩ (by (conv => whnf); exact trivial) rfl, ?_⟩
 refine goL ?_
 refine ⟨_, CallVC.pr (atomz_ok true passN) rfl rfl, ?_⟩
 refine goL ?_
 refine ⟨_, CallVC.pr (atomz_ok true oneW) rfl rfl, ?_⟩
 refine goL ?_
 refine ⟨_, CallVC.pr (atomz_ok true [104, 111, 115, 116]) rfl rfl, ?_⟩
 refine goL ?_
 refine ⟨_, CallVC.pr (ticket16_ok true (atomT oneW) hstN) rfl rfl, ?_⟩
 refine goL ?_
 refine ⟨_, CallVC.pr (atomz_ok true [104, 111, 115, 116]) rfl rfl, ?_⟩
 refine goL ?_
 refine ⟨_, MCallVC.pr (gn [(2020, 1520)]) hcn ⟨LE_agg ⟨LEP.refl _, LEP.refl _, LEP.refl _, LEP.refl _, LEP.refl _, LEP.refl _, LEP_nil, LEP.refl _, LEP.refl _, LEP.refl _, LEP.refl _, LEP.refl _, LEP.refl _, LEP.refl _, trivial⟩, trivial⟩ (by (conv => whnf); exact trivial) rfl, ?_⟩
 refine goL ?_
 refine ⟨_, CallVC.pr (atomz_ok true [115, 117, 98]) rfl rfl, ?_⟩
 refine goL ?_
 refine ⟨_, MCallVC.pr (gn [(2020, 1520), (1020, 1530)]) hst ⟨LE.of rfl, LE.of rfl, LE.of rfl, trivial⟩ (by (conv => whnf); exact ⟨.inr (.inl rfl), .inr (.inl rfl), trivial⟩) rfl, ?_⟩
 refine goL ?_
 refine ⟨_, MCallVC.pr (gn [(2010, 1510), (2011, 1511), (2013, 1513), (2012, 1512), (2014, 1514), (1010, 1515)]) hr1 ⟨LE.of rfl, LE.of rfl, LE.of rfl, trivial⟩ (by (conv => whnf); exact ⟨.inr (.inl rfl), .inr (.inl rfl), .inr (.inl rfl), .inr (.inl rfl), .inr (.inl rfl), .inr (.inl rfl), trivial⟩) rfl, ?_⟩
 refine goL ?_
 refine ⟨_, MCallVC.pr (gn [(2010, 1610), (2011, 1611), (2013, 1613), (2012, 1612), (2014, 1614), (1010, 1615)]) hr2 ⟨LE.of rfl, LE.of rfl, LE.of rfl, trivial⟩ (by (conv => whnf); exact ⟨.inr (.inl rfl), .inr (.inl rfl), .inr (.inl rfl), .inr (.inl rfl), .inr (.inl rfl), .inr (.inl rfl), trivial⟩) rfl, ?_⟩
 refine goL ?_
 refine ⟨_, CallVC.pr hf1 rfl rfl, ?_⟩
 refine goL ?_
 refine ⟨_, CallVC.pr hf2 rfl rfl, ?_⟩
 refine goL ?_
 refine ⟨_, MCallVC.pr (gn [(2010, 1610), (2011, 1611), (2013, 1613), (2012, 1612), (2014, 1614), (1010, 1615)]) hdr ⟨LE.of rfl, trivial⟩ (by (conv => whnf); exact ⟨.inr (.inl rfl), .inr (.inl rfl), .inr (.inl rfl), .inr (.inl rfl), .inr (.inl rfl), .inr (.inl rfl), trivial⟩) rfl, ?_⟩
 refine goL ?_
 refine ⟨_, MCallVC.pr (gn [(2010, 1610), (2011, 1611), (2013, 1613), (2012, 1612), (2014, 1614), (1010, 1615)]) his ⟨LE.of rfl, trivial⟩ (by (conv => whnf); exact ⟨.inr (.inl rfl), .inr (.inl rfl), .inr (.inl rfl), .inr (.inl rfl), .inr (.inl rfl), .inr (.inl rfl), trivial⟩) rfl, ?_⟩
 refine goL ?_
 exact LEP.refl _
end Go.Sl
namespace Go.Sl
open Go Go.Vc Go.Proofs Go.RowKit
theorem cellsInt : Tryz.prog.cellsOf 3 = 1 := by kernel_rfl
theorem cellsStr : Tryz.prog.cellsOf 9 = 1 := by kernel_rfl
theorem undInt : Tryz.prog.underlying 3 = some (.int .i64) := Tryz.underlying3
theorem undStr : Tryz.prog.underlying 9 = some .string := Tryz.underlying9
abbrev okW (W : World) : Nat → Prop := fun b => b < W.heap.size
theorem len3 {α : Type} : ∀ {l : List α}, l.length = 3 → ∃ a b c, l = [a, b, c]
 | [a, b, c], _ => ⟨a, b, c, rfl⟩
section
variable {H : Type} {enc : TypeId × Value → H} {W : World} {sp : Nat → Bool} {held : Bool}
end
end Go.Sl
namespace Go.Sl
open Go Go.Vc Go.Proofs Go.RowKit Go.ChangeShapes Go.WideShapes Go.ChangeAt
open Go.Proofs.YteicafhbhdliaaaGreatDoor
theorem own : ownKnob Tryz.prog.godebug = none := by kernel_rfl
theorem laidOut : laidOutB Tryz.prog = true := by kernel_rfl
theorem undBool : Tryz.prog.underlying 4 = some .bool := Tryz.underlying4
theorem laidMet_tail {P : Program} {W : World} {x : String × DataW Unit} {l : List (String × DataW Unit)} (h : laidMet P (x :: l) W) : laidMet P l W := by
 obtain ⟨n, d⟩ := x
 obtain ⟨ps, ⟨g, t, cs, fuel, p, q, _, _, _, _, hr, e⟩, hn, hc⟩ := h
 subst e
 rw [List.nodup_append] at hn
 exact ⟨q, hr, hn.2.1, fun b off hm => hc b off (List.mem_append_right _ hm)⟩
theorem gPow : Tryz.prog.globalNamed "internal/strconv.uint64pow10" = some 3 := by kernel_rfl
theorem below_all {H : Type} {enc : TypeId × Value → H} {W W' : World} (hb : Below W.heap.size W W') {ts : List TypeId} : ∀ {vs : List Value} {ds : List (DataW H)} {ps : List MemPlace},
  (ts.all fun t => Tryz.prog.readableRec t && decide (t < Tryz.prog.types.size)) = true → DataW.TrodAll enc Tryz.prog W 0 (fun _ => true) true ts vs ds ps →
   (∀ x ∈ ps, x.block < W.heap.size) → DataW.TrodAll enc Tryz.prog W' 0 (fun b => decide (b < W.heap.size)) true ts vs ds ps := by
 induction ts with
 | nil =>
  intro vs ds ps _ h _
  obtain ⟨rfl, rfl, rfl⟩ := trodAll_nil h
  rfl
 | cons t ts ih =>
  intro vs ds ps hts h hlt
  obtain ⟨v, vs', d, ds', p, q, rfl, rfl, rfl, h1, h2⟩ := trodAll_cons h
  rw [List.all_cons, Bool.and_eq_true, Bool.and_eq_true] at hts
  exact ⟨p, q, Below.trod laidOut hts.1.1 (of_decide_eq_true hts.1.2) h1 hb fun x hx => hlt x (List.mem_append_left _ hx), ih hts.2 h2 fun x hx => hlt x (List.mem_append_right _ hx), rfl⟩
theorem post_true {H : Type} {enc : TypeId × Value → H} {fn : Func} {s : ChangeSpec} {W W' : World} {args : Array Value} {ds gs : List (DataW H)} {before : List MemPlace}
  (hres : fn.resultTypes = #[4]) (hv : s.vars = []) (hts : (fn.params.toList.all fun t => Tryz.prog.readableRec t && decide (t < Tryz.prog.types.size)) = true)
  (hs : s.fn H (ds ++ gs) = { results := [.lit (.bool true)], args := ds }) (hW : DataW.Whole enc Tryz.prog fn.params.toList s.vars false W args.toList ds gs before) (hb : Below W.heap.size W W') :
  s.post enc Tryz.prog fn false true false false W args (.bool true) W' := by
 have hlt : ∀ x ∈ before, x.block < W.heap.size := fun x hx => by simpa using hW.lt x hx
 have hW' := hW
 obtain ⟨p, q, hA, hV, rfl, _, _⟩ := hW
 rw [hv] at hV
 obtain ⟨rfl, rfl⟩ := trodVars_none hV
 refine ⟨ds, [], p ++ [], [], p, [], hW', ?_, ?_, ?_, hb.frame _, fun h => by cases h⟩
 ·rw [hs, hres]
  exact trodAll_cons_mk (shut_bool undBool _) trodAll_mk0
 ·rw [hs]
  exact below_all hb hts hA fun x hx => hlt x (by simpa using hx)
 ·rw [hs, hv]
  rfl
theorem open_text {H : Type} {enc : TypeId × Value → H} {W : World} {base : Nat} {v : Value} {d : DataW H} {p : List MemPlace} (hval : Value.okWide Tryz.prog W .any base 9 v) (h : DataW.Trod enc Tryz.prog W 0 (fun _ => true) true 9 v d p) :
  ∃ s : Bs, v = .string ⟨s.toArray⟩ ∧ d = .lit (.string s) := by
 obtain ⟨s, rfl, rfl, _, _⟩ := Go.ChangeMaps.open_string undStr hval h
 exact ⟨s.data.toList, by simp, rfl⟩
theorem open_num {H : Type} {enc : TypeId × Value → H} {W : World} {base : Nat} {v : Value} {d : DataW H} {p : List MemPlace} (hval : Value.okWide Tryz.prog W .any base 3 v) (h : DataW.Trod enc Tryz.prog W 0 (fun _ => true) true 3 v d p) :
  ∃ n : Int, v = .int .i64 n ∧ -9223372036854775808 ≤ n ∧ n ≤ 9223372036854775807 := by
 obtain ⟨n, rfl, rfl, _, hw⟩ := open_int undInt hval h
 exact ⟨n, rfl, (Go.bounds_i64 hw).1, (Go.bounds_i64 hw).2⟩
def fillB (cs : Array Value) : Obj → Obj
 | .cells _ t fr => .cells cs t fr
 | o => o
theorem undKind : ∃ fs : Array Field, Tryz.prog.underlying 246 = some (.struct fs) ∧ fs.toList.map (fun f => (f.offset, f.type)) = [(0, 9), (1, 3), (2, 4)] := ⟨_, Tryz.underlying246, by kernel_rfl⟩
theorem cellsKind : Tryz.prog.cellsOf 246 = 3 := by kernel_rfl
theorem cellsBool : Tryz.prog.cellsOf 4 = 1 := by kernel_rfl
theorem kindD_of {enc : TypeId × Value → Unit} {W : World} {sp : Nat → Bool} {held : Bool} {m : Nat} {cs : List Value} {l : List UInt8} {n : Int} {b : Bool} {p : List MemPlace}
  (h : DataW.trod enc Tryz.prog W 0 sp held m 246 cs = some (.agg [.lit (.string l), .lit (.int .i64 n), .lit (.bool b)], p)) : cs = [.string ⟨l.toArray⟩, .int .i64 n, .bool b] := by
 obtain ⟨fs, hu, hfs⟩ := undKind
 obtain ⟨xs, m', hm, hx, hlen, hxl, hget⟩ := DataW.trod_struct hu h
 rw [cellsKind] at hlen
 obtain ⟨c0, c1, c2, rfl⟩ := len3 hlen
 have hfl : fs.toList.length = 3 := by have := congrArg List.length hfs; simpa using this
 have hf3 : fs.size = 3 := (Array.length_toList (xs := fs)).symm.trans hfl
 have hfi : ∀ i (hi : i < 3) , ∃ f, fs[i]? = some f ∧ [(0, 9), (1, 3), (2, 4)][i]? = some (f.offset, f.type) := by
  intro i hi
  have : (fs.toList.map (fun f => (f.offset, f.type)))[i]? = _ := congrArg (·[i]?) hfs
  rw [List.getElem?_map] at this
  have hlt : i < fs.toList.length := by omega
  rw [List.getElem?_eq_getElem hlt] at this
  exact ⟨fs.toList[i], by simp, this.symm⟩
 have hxs : xs.map (·.1) = [.lit (.string l), .lit (.int .i64 n), .lit (.bool b)] := by
  simp only [Prod.mk.injEq, DataW.agg.injEq] at hx
  exact hx.1.symm
 have hxi : ∀ (i : Nat) (d : DataW Unit), [DataW.lit (H := Unit) (.string l), .lit (.int .i64 n), .lit (.bool b)][i]? = some d → ∃ y : List MemPlace, xs[i]? = some (d, y) := by
  intro i d hd
  rw [← hxs, List.getElem?_map] at hd
  obtain ⟨z, hz, rfl⟩ := Option.map_eq_some_iff.1 hd
  exact ⟨z.2, hz⟩
 obtain ⟨f0, g0, e0⟩ := hfi 0 (by omega)
 obtain ⟨f1, g1, e1⟩ := hfi 1 (by omega)
 obtain ⟨f2, g2, e2⟩ := hfi 2 (by omega)
 simp at e0 e1 e2
 obtain ⟨y0, k0⟩ := hxi 0 _ rfl
 obtain ⟨y1, k1⟩ := hxi 1 _ rfl
 obtain ⟨y2, k2⟩ := hxi 2 _ rfl
 have q0 := (hget 0 f0 g0).trans k0
 have q1 := (hget 1 f1 g1).trans k1
 have q2 := (hget 2 f2 g2).trans k2
 rw [← e0.1, ← e0.2, cellsStr] at q0
 rw [← e1.1, ← e1.2, cellsInt] at q1
 rw [← e2.1, ← e2.2, cellsBool] at q2
 obtain ⟨s, hs, hd0, _⟩ := DataW.trod_string undStr q0
 obtain ⟨k, hk, hd1, _⟩ := DataW.trod_int undInt q1
 obtain ⟨b', hb, hd2⟩ := DataW.trod_bool undBool q2
 simp at hs hk hb hd0 hd1 hd2
 rw [hs, hk, hb, ← hd1.1, ← hd2.1]
 have : l = s.data.toList := hd0.1
 rw [this]
theorem kinds_of {W : World} (h : laidMet Tryz.prog [("sluiceway/term.kinds", Rows.laid_sluiceway_term_kinds)] W) : RPE (okW W) W 3 kindsL (some ⟨0, 0, none⟩) 0 := by
 obtain ⟨ps, ⟨g', t', cs, fuel, p, q, hg', ht', hvar, hd, _, _⟩, _⟩ := h
 have hg : Tryz.prog.globalNamed "sluiceway/term.kinds" = some 0 := by kernel_rfl
 have ht : (Tryz.prog.globals[0]?).map (·.type) = some 247 := by kernel_rfl
 obtain rfl := Option.some.inj (hg.symm.trans hg')
 obtain rfl := Option.some.inj (ht.symm.trans ht')
 have hu : Tryz.prog.underlying 247 = some (.array 11 246) := Tryz.underlying247
 obtain ⟨xs, m, hm, hx, hlen, hxl, hget⟩ := DataW.trod_array hu hd
 rw [show Tryz.prog.cellsOf 247 = 33 by kernel_rfl] at hlen
 rw [cellsKind] at hget
 have hxs : DataW.agg (xs.map (·.1)) = Rows.laid_sluiceway_term_kinds (H := Unit) := by
  simp only [Prod.mk.injEq] at hx
  exact hx.1.symm
 refine RPE_of fun i x hi => ?_
 have hi11 : i < 11 := (List.getElem?_eq_some_iff.1 hi).1
 have key : ∀ (l : List UInt8) (n : Int) (b : Bool), x = kd l n b → (xs.map (·.1))[i]? = some (.agg [.lit (.string l), .lit (.int .i64 n), .lit (.bool b)]) → (cs.toList.drop (i * 3)).take 3 = [.string ⟨l.toArray⟩, .int .i64 n, .bool b] := by
  intro l n b _ h
  rw [List.getElem?_map] at h
  obtain ⟨z, hz, e⟩ := Option.map_eq_some_iff.1 h
  have h1 := hget i hi11
  rw [hz, show z = (z.1, z.2) from rfl, e] at h1
  exact kindD_of h1
 have fin : ∀ (l : List UInt8) (n : Int) (b : Bool), x = kd l n b → (xs.map (·.1))[i]? = some (.agg [.lit (.string l), .lit (.int .i64 n), .lit (.bool b)]) → ∃ ad c, some (⟨0, 0, none⟩ : Addr) = some ad ∧ okW W ad.block ∧ RP (okW W) W x c ∧ c.cells.size = 3 ∧ ∀ j u, c.cells[j]? = some u → W.cell? (ad.add ((0 + i) * 3 + j)) = some u := by
  intro l n b hx h
  have hc := key l n b hx h
  subst hx
  have hcell : ∀ j u, [Value.string ⟨l.toArray⟩, .int .i64 n, .bool b][j]? = some u → W.cell? ⟨0, i * 3 + j, none⟩ = some u := by
   intro j u hj
   rw [← hc] at hj
   have h5 := getElem?_sub hj
   have := World.var?_cell hg hvar (i * 3 + j)
   rw [this]
   simpa using h5
  refine ⟨_, .agg #[.string ⟨l.toArray⟩, .int .i64 n, .bool b], rfl, ?_, ?_, rfl, fun j u hj => ?_⟩
  ·exact World.block_lt_of_cell? W ⟨0, i * 3 + 0, none⟩ (hcell 0 _ rfl)
  ·rw [kd, RP]
   refine ⟨_, rfl, ?_, by rw [RP], by rw [RP], by rw [RP], trivial⟩
   intro u hu
   simp at hu
   rcases hu with rfl | rfl | rfl <;> rfl
  ·rw [Vc.add_plain, Nat.zero_add, Nat.zero_add]
   exact hcell j u (by simpa [Value.cells] using hj)
 have hxs' : xs.map (·.1) = _ := DataW.agg.inj hxs
 rw [hxs'] at fin
 match i, hi11, hi with
 | 0, _, hi => cases hi; exact fin _ _ _ rfl rfl
 | 1, _, hi => cases hi; exact fin _ _ _ rfl rfl
 | 2, _, hi => cases hi; exact fin _ _ _ rfl rfl
 | 3, _, hi => cases hi; exact fin _ _ _ rfl rfl
 | 4, _, hi => cases hi; exact fin _ _ _ rfl rfl
 | 5, _, hi => cases hi; exact fin _ _ _ rfl rfl
 | 6, _, hi => cases hi; exact fin _ _ _ rfl rfl
 | 7, _, hi => cases hi; exact fin _ _ _ rfl rfl
 | 8, _, hi => cases hi; exact fin _ _ _ rfl rfl
 | 9, _, hi => cases hi; exact fin _ _ _ rfl rfl
 | 10, _, hi => cases hi; exact fin _ _ _ rfl rfl
theorem kinds_tab {W : World} (hk : RPE (okW W) W 3 kindsL (some ⟨0, 0, none⟩) 0) (g : Nat) (L : List PV) (e : (cx true).tab g = some L) : ∃ sz, RPE (okW W) W sz L (some ⟨g, 0, none⟩) 0 := by
 have e : (if g = 0 then some kindsL else none) = some L := by rw [← beq_ite]; exact e
 split at e
 ·rename_i hgg
  subst hgg
  cases e
  exact ⟨3, hk⟩
 ·cases e
end Go.Sl
namespace Go.Sl
open Go Go.Vc Go.Proofs Go.RowKit Go.ChangeShapes Go.WideShapes Go.ChangeAt
open Go.Proofs.YteicafhbhdliaaaGreatDoor
theorem undErr : ∃ ms : Array (String × TypeId), Tryz.prog.underlying 168 = some (.interface ms) := ⟨_, Tryz.underlying168⟩
theorem err_of {W : World} {n nm : String} {d : DataW Unit} {rest : List (String × DataW Unit)} {g : Nat} (hg : Tryz.prog.globalNamed n = some g) (ht : (Tryz.prog.globals[g]?).map (·.type) = some 168) (h : laidMet Tryz.prog ((n, .iface nm d) :: rest) W) : isErr W n := by
 obtain ⟨ps, ⟨g', t', cs, fuel, p, q, hg', ht', hvar, hd, _, _⟩, _⟩ := h
 obtain rfl := Option.some.inj (hg.symm.trans hg')
 obtain rfl := Option.some.inj (ht.symm.trans ht')
 obtain ⟨ms, hu⟩ := undErr
 obtain ⟨f, u, v, hcs, _, _⟩ := iface_of_trod hu hd
 refine ⟨u, v, ?_⟩
 rw [hvar]
 congr 1
 exact Array.toList_inj.1 hcs
theorem gErrR : (Tryz.prog.globals[2]?).map (·.type) = some 168 := by kernel_rfl
theorem gErrS : (Tryz.prog.globals[1]?).map (·.type) = some 168 := by kernel_rfl
abbrev laidZ : List (String × DataW Unit) := [("math/bits.deBruijn32tab", Rows.laid_math_bits_deBruijn32tab), ("math/bits.deBruijn64tab", Rows.laid_math_bits_deBruijn64tab), ("internal/strconv.uint64pow10", Rows.laid_internal_strconv_uint64pow10), ("strconv.ErrRange", Rows.laid_strconv_ErrRange), ("strconv.ErrSyntax", Rows.laid_strconv_ErrSyntax), ("sluiceway/term.kinds", Rows.laid_sluiceway_term_kinds)]
theorem gx_of {W : World} (h : laidMet Tryz.prog laidZ W) : GX (cx true) (okW W) W := by
 have hx : X10 W := Lib.tabIs_of_head (rest := [("strconv.ErrRange", Rows.laid_strconv_ErrRange), ("strconv.ErrSyntax", Rows.laid_strconv_ErrSyntax), ("sluiceway/term.kinds", Rows.laid_sluiceway_term_kinds)]) gPow (t := 289) (e := 258) (n := 20) (by kernel_rfl) Tryz.underlying289 Tryz.underlying258 (by kernel_rfl) (by kernel_rfl) (laidMet_tail (laidMet_tail h))
 have h3 := laidMet_tail (laidMet_tail (laidMet_tail h))
 have hR : isErr W "strconv.ErrRange" := err_of gXR gErrR h3
 have hS : isErr W "strconv.ErrSyntax" := err_of gXS gErrS (laidMet_tail h3)
 have hk := kinds_of (laidMet_tail (laidMet_tail h3))
 exact ⟨⟨hx, X10_lt hx, ⟨hS, isErr_lt gXS hS⟩, hR, isErr_lt gXR hR⟩, kinds_tab hk⟩
theorem run_lawZ {f : FuncId} {args : List SV} {vs : List Value} {W : World} (h : K true f args (.pv (.bool true))) (hx : GX (cx true) (okW W) W) (hr : RL (okW W) (fun _ => undef) W args vs) (hkk : SV.keysL args = []) :
  Calls Tryz.prog f vs.toArray W fun e W' => e = .returned (.bool true) ∧ Below W.heap.size W W' := by
 refine (h.run (okW W) (fun _ => undef) W vs hx (fun b hb => hb) hr (fun κ => trivial) (fun κ hκ => by rw [hkk] at hκ; cases hκ) (fun κ κ' hκ => by cases hκ) (fun _ => rfl)).mono ?_
 rintro e W' ⟨v, rfl, hv, hb⟩
 rw [RES, RP] at hv
 exact ⟨by rw [hv], hb⟩
noncomputable def lowZ : Nat := (World.holding Tryz.prog default ⟨#[], #[], []⟩).heap.size
abbrev rangeZ : ByteArray := { data := #[118, 97, 108, 117, 101, 32, 111, 117, 116, 32, 111, 102, 32, 114, 97, 110, 103, 101] }
abbrev syntaxZ : ByteArray := { data := #[105, 110, 118, 97, 108, 105, 100, 32, 115, 121, 110, 116, 97, 120] }
noncomputable def laidWorldZ (os : Os) : World :=
 let w0 := World.holding Tryz.prog os ⟨#[.cells #[.string rangeZ] 308, .cells #[.string syntaxZ] 308], #[], []⟩
 {w0 with heap := (((((w0.heap.modify 4 (fillB ([0, 1, 28, 2, 29, 14, 24, 3, 30, 22, 20, 15, 25, 17, 4, 8, 31, 27, 13, 23, 21, 19, 16, 7, 26, 12, 18, 6, 11, 5, 10, 9].map (Value.int .u8)).toArray)).modify 5 (fillB ([0, 1, 56, 2, 57, 49, 28, 3, 61, 58, 42, 50, 38, 29, 17, 4, 62, 47, 59, 36, 45, 43, 51, 22, 53, 39, 33, 30, 24, 18, 12, 5, 63, 55, 48, 27, 60, 41, 37, 16, 46, 35, 44, 21, 52, 32, 23, 11, 54, 26, 40, 15, 34, 20, 31, 10, 25, 14, 19, 9, 13, 8, 7, 6].map (Value.int .u8)).toArray)).modify 3 (fillB (Lib.pow10Tab.map (Value.int .u64)).toArray)).modify 2 (fillB #[.iface 306 (.pointer (some ⟨lowZ, 0, none⟩))])).modify 1 (fillB #[.iface 306 (.pointer (some ⟨lowZ + 1, 0, none⟩))])).modify 0 (fillB #[.string ⟨#[]⟩, .int .i64 0, .bool false, .string ⟨#[100]⟩, .int .i64 0, .bool true, .string ⟨#[97]⟩, .int .i64 0, .bool true, .string ⟨#[112]⟩, .int .i64 (-1), .bool false, .string ⟨#[101]⟩, .int .i64 2, .bool false, .string ⟨#[109]⟩, .int .i64 2, .bool false, .string ⟨#[104]⟩, .int .i64 1, .bool false, .string ⟨#[107]⟩, .int .i64 1, .bool true, .string ⟨#[117]⟩, .int .i64 1, .bool false, .string ⟨#[115]⟩, .int .i64 2, .bool false, .string ⟨#[120]⟩, .int .i64 2, .bool false]) }
end Go.Sl
