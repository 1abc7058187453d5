/- Part 20 of the proof: Bd Be Bf Bg Bh Yt Yu. -/
import Derived.Test.YteicafhbhdliaaaGreatDoorOas
set_option linter.unusedSimpArgs false
set_option linter.unusedVariables false
set_option maxHeartbeats 4000000
namespace Go.So
open Go Go.Vc Go.Proofs Go.RowKit
def gid : Nat -> Nat := fun k => k
def a9 : Nat -> S5 -> List UInt8 -> S5 × List UInt8
 | 0, s, L => (s, L)
 | k + 1, s, L => if 64 <= L.length then a9 k (blk s (L.take 64)) (L.drop 64) else (s, L)
theorem lM (k : Nat) (s : S5) (L : List UInt8) (h : L.length < 64) : a9 k s L = (s, L) := by
 cases k with
 | zero => rfl
 | succ k => rw [a9, if_neg (by omega)]
theorem mL : ∀ (k : Nat) {s : S5} (L : List UInt8), s.ok -> (a9 k s L).1.ok
 | 0, s, L, h => h
 | k + 1, s, L, h => by
  rw [a9];split
  ·exact mL k _ (wG _ _)
  ·exact h
theorem po : ∀ (k : Nat) (s : S5) (L : List UInt8), L.length <= k -> (a9 k s L).2.length < 64 /\ (a9 k s L).2.length <= L.length /\ (a9 k s L).2.length % 64 = L.length % 64
 | 0, s, L, h => by rw [a9]; simp; omega
 | k + 1, s, L, h => by
  rw [a9];split
  ·have := po k (blk s (L.take 64)) (L.drop 64) (by rw [List.length_drop]; omega);rw [List.length_drop] at this;omega
  ·exact ⟨by simp; omega, Nat.le_refl _, rfl⟩
theorem j6 (L : List UInt8) (lo hi : Nat) : cut (ah L) lo hi = ah ((L.drop lo).take (hi - lo)) := by
 unfold cut ah;rw [List.map_take, List.map_drop]
theorem cF (L M : List UInt8) : ah L ++ ah M = ah (L ++ M) := by unfold ah; rw [List.map_append]
theorem uJ {b : List UInt8} (h : b.length <= 140737488355328) : IntKind.u64.wrap ((ah b).length : Int) = ((b.length : Nat) : Int) := by
 rw [an, IntKind.wrap_u64]; omega
theorem wH {a : Int} {m : Nat} (h : a = m) (hm : m < 18446744073709551616) : IntKind.u64.wrap a = m := by
 rw [IntKind.wrap_u64]; omega
theorem zv (s : S5) (hs : s.ok) (n : Nat) (b : List UInt8) (hb : b.length <= 140737488355328) (hn : n <= 140737488355328) :
  PM cx 167 [(2000, HS s .nilS n)] [.ptr 2000 0, .p (.lst (ah b))] [(2000, HS (a9 b.length s b).1 (.lst (ah (a9 b.length s b).2)) (n + b.length))] (.tupS []) := by
 obtain ⟨fin, hfin⟩ : ∃ fin, fin = a9 b.length s b := ⟨_, rfl⟩
 rw [<- hfin];refine aW bo bp { own := oO [100035] } Tryz.func167 (by kernel_rfl) rfl rfl (by kernel_rfl) ?_ ?_
 ·rfl
 refine goL ?_;refine ⟨_, uJ hb, goL ?_⟩;refine ⟨_, wH (m := n + b.length) (by omega) (by omega), goL ?_⟩;refine ⟨eh _, goL ?_⟩;refine ⟨by show (ah b).length * 1 <= _; rw [an]; omega, goL ?_⟩;refine ⟨{ x : Nat × S5 × List UInt8 // a9 x.1 x.2.1 x.2.2 = fin /\ x.2.2.length <= x.1 /\ x.2.1.ok /\ x.2.2.length <= 140737488355328 }, fun x => S.of [(0, .ptr 2000 0)] [(2000, HS x.1.2.1 (.lst (ah x.1.2.2)) (n + b.length))], fun x => x.1.2.2.length, ⟨(b.length, s, b), hfin.symm, Nat.le_refl _, hs, hb⟩, ?_, ?_⟩
 ·exact Ge.go
 rintro ⟨⟨k, t, L'⟩, hfin, hk, ht, hbig⟩
 refine goL ?_;refine aa ?_ ?_ <;> intro hh
 ·have h : 64 <= ((ah L').length : Int) := of_decide_eq_true hh;rw [an] at h;have h : 64 <= L'.length := by omega
  refine goL ?_;refine ⟨⟨_, rfl, eh _⟩, goL ?_⟩;refine ⟨by show 64 <= (ah L').length; rw [an]; omega, Nat.le_refl _, goL ?_⟩;refine ⟨_, ac.pr gid (uI t ht (ah L') (n + b.length) (L'.take 64) (by rw [List.length_take]; omega)) ⟨LE.of rfl, LE.of (congrArg (fun l => SV.p (.lst l)) (j6 L' 0 64)), trivial⟩ ⟨.inr (.inl rfl), trivial⟩ rfl, goL ?_⟩;refine ⟨⟨_, rfl, eh _⟩, goL ?_⟩;refine ⟨by show 64 <= (ah L').length; rw [an]; omega, Nat.le_refl _, Nat.le_refl _, goL ?_⟩;obtain ⟨k, rfl⟩ : ∃ m, k = m + 1 := ⟨k - 1, by have : L'.length <= k := hk; omega⟩
  refine ⟨⟨(k, blk t (L'.take 64), L'.drop 64), ?_, ?_, wG _ _, ?_⟩, ?_, ?_⟩
  ·rw [<- hfin];show a9 k _ _ = a9 (k + 1) t L';rw [a9, if_pos h]
  ·have : L'.length <= k + 1 := hk;show (L'.drop 64).length <= k;rw [List.length_drop]; omega
  ·have : L'.length <= _ := hbig;show (L'.drop 64).length <= _;rw [List.length_drop]; omega
  ·refine Ge.of rfl ?_ ?_
   ·repeat (conv => whnf); refine ⟨LE.of rfl, ?_⟩
    trivial
   ·conv => whnf
    refine ⟨OLE.of (congrArg (fun l => HS (blk t (L'.take 64)) (.lst l) (n + b.length)) ?_), trivial⟩;have := j6 L' 64 (ah L').length;rw [an, List.take_of_length_le (by rw [List.length_drop]; omega)] at this;rw [an];exact this
  ·show (L'.drop 64).length < L'.length;rw [List.length_drop]; omega
 ·have h : ¬ 64 <= ((ah L').length : Int) := of_decide_eq_false hh;rw [an] at h;have e : a9 k t L' = (t, L') := lM k t L' (by omega);have hfin : a9 k t L' = fin := hfin;rw [e] at hfin;subst hfin;refine goL ?_;exact rR id (rfl)
theorem zw (s : S5) (hs : s.ok) (n : Nat) (l b : List UInt8) (hl : l.length <= 1000000) (hb : b.length <= 1000000) (hn : n <= 140737488355328) :
  PM cx 167 [(2000, .var true 269 (.mix [uv s.a, uv s.b, uv s.c, uv s.d, uv s.e, .slc 1001, .p (.int .u64 n)])), (1001, .row 5 1 (ah l))] [.ptr 2000 0, .p (.lst (ah b))]
   [(2000, HS (a9 (l ++ b).length s (l ++ b)).1 (.lst (ah (a9 (l ++ b).length s (l ++ b)).2)) (n + b.length))] (.tupS []) := by
 obtain ⟨fin, hfin⟩ : ∃ fin, fin = a9 (l ++ b).length s (l ++ b) := ⟨_, rfl⟩
 have hlb : (l ++ b).length <= 140737488355328 := by rw [List.length_append]; omega
 rw [<- hfin];refine aW bo bp { own := oO [100035] } Tryz.func167 (by kernel_rfl) rfl rfl (by kernel_rfl) ?_ ?_
 ·rfl
 refine goL ?_;refine ⟨_, uJ (by omega), goL ?_⟩;refine ⟨_, wH (m := n + b.length) (by omega) (by omega), goL ?_⟩;refine ⟨eh _, goL ?_⟩;refine ⟨by show ((ah l).length + (ah b).length) * 1 <= _; rw [an, an]; omega, goL ?_⟩;refine ⟨{ x : Nat × S5 × List UInt8 // a9 x.1 x.2.1 x.2.2 = fin /\ x.2.2.length <= x.1 /\ x.2.1.ok /\ x.2.2.length <= 140737488355328 }, fun x => S.of [(0, .ptr 2000 0)] [(2000, HS x.1.2.1 (.lst (ah x.1.2.2)) (n + b.length))], fun x => x.1.2.2.length, ⟨((l ++ b).length, s, (l ++ b)), hfin.symm, Nat.le_refl _, hs, hlb⟩, ?_, ?_⟩
 ·refine Ge.of rfl ?_ ?_
  ·repeat (conv => whnf); refine ⟨LE.of rfl, ?_⟩
   trivial
  ·conv => whnf
   exact ⟨OLE.of (congrArg (fun c => HS s (.lst c) (n + b.length)) (cF l b)), trivial⟩
 rintro ⟨⟨k, t, L'⟩, hfin, hk, ht, hbig⟩
 refine goL ?_;refine aa ?_ ?_ <;> intro hh
 ·have h : 64 <= ((ah L').length : Int) := of_decide_eq_true hh;rw [an] at h;have h : 64 <= L'.length := by omega
  refine goL ?_;refine ⟨⟨_, rfl, eh _⟩, goL ?_⟩;refine ⟨by show 64 <= (ah L').length; rw [an]; omega, Nat.le_refl _, goL ?_⟩;refine ⟨_, ac.pr gid (uI t ht (ah L') (n + b.length) (L'.take 64) (by rw [List.length_take]; omega)) ⟨LE.of rfl, LE.of (congrArg (fun l => SV.p (.lst l)) (j6 L' 0 64)), trivial⟩ ⟨.inr (.inl rfl), trivial⟩ rfl, goL ?_⟩;refine ⟨⟨_, rfl, eh _⟩, goL ?_⟩;refine ⟨by show 64 <= (ah L').length; rw [an]; omega, Nat.le_refl _, Nat.le_refl _, goL ?_⟩;obtain ⟨k, rfl⟩ : ∃ m, k = m + 1 := ⟨k - 1, by have : L'.length <= k := hk; omega⟩
  refine ⟨⟨(k, blk t (L'.take 64), L'.drop 64), ?_, ?_, wG _ _, ?_⟩, ?_, ?_⟩
  ·rw [<- hfin];show a9 k _ _ = a9 (k + 1) t L';rw [a9, if_pos h]
  ·have : L'.length <= k + 1 := hk;show (L'.drop 64).length <= k;rw [List.length_drop]; omega
  ·have : L'.length <= _ := hbig;show (L'.drop 64).length <= _;rw [List.length_drop]; omega
  ·refine Ge.of rfl ?_ ?_
   ·repeat (conv => whnf); refine ⟨LE.of rfl, ?_⟩
    trivial
   ·conv => whnf
    refine ⟨OLE.of (congrArg (fun l => HS (blk t (L'.take 64)) (.lst l) (n + b.length)) ?_), trivial⟩;have := j6 L' 64 (ah L').length;rw [an, List.take_of_length_le (by rw [List.length_drop]; omega)] at this;rw [an];exact this
  ·show (L'.drop 64).length < L'.length;rw [List.length_drop]; omega
 ·have h : ¬ 64 <= ((ah L').length : Int) := of_decide_eq_false hh;rw [an] at h;have e : a9 k t L' = (t, L') := lM k t L' (by omega);have hfin : a9 k t L' = fin := hfin;rw [e] at hfin;subst hfin;refine goL ?_;exact rR id (rfl)
end Go.So
namespace Go.So
open Go Go.Vc Go.Proofs Go.RowKit
def gT : List (Nat × Nat) -> Nat -> Nat
 | [], k => k
 | (a, b) :: r, k => cond (Nat.beq a k) b (gT r k)
def s0 : S5 := ⟨1732584193, 4023233417, 2562383102, 271733878, 3285377520⟩
theorem Ft : s0.ok := ⟨by decide, by decide, by decide, by decide, by decide⟩
theorem GD : PM cx 166 [] [] [(1000, HS s0 .nilS 0)] (.ptr 1000 0) := by
 refine aW bo bp {} Tryz.func166 (by kernel_rfl) rfl rfl (by kernel_rfl) ?_ ?_
 ·rfl
 refine goL ?_;exact rR (gT [(1000, 3)])
abbrev HR (s : S5) (l : PV) (n : Nat) : AO := .var false 269 (.p (.agg (hvL s l n)))
theorem k8 (s : S5) (l : List UInt8) (hl : l.length <= 140737488355328) (n : Nat) :
  PM cx 211 [(2000, HR s (.lst (ah l)) n)] [.ptr 2000 0] [(1000, .var true 269 (.mix [uv s.a, uv s.b, uv s.c, uv s.d, uv s.e, .slc 1001, .p (.int .u64 n)])), (1001, .row 5 1 (ah l))] (.ptr 1000 0) := by
 refine aW bo bp { own := oO [11] } Tryz.func211 (by kernel_rfl) rfl rfl (by kernel_rfl) ?_ ?_
 ·rfl
 refine goL ?_;refine ⟨eh _, goL ?_⟩;refine ⟨by show (ah l).length * 1 <= _; rw [an]; omega, goL ?_⟩;exact rR (gT [(1000, 17), (1001, 11)])
def GE (l : Nat) : Nat := (119 - l % 64) % 64
def ig (n k : Nat) : List UInt8 := (List.range k).map fun i => UInt8.ofNat (n / 2 ^ (56 - 8 * i) % 256)
def HT (l n : Nat) : List UInt8 := 128 :: List.replicate (GE l) 0 ++ ig n 8
def S5.get (s : S5) : Nat -> Nat
 | 0 => s.a | 1 => s.b | 2 => s.c | 3 => s.d | _ => s.e
def dig (s : S5) (i : Nat) : UInt8 := UInt8.ofNat (s.get (i / 4) / 2 ^ (24 - 8 * (i % 4)) % 256)
def mM (s : S5) : List UInt8 := (List.range 20).map (dig s)
def EV (s : S5) (l : List UInt8) (n : Nat) : List UInt8 := mM (a9 (l ++ HT l.length (8 * n)).length s (l ++ HT l.length (8 * n))).1
def ol (s : S5) (i : Nat) : List PV := ah ((List.range i).map (dig s)) ++ List.replicate (20 - i) (.int .u8 0)
theorem CH {s : S5} {i : Nat} (h : i <= 20) : (ol s i).length = 20 := by
 unfold ol;rw [List.length_append, an, List.length_map, List.length_range, List.length_replicate];omega
theorem GF {s : S5} {i : Nat} (h : i < 20) : (ol s i).set i (.int .u8 (dig s i).toNat) = ol s (i + 1) := by
 unfold ol;rw [List.set_append_right _ _ (by rw [an, List.length_map, List.length_range]; exact Nat.le_refl _), an, List.length_map, List.length_range, Nat.sub_self, show 20 - i = (20 - (i + 1)) + 1 by omega, List.replicate_succ, List.set_cons_zero, List.range_succ, List.map_append, <- cF, List.append_assoc];rfl
theorem u8w (m : Nat) : IntKind.u8.wrap (m : Int) = (((UInt8.ofNat (m % 256)).toNat : Nat) : Int) := by
 rw [IntKind.wrap_u8', UInt8.toNat_ofNat'];omega
theorem CI (a : Nat) {k : Int} {m : Nat} (hk : k = m) (hm : m <= 64) : (a : Int).fdiv (2 ^ (min k.toNat IntKind.u64.bits)) = ((a / 2 ^ m : Nat) : Int) := by
 subst hk;rw [Int.toNat_natCast, show min m IntKind.u64.bits = m from Nat.min_eq_left hm];rw [Int.natCast_ediv, Int.natCast_pow, Int.fdiv_eq_ediv_of_nonneg _ (by exact_mod_cast Nat.zero_le (2 ^ m))];rfl
theorem HU (i : Nat) {k : Int} {m : Nat} (hk : k = m) : (i : Int).tdiv k = ((i / m : Nat) : Int) := by
 subst hk;rw [Int.tdiv_eq_ediv_of_nonneg (by omega), Int.natCast_ediv]
theorem Fu (i : Nat) {k : Int} {m : Nat} (hk : k = m) : (i : Int).tmod k = ((i % m : Nat) : Int) := by
 subst hk;rw [Int.tmod_eq_emod_of_nonneg (by omega), Int.natCast_emod]
theorem GG (s : S5) (l : PV) (n : Nat) {i : Nat} (h : i < 5) : ((hvL s l n).map SV.p)[0 + ((i : Nat) : Int).toNat * 1]? = some (uv (s.get i)) := by
 rw [Nat.zero_add, Nat.mul_one, Int.toNat_natCast]
 match i, h with
 | 0, _ => rfl
 | 1, _ => rfl
 | 2, _ => rfl
 | 3, _ => rfl
 | 4, _ => rfl
set_option maxHeartbeats 1000000 in
theorem GH (s : S5) (hs : s.ok) (l : List UInt8) (hl : l.length < 64) (n : Nat) (hn : n <= 140737488355328) :
  PM cx 168 [(2000, HR s (.lst (ah l)) n)] [.ptr 2000 0] [] (.p (.agg (ah (EV s l n)))) := by
 obtain ⟨Z, hZ⟩ : ∃ Z, Z = GE l.length := ⟨_, rfl⟩
 have hZ2 : (l.length + (Z + 1)) % 64 = 56 /\ Z < 64 /\ ∀ j, j < Z -> (l.length + (j + 1)) % 64 ≠ 56 := by
  rw [hZ]; unfold GE;refine ⟨by omega, by omega, fun j hj => by omega⟩
 obtain ⟨N, hN⟩ : ∃ N, N = 8 * n := ⟨_, rfl⟩
 obtain ⟨pad, hpad⟩ : ∃ pad, pad = 128 :: List.replicate Z (0 : UInt8) ++ ig N 8 := ⟨_, rfl⟩
 have hpl : pad.length <= 1000000 := by rw [hpad]; simp [ig]; omega
 obtain ⟨fin, hfin⟩ : ∃ fin, fin = a9 (l ++ pad).length s (l ++ pad) := ⟨_, rfl⟩
 have hres : EV s l n = mM fin.1 := by rw [hfin, hpad, hN, hZ]; rfl
 have hfok : fin.1.ok := by rw [hfin]; exact mL _ _ hs
 rw [hres];refine aW bo bp { own := oO [100009, 15, 28, 40, 100044], fz := fun r => cond (Nat.beq r 11) [15] [] } Tryz.func168 (by kernel_rfl) rfl rfl (by kernel_rfl) ?_ ?_
 ·rfl
 refine goL ?_;refine ⟨_, ac.pr gid (k8 s l (by omega) n) ⟨LE.of rfl, trivial⟩ ⟨.inr (.inl rfl), trivial⟩ rfl, goL ?_⟩;refine ⟨_, wH (m := N) (by omega) (by omega), goL ?_⟩;refine ⟨Rd Z, fun j => S.of [(0, .ptr 2000 0), (2, .ptr 2 0), (3, .ptr 1000 0), (4, .p (.int .u64 N)), (5, .slc 15)] [(2000, HR s (.lst (ah l)) n), (2, .var true 129 (.p (.agg (ol fin.1 0)))), (1000, .var true 269 (.mix [uv s.a, uv s.b, uv s.c, uv s.d, uv s.e, .slc 1001, .p (.int .u64 n)])), (1001, .row 5 1 (ah l)), (15, .row 5 1 (ah (128 :: List.replicate j.1 0)))], fun j => Z - j.1, Rd.zero Z, ?_, ?_⟩
 ·exact Ge.go
 rintro ⟨j, hj⟩
 have hZ3 := hZ2.2.2 j;refine goL ?_;refine ⟨_, aq (n := l.length + (j + 1)) (by show (((ah l).length : Nat) : Int) + (((ah (128 :: List.replicate j 0)).length : Nat) : Int) = _; rw [an, an, List.length_cons, List.length_replicate]; omega) (by omega), goL ?_⟩;refine ⟨_, Fu _ (m := 64) rfl, goL ?_⟩;refine aa ?_ ?_ <;> intro hh
 ·have hne : ¬ (((l.length + (j + 1)) % 64 : Nat) : Int) = 56 := of_decide_eq_true hh;have hlt : j < Z := by
   rcases Nat.lt_or_ge j Z with h | h
   ·exact h
   ·exact absurd (by have : j = Z := (by omega); rw [this, hZ2.1]; rfl) hne
  refine goL ?_;refine ⟨by show ((ah (128 :: List.replicate j 0)).length + 1) * 1 <= _; rw [an, List.length_cons, List.length_replicate]; omega, goL ?_⟩;refine ⟨⟨j + 1, hlt⟩, ?_, by show Z - (j + 1) < Z - j; omega⟩;refine Ge.of rfl ?_ ?_
  ·repeat (conv => whnf); refine ⟨LE.of rfl, ?_⟩
   trivial
  ·conv => whnf
   refine ⟨OLE.of rfl, ?_⟩
   conv => whnf
   refine ⟨OLE.of rfl, ?_⟩
   conv => whnf
   refine ⟨OLE.of rfl, ?_⟩
   conv => whnf
   refine ⟨OLE.of rfl, ?_⟩
   conv => whnf
   refine ⟨OLE.of (congrArg (AO.row 5 1) ?_), trivial⟩;show ah (128 :: List.replicate j 0) ++ ah [0] = ah (128 :: List.replicate (j + 1) 0);rw [cF, List.replicate_succ'];rfl
 have hjZ : j = Z := by
  have h : ¬ ¬ (((l.length + (j + 1)) % 64 : Nat) : Int) = 56 := of_decide_eq_false hh;rcases Nat.lt_or_ge j Z with h2 | h2
  ·exact absurd (fun e => hZ3 h2 (by omega)) h
  ·omega
 refine goL ?_;refine ⟨Rd 8, fun i => S.of [(0, .ptr 2000 0), (2, .ptr 2 0), (3, .ptr 1000 0), (4, .p (.int .u64 N)), (5, .slc 15), (29, iv (i.1 : Nat))] [(2000, HR s (.lst (ah l)) n), (2, .var true 129 (.p (.agg (ol fin.1 0)))), (1000, .var true 269 (.mix [uv s.a, uv s.b, uv s.c, uv s.d, uv s.e, .slc 1001, .p (.int .u64 n)])), (1001, .row 5 1 (ah l)), (15, .row 5 1 (ah (128 :: List.replicate Z 0 ++ ig N i.1)))], fun i => 8 - i.1, Rd.zero 8, ?_, ?_⟩
 ·refine Ge.of rfl ?_ ?_
  ·repeat (conv => whnf); refine ⟨LE.of rfl, ?_⟩
   trivial
  ·conv => whnf
   refine ⟨OLE.of rfl, ?_⟩
   conv => whnf
   refine ⟨OLE.of rfl, ?_⟩
   conv => whnf
   refine ⟨OLE.of rfl, ?_⟩
   conv => whnf
   refine ⟨OLE.of rfl, ?_⟩
   conv => whnf
   refine ⟨OLE.of (congrArg (AO.row 5 1) ?_), trivial⟩;show ah (128 :: List.replicate j 0) = ah (128 :: List.replicate Z 0 ++ ig N 0);rw [hjZ];simp [ig]
 rintro ⟨i, hi⟩
 refine goL ?_;refine aa ?_ ?_ <;> intro h8
 ·have h8 : ((i : Nat) : Int) < 8 := of_decide_eq_true h8;refine goL ?_;refine ⟨_, aq (n := 8 * i) (by show 8 * ((i : Nat) : Int) = _; omega) (by omega), goL ?_⟩;refine ⟨_, aq (n := 56 - 8 * i) (by omega) (by omega), goL ?_⟩;refine ⟨Int.natCast_nonneg _, _, CI N (m := 56 - 8 * i) rfl (by omega), goL ?_⟩;refine ⟨_, u8w _, goL ?_⟩;refine ⟨by show ((ah (128 :: List.replicate Z 0 ++ ig N i)).length + 1) * 1 <= _; rw [an]; simp [ig]; omega, goL ?_⟩;refine ⟨_, aq (n := i + 1) rfl (by omega), goL ?_⟩;refine ⟨⟨i + 1, by omega⟩, ?_, by show 8 - (i + 1) < 8 - i; omega⟩;refine Ge.of rfl ?_ ?_
  ·repeat (conv => whnf); refine ⟨LE.of rfl, ?_⟩
   trivial
  ·conv => whnf
   refine ⟨OLE.of rfl, ?_⟩
   conv => whnf
   refine ⟨OLE.of rfl, ?_⟩
   conv => whnf
   refine ⟨OLE.of rfl, ?_⟩
   conv => whnf
   refine ⟨OLE.of rfl, ?_⟩
   conv => whnf
   refine ⟨OLE.of (congrArg (AO.row 5 1) ?_), trivial⟩;show ah (128 :: List.replicate Z 0 ++ ig N i) ++ ah [UInt8.ofNat (N / 2 ^ (56 - 8 * i) % 256)] = ah (128 :: List.replicate Z 0 ++ ig N (i + 1));rw [cF, List.append_assoc];simp only [ig, List.range_succ, List.map_append, List.map_cons, List.map_nil]
 have hi8 : i = 8 := by
  have : ¬ ((i : Nat) : Int) < 8 := of_decide_eq_false h8;omega
 refine goL ?_;refine ⟨_, ac.pr (gT [(2000, 1000)]) (zw s hs n l pad (by omega) hpl hn) ⟨LE.of rfl, LE.of (by show SV.p (PV.lst (ah (128 :: List.replicate Z 0 ++ ig N i))) = SV.p (PV.lst (ah pad)); rw [hpad, hi8]), trivial⟩ ⟨.inr (.inl rfl), .inr (.inl rfl), trivial⟩ rfl, ?_⟩;rw [<- hfin];refine goL ?_;refine ⟨Rd 20, fun q => S.of [(2, .ptr 2 0), (3, .ptr 1000 0), (45, iv (q.1 : Nat))] [(2, .var true 129 (.p (.agg (ol fin.1 q.1)))), (1000, HS fin.1 (.lst (ah fin.2)) (n + pad.length))], fun q => 20 - q.1, Rd.zero 20, ?_, ?_⟩
 ·exact Ge.go
 rintro ⟨q, hq⟩
 refine goL ?_;refine aa ?_ ?_ <;> intro h20
 ·have h20 : ((q : Nat) : Int) < 20 := of_decide_eq_true h20;refine goL ?_;refine ⟨_, aq (HU q (m := 4) rfl) (by omega), goL ?_⟩;refine ⟨Int.natCast_nonneg _, rfl, show q / 4 < 5 by omega, goL ?_⟩;refine cJ (GG _ _ _ (by omega)) (goL ?_);refine ⟨_, Fu q (m := 4) rfl, goL ?_⟩;refine ⟨_, aq (n := 8 * (q % 4)) (by omega) (by omega), goL ?_⟩;refine ⟨_, aq (n := 24 - 8 * (q % 4)) (by omega) (by omega), goL ?_⟩;refine ⟨Int.natCast_nonneg _, _, HQ _ (m := 24 - 8 * (q % 4)) rfl (by omega), goL ?_⟩;refine ⟨_, u8w _, goL ?_⟩;refine ⟨Int.natCast_nonneg _, rfl, show q < 20 by omega, goL ?_⟩;refine ⟨by show 0 + q * 1 + 1 <= ((ol fin.1 q).map SV.p).length; rw [List.length_map, CH (by omega)]; omega, ⟨_, rfl, rfl⟩, goL ?_⟩;refine Eq.mpr (PV.forceL_eq _ _) (goL ?_);refine ⟨_, aq (n := q + 1) rfl (by omega), goL ?_⟩;refine ⟨⟨q + 1, by omega⟩, Ge.of rfl ?_ ?_, by show 20 - (q + 1) < 20 - q; omega⟩
  ·repeat (conv => whnf); refine ⟨LE.of rfl, ?_⟩
   trivial
  ·conv => whnf
   refine Eq.mpr (PV.forceL_eq _ _) ?_;refine ⟨OLE.of (congrArg (fun c => AO.var true 129 (.p (.agg c))) ?_), ?_⟩
   ·show (ol fin.1 q).set (0 + q * 1) (.int .u8 (dig fin.1 q).toNat) = ol fin.1 (q + 1);rw [Nat.zero_add, Nat.mul_one, GF (by omega)]
   conv => whnf
   exact ⟨OLE.of rfl, trivial⟩
 have hq20 : q = 20 := by
  have : ¬ ((q : Nat) : Int) < 20 := of_decide_eq_false h20;omega
 refine goL ?_;refine Eq.mpr (PV.forceL_eq _ _) ?_
 conv => whnf
 refine ⟨by show some (true, (ol fin.1 q).length) = some (true, 20); rw [CH hq], goL ?_⟩;refine Eq.mpr (PV.forceL_eq _ _) (goL ?_);refine ⟨gid, ?_, trivial, rfl, rfl⟩
 conv => whnf
 refine Eq.mpr (PV.forceL_eq _ _) ?_;refine ⟨rfl, LE.of ?_⟩;show SV.p (.agg (ol fin.1 q)) = SV.p (.agg (ah (mM fin.1)));rw [hq20];unfold ol mM;simp
end Go.So
namespace Go.So
open Go Go.Vc Go.Proofs Go.RowKit
def su (b : List UInt8) : List UInt8 := EV (a9 b.length s0 b).1 (a9 b.length s0 b).2 b.length
theorem pp (s : S5) : (mM s).length = 20 := by unfold mM; rw [List.length_map, List.length_range]
theorem lN (b : List UInt8) : (su b).length = 20 := pp _
theorem GI (b : List UInt8) (hb : b.length <= 1000000) : K 116 [.p (.lst (ah b))] (.pv (.agg (ah (su b)))) := by
 obtain ⟨r, hr⟩ : ∃ r, r = a9 b.length s0 b := ⟨_, rfl⟩
 obtain ⟨d, hd⟩ : ∃ d, d = EV r.1 r.2 b.length := ⟨_, rfl⟩
 have hlen : r.2.length < 64 := by rw [hr]; exact (po _ _ _ (Nat.le_refl _)).1
 have hsum := GH r.1 (by rw [hr]; exact mL _ _ Ft) r.2 hlen b.length (by omega);have hdl : d.length = 20 := by rw [hd]; exact pp _
 have hres : su b = d := by rw [hd, hr]; rfl
 have hw := zv s0 Ft 0 b (by omega) (by omega);rw [<- hr, Nat.zero_add] at hw;rw [<- hd] at hsum;rw [hres];refine cS bo bp { own := oO [100004, 100007, 100009] } Tryz.func116 (by kernel_rfl) rfl rfl (by kernel_rfl) (goL ?_);refine ⟨_, ac.pr gid GD trivial trivial rfl, goL ?_⟩;refine ⟨_, ac.pr (gT [(2000, 1000)]) hw ⟨LE.of rfl, LE.of rfl, trivial⟩ ⟨.inr (.inl rfl), trivial⟩ rfl, goL ?_⟩;refine ⟨_, ac.pr (gT [(2000, 1000)]) hsum ⟨LE.of rfl, trivial⟩ ⟨.inr (.inr (.inr ⟨_, _, _, rfl, rfl, LE.of rfl⟩)), trivial⟩ rfl, ?_⟩
 conv => whnf
 refine ⟨by show some (true, (ah d).length) = some (true, 20); rw [an, hdl], goL ?_⟩;refine Eq.mpr (PV.forceL_eq _ _) (goL ?_);refine Eq.mpr (PV.forceL_eq _ _) ?_;exact LEP.refl _
def CJ (key : List UInt8) : List UInt8 := key ++ List.replicate (64 - key.length) 0
theorem uK {key : List UInt8} (h : key.length <= 64) : (CJ key).length = 64 := by unfold CJ; rw [List.length_append, List.length_replicate]; omega
def jE (w : UInt8) (k : List UInt8) (i : Nat) : List UInt8 := (k.take i).map (fun c => c ^^^ w) ++ k.drop i
def nw (w : UInt8) (key : List UInt8) : List UInt8 := (CJ key).map fun c => c ^^^ w
theorem lO (w : UInt8) (k : List UInt8) (i : Nat) : (jE w k i).length = k.length := by
 unfold jE;rw [List.length_append, List.length_map, <- List.length_append, List.take_append_drop]
theorem CK {w : UInt8} {k : List UInt8} {i : Nat} (h : i < k.length) : (ah (jE w k i))[i]? = some (.int .u8 (k[i].toNat)) := by
 unfold jE ah;rw [List.getElem?_map, List.getElem?_append_right (by rw [List.length_map, List.length_take]; omega), List.length_map, List.length_take, List.getElem?_drop, show i + (i - min i k.length) = i by omega, List.getElem?_eq_getElem h];rfl
theorem CL {w : UInt8} {k : List UInt8} {i : Nat} (h : i < k.length) : (ah (jE w k i)).set i (.int .u8 ((k[i] ^^^ w).toNat : Nat)) = ah (jE w k (i + 1)) := by
 unfold jE ah;rw [List.map_append, List.set_append_right _ _ (by rw [List.length_map, List.length_map, List.length_take]; omega), List.length_map, List.length_map, List.length_take, show i - min i k.length = 0 by omega];rw [List.drop_eq_getElem_cons h, List.map_cons, List.set_cons_zero, List.take_succ_eq_append_getElem h, List.map_append, List.map_append, List.map_append, List.append_assoc];rfl
theorem HV (a w : UInt8) : IntKind.u8.wrap ((BitVec.ofInt IntKind.u8.bits ((a.toNat : Nat) : Int) ^^^ BitVec.ofInt IntKind.u8.bits ((w.toNat : Nat) : Int)).toNat : Int) = (((a ^^^ w).toNat : Nat) : Int) := by
 have := u8_xor_nat a.toNat w.toNat (UInt8.toNat_lt _) (UInt8.toNat_lt _);rw [UInt8.toNat_xor];exact this
theorem qN (w : UInt8) (b key : List UInt8) (hb : b.length <= 100000) (h0 : 0 < key.length) (h1 : key.length <= 64) :
  PM cx 117 [(2000, .var false 71 (.p (.lst (ah key))))] [.p (.int .u8 (w.toNat : Nat)), .p (.lst (ah b)), .ptr 2000 0] [] (.p (.agg (ah (su (nw w key ++ b))))) := by
 have hpl : (nw w key).length = 64 := by unfold nw; rw [List.length_map, uK h1]
 have hsha := GI (nw w key ++ b) (by rw [List.length_append]; omega);have hdl := lN (nw w key ++ b);obtain ⟨d, hd⟩ : ∃ d, d = su (nw w key ++ b) := ⟨_, rfl⟩
 rw [<- hd] at hsha hdl ⊢;obtain ⟨k, hk⟩ : ∃ k, k = CJ key := ⟨_, rfl⟩
 have hkl : k.length = 64 := by rw [hk, uK h1]
 have hxk : jE w k 64 = nw w key := by unfold jE nw; rw [<- hk, List.take_of_length_le (by omega), List.drop_eq_nil_of_le (by omega), List.append_nil]
 refine aW bo bp {} Tryz.func117 (by kernel_rfl) rfl rfl (by kernel_rfl) ?_ ?_
 ·rfl
 refine goL ?_;refine ⟨eh _, by rw [an]; exact h0, by rw [an]; exact h1, goL ?_⟩;refine ⟨Rd 64, fun i => S.of [(0, .p (.int .u8 (w.toNat : Nat))), (1, .p (.lst (ah b))), (5, .ptr 5 0), (6, .slc 8), (13, iv 64), (14, iv (i.1 : Nat))] [(5, .var true 129 (.p (.agg (List.replicate 20 (.int .u8 0))))), (8, .row 5 1 (ah (jE w k i.1)))], fun i => 64 - i.1, Rd.zero 64, ?_, ?_⟩
 ·refine Ge.of rfl ?_ ?_
  ·conv => whnf
   refine ⟨LE.of rfl, ?_⟩
   conv => whnf
   refine ⟨LE.of rfl, ?_⟩
   conv => whnf
   refine ⟨LE.of rfl, ?_⟩
   conv => whnf
   refine ⟨LE.of rfl, ?_⟩
   conv => whnf
   refine ⟨LE.of (congrArg (fun m : Nat => SV.p (.int .i64 m)) (show _ = 64 from ?_)), ?_⟩
   ·rw [List.length_append, List.length_drop, List.length_replicate, an];show key.length + (64 - key.length) = 64;omega
   conv => whnf
   exact ⟨LE.of rfl, trivial⟩
  ·conv => whnf
   refine ⟨OLE.of rfl, ?_⟩
   conv => whnf
   refine ⟨OLE.of (congrArg (AO.row 5 1) ?_), trivial⟩;show ah key ++ (List.replicate 64 (PV.int .u8 0)).drop (ah key).length = ah (jE w k 0);rw [hk, an];unfold jE CJ;rw [List.take_zero, List.map_nil, List.nil_append, List.drop_zero, <- cF, List.drop_replicate];unfold ah;rw [List.map_replicate];rfl
 rintro ⟨i, hi⟩
 refine goL ?_;refine aa ?_ ?_ <;> intro hh
 ·have hh : ((i : Nat) : Int) < 64 := of_decide_eq_true hh;have hik : i < k.length := by omega
  refine goL ?_;refine ⟨Int.natCast_nonneg _, by show i < (ah (jE w k i)).length; rw [an, lO]; exact hik, goL ?_⟩;refine ⟨_, CK hik, goL ?_⟩;refine ⟨_, HV _ _, goL ?_⟩;refine ⟨Int.natCast_nonneg _, by show i < (ah (jE w k i)).length; rw [an, lO]; exact hik, goL ?_⟩;refine ⟨by show i < (ah (jE w k i)).length; rw [an, lO]; exact hik, goL ?_⟩;refine ⟨_, aq (n := i + 1) rfl (by omega), goL ?_⟩;refine ⟨⟨i + 1, by omega⟩, Ge.of rfl ?_ ?_, by show 64 - (i + 1) < 64 - i; omega⟩
  ·repeat (conv => whnf); refine ⟨LE.of rfl, ?_⟩
   trivial
  ·conv => whnf
   refine ⟨OLE.of rfl, ?_⟩
   conv => whnf
   exact ⟨OLE.of (congrArg (AO.row 5 1) (CL hik)), trivial⟩
 have hi64 : i = 64 := by
  have : ¬ ((i : Nat) : Int) < 64 := of_decide_eq_false hh;omega
 refine goL ?_;refine ⟨eh _, goL ?_⟩;refine ⟨by show ((ah (jE w k i)).length + (ah b).length) * 1 <= _; rw [an, an, lO]; omega, goL ?_⟩;refine ⟨_, ar.le hsha ⟨LE.of ?_, trivial⟩ rfl rfl, ?_⟩
 ·show SV.p (.lst (ah (jE w k i) ++ ah b)) = _;rw [cF, hi64, hxk]
 refine goL ?_;refine Eq.mpr (PV.forceL_eq _ _) ?_
 conv => whnf
 refine ⟨by show some (true, (ah d).length) = some (true, 20); rw [an, hdl], goL ?_⟩;refine Eq.mpr (PV.forceL_eq _ _) (goL ?_);refine ⟨gid, ?_, trivial, rfl, rfl⟩
 conv => whnf
 refine Eq.mpr (PV.forceL_eq _ _) ?_;exact ⟨rfl, LE.of rfl⟩
def uL (key msg : List UInt8) : List UInt8 := su (nw 92 key ++ su (nw 54 key ++ msg))
theorem CM (key msg : List UInt8) : (uL key msg).length = 20 := lN _
theorem GJ (key msg : List UInt8) (h0 : 0 < key.length) (h1 : key.length <= 64) (hm : msg.length <= 100000) : K 63 [.p (.lst (ah key)), .p (.lst (ah msg))] (.pv (.agg (ah (uL key msg)))) := by
 have ha := qN 54 msg key hm h0 h1;obtain ⟨m, hm1⟩ : ∃ m, m = su (nw 54 key ++ msg) := ⟨_, rfl⟩
 have hml : m.length = 20 := by rw [hm1]; exact lN _
 have hb := qN 92 m key (by omega) h0 h1;obtain ⟨d, hd⟩ : ∃ d, d = su (nw 92 key ++ m) := ⟨_, rfl⟩
 have hdl : d.length = 20 := by rw [hd]; exact lN _
 have hres : uL key msg = d := by rw [hd, hm1]; rfl
 rw [<- hm1] at ha;rw [<- hd] at hb;rw [hres];refine cS bo bp { own := oO [100017, 100020], fz := fun r => cond (Nat.beq r 6) [7] [] } Tryz.func63 (by kernel_rfl) rfl rfl (by kernel_rfl) (goL ?_);rw [show decide (64 < ((ah key).length : Int)) = false from decide_eq_false (by rw [an]; omega)];refine goL ?_;refine ⟨_, ac.pr (gT [(2000, 2)]) ha ⟨LE.of rfl, LE.of rfl, LE.of rfl, trivial⟩ ⟨.inr (.inr (.inr ⟨_, _, _, rfl, rfl, LE.of rfl⟩)), trivial⟩ rfl, ?_⟩
 conv => whnf
 refine ⟨by show some (true, (ah m).length) = some (true, 20); rw [an, hml], goL ?_⟩;refine Eq.mpr (PV.forceL_eq _ _) (goL ?_);refine ⟨by show 20 = (ah m).length; rw [an, hml], goL ?_⟩;refine ⟨_, ac.pr (gT [(2000, 2)]) hb ⟨LE.of rfl, LE.of rfl, LE.of rfl, trivial⟩ ⟨.inr (.inr (.inr ⟨_, _, _, rfl, rfl, LE.of rfl⟩)), trivial⟩ rfl, ?_⟩
 conv => whnf
 refine ⟨by show some (true, (ah d).length) = some (true, 20); rw [an, hdl], goL ?_⟩;refine Eq.mpr (PV.forceL_eq _ _) (goL ?_);refine Eq.mpr (PV.forceL_eq _ _) ?_;exact LEP.refl _
end Go.So
namespace Go.So
open Go Go.Vc Go.Proofs Go.RowKit
abbrev ii (n : Int) : PV := .int .i64 n
def pw (d : Int) : Int := if d = 6 then 1000000 else if d = 7 then 10000000 else if d = 8 then 100000000 else 0
theorem CN (d : Int) : d = 6 /\ pw d = 1000000 \/ d = 7 /\ pw d = 10000000 \/ d = 8 /\ pw d = 100000000 \/ (d < 6 \/ 8 < d) /\ pw d = 0 := by
 unfold pw
 by_cases h6 : d = 6
 ·exact .inl ⟨h6, by rw [if_pos h6]⟩
 ·by_cases h7 : d = 7
  ·exact .inr (.inl ⟨h7, by rw [if_neg h6, if_pos h7]⟩)
  ·by_cases h8 : d = 8
   ·exact .inr (.inr (.inl ⟨h8, by rw [if_neg h6, if_neg h7, if_pos h8]⟩))
   ·exact .inr (.inr (.inr ⟨by omega, by rw [if_neg h6, if_neg h7, if_neg h8]⟩))
theorem zx (d : Int) (h0 : -9223372036854775808 <= d) (h1 : d <= 9223372036854775807) : K 118 [iv d] (.pv (ii (pw d))) := by
 rcases CN d with ⟨rfl, e⟩ | ⟨rfl, e⟩ | ⟨rfl, e⟩ | ⟨h, e⟩
 ·rw [e];refine cS bo bp {} Tryz.func118 (by kernel_rfl) rfl rfl (by kernel_rfl) (goL ?_);refine ⟨0, by decide, goL ?_⟩;exact LEP.refl _
 ·rw [e];refine cS bo bp {} Tryz.func118 (by kernel_rfl) rfl rfl (by kernel_rfl) (goL ?_);refine ⟨1, by decide, goL ?_⟩;exact LEP.refl _
 ·rw [e];refine cS bo bp {} Tryz.func118 (by kernel_rfl) rfl rfl (by kernel_rfl) (goL ?_);refine ⟨2, by decide, goL ?_⟩;exact LEP.refl _
 ·rw [e];refine cS bo bp {} Tryz.func118 (by kernel_rfl) rfl rfl (by kernel_rfl) (goL ?_);refine aa ?_ ?_ <;> intro h6
  ·refine goL ?_;exact LEP.refl _
  ·have h6 : ¬ d < 6 := of_decide_eq_false h6;refine goL ?_;rw [show decide (8 < d) = true from decide_eq_true (by omega)];refine goL ?_;exact LEP.refl _
def tnO (sum : List UInt8) (o : Nat) : Nat := (byt sum o % 128) * 2 ^ 24 + byt sum (o + 1) * 2 ^ 16 + byt sum (o + 2) * 2 ^ 8 + byt sum (o + 3)
def tn (sum : List UInt8) : Nat := tnO sum (byt sum 19 % 16)
def kG (sum : List UInt8) (d : Int) : Int × Int := if sum.length = 20 /\ pw d ≠ 0 then ((tn sum : Int) % pw d, 0) else (0, 1)
theorem wI (a : Nat) {k : Int} {m : Nat} (hk : k = m) (ha : a < 256) (hm : m <= 24) : IntKind.i64.wrap ((a : Int) * 2 ^ (min k.toNat IntKind.i64.bits)) = ((a * 2 ^ m : Nat) : Int) := by
 subst hk;rw [Int.toNat_natCast, show min m IntKind.i64.bits = m from Nat.min_eq_left (by show m <= 64; omega)];have h : ((a * 2 ^ m : Nat) : Int) = (a : Int) * 2 ^ m := by rw [Int.natCast_mul, Int.natCast_pow]; rfl
 rw [<- h];have h2 : 2 ^ m <= 2 ^ 24 := Nat.pow_le_pow_right (by decide) hm;have h3 : a * 2 ^ m <= 256 * 2 ^ 24 := Nat.mul_le_mul (by omega) h2;exact aq rfl (by omega)
theorem CO {x y : Nat} (i : Nat) (hx : x % 2 ^ i = 0) (hy : y < 2 ^ i) (h : x + y < 9223372036854775808) : IntKind.i64.wrap ((BitVec.ofInt IntKind.i64.bits (x : Int) ||| BitVec.ofInt IntKind.i64.bits (y : Int)).toNat : Int) = ((x + y : Nat) : Int) := by
 have e : (BitVec.ofInt IntKind.i64.bits (x : Int) ||| BitVec.ofInt IntKind.i64.bits (y : Int)).toNat = x + y := by
  show (BitVec.ofInt 64 (x : Int) ||| BitVec.ofInt 64 (y : Int)).toNat = _;rw [BitVec.toNat_or, ofInt_u64 x (by omega), ofInt_u64 y (by omega), nat_join i x y hx hy]
 rw [e];exact aq rfl (by omega)
theorem CP (sum : List UInt8) (d : Int) (hl : sum.length <= 140737488355328) (h0 : -9223372036854775808 <= d) (h1 : d <= 9223372036854775807) : K 64 [.p (.lst (ah sum)), iv d] (.tup [ii (kG sum d).1, ii (kG sum d).2]) := by
 refine cS bo bp {} Tryz.func64 (by kernel_rfl) rfl rfl (by kernel_rfl) (goL ?_);refine cC (zx d h0 h1) (goL ?_)
 by_cases hl20 : sum.length = 20
 ·rw [show decide (((ah sum).length : Int) ≠ 20) = false from decide_eq_false (by rw [an, hl20]; decide)];refine goL ?_
  by_cases hp : pw d = 0
  ·rw [show kG sum d = (0, 1) from if_neg (fun h => h.2 hp), show decide (pw d = 0) = true from decide_eq_true hp];refine goL ?_;exact ⟨LEP.refl _, LEP.refl _, trivial⟩
  ·rw [show kG sum d = ((tn sum : Int) % pw d, 0) from if_pos ⟨hl20, hp⟩, show decide (pw d = 0) = false from decide_eq_false hp];obtain ⟨o, ho⟩ : ∃ o, o = byt sum 19 % 16 := ⟨_, rfl⟩
   have ho15 : o < 16 := by rw [ho]; exact Nat.mod_lt _ (by decide)
   have htn : tn sum = tnO sum o := by rw [ho]; rfl
   rw [htn];refine goL ?_;refine ⟨_, ee (i := 19) (by omega), rfl, rfl, goL ?_⟩;refine ⟨_, show IntKind.u8.wrap ((BitVec.ofInt IntKind.u8.bits ((byt sum 19 : Nat) : Int) &&& BitVec.ofInt IntKind.u8.bits (15 : Int)).toNat : Int) = ((o : Nat) : Int) from (u8_and_nat _ 15 (bt _ _) (by decide)).trans (by rw [nat_mask4, ho]), goL ?_⟩;refine ⟨Int.natCast_nonneg _, _, ee (i := o) (by omega), rfl, rfl, goL ?_⟩;refine ⟨_, show IntKind.u8.wrap ((BitVec.ofInt IntKind.u8.bits ((byt sum o : Nat) : Int) &&& BitVec.ofInt IntKind.u8.bits (127 : Int)).toNat : Int) = ((byt sum o % 128 : Nat) : Int) from (u8_and_nat _ 127 (bt _ _) (by decide)).trans (by rw [nat_mask7]), goL ?_⟩;refine ⟨_, aq (n := byt sum o % 128) rfl (by have := bt sum (o + 0); omega), goL ?_⟩;refine ⟨_, wI (byt sum o % 128) (m := 24) rfl (by have := bt sum (o + 0); omega) (by decide), goL ?_⟩;refine ⟨_, show IntKind.u8.wrap (((o : Nat) : Int) + 1) = ((o + 1 : Nat) : Int) by rw [IntKind.wrap_u8']; omega, goL ?_⟩
   refine ⟨Int.natCast_nonneg _, _, ee (i := o + 1) (by omega), rfl, rfl, goL ?_⟩;refine ⟨_, aq (n := byt sum (o + 1)) rfl (by have := bt sum (o + 1); omega), goL ?_⟩;refine ⟨_, wI (byt sum (o + 1)) (m := 16) rfl (by have := bt sum (o + 1); omega) (by decide), goL ?_⟩;refine ⟨_, CO (x := (byt sum o % 128) * 2 ^ 24) (y := byt sum (o + 1) * 2 ^ 16) 24 (by omega) (by have := bt sum (o + 1); omega) (by have h0 := bt sum o; have h1 := bt sum (o + 1); have h2 := bt sum (o + 2); have h3 := bt sum (o + 3); omega), goL ?_⟩;refine ⟨_, show IntKind.u8.wrap (((o : Nat) : Int) + 2) = ((o + 2 : Nat) : Int) by rw [IntKind.wrap_u8']; omega, goL ?_⟩;refine ⟨Int.natCast_nonneg _, _, ee (i := o + 2) (by omega), rfl, rfl, goL ?_⟩;refine ⟨_, aq (n := byt sum (o + 2)) rfl (by have := bt sum (o + 2); omega), goL ?_⟩;refine ⟨_, wI (byt sum (o + 2)) (m := 8) rfl (by have := bt sum (o + 2); omega) (by decide), goL ?_⟩
   refine ⟨_, CO (x := (byt sum o % 128) * 2 ^ 24 + byt sum (o + 1) * 2 ^ 16) (y := byt sum (o + 2) * 2 ^ 8) 16 (by omega) (by have := bt sum (o + 2); omega) (by have h0 := bt sum o; have h1 := bt sum (o + 1); have h2 := bt sum (o + 2); have h3 := bt sum (o + 3); omega), goL ?_⟩;refine ⟨_, show IntKind.u8.wrap (((o : Nat) : Int) + 3) = ((o + 3 : Nat) : Int) by rw [IntKind.wrap_u8']; omega, goL ?_⟩;refine ⟨Int.natCast_nonneg _, _, ee (i := o + 3) (by omega), rfl, rfl, goL ?_⟩;refine ⟨_, aq (n := byt sum (o + 3)) rfl (by have := bt sum (o + 3); omega), goL ?_⟩;refine ⟨_, CO (x := (byt sum o % 128) * 2 ^ 24 + byt sum (o + 1) * 2 ^ 16 + byt sum (o + 2) * 2 ^ 8) (y := byt sum (o + 3)) 8 (by omega) (by have := bt sum (o + 3); omega) (by have h0 := bt sum o; have h1 := bt sum (o + 1); have h2 := bt sum (o + 2); have h3 := bt sum (o + 3); omega), goL ?_⟩;refine ⟨hp, _, Int.tmod_eq_emod_of_nonneg (Int.natCast_nonneg _), goL ?_⟩
   exact ⟨LEP.refl _, LEP.refl _, trivial⟩
 ·rw [show kG sum d = (0, 1) from if_neg (fun h => hl20 h.1), show decide (((ah sum).length : Int) ≠ 20) = true from decide_eq_true (by rw [an]; omega)];refine goL ?_;exact ⟨LEP.refl _, LEP.refl _, trivial⟩
end Go.So
namespace Go.So
open Go Go.Vc Go.Proofs Go.RowKit
def pq (key : List UInt8) (c d : Int) : Int × Int := if key.length = 0 \/ 64 < key.length \/ c < 0 then (0, 1) else kG (uL key (ig c.toNat 8)) d
def ml (c i : Nat) : List PV := ah (ig c i) ++ List.replicate (8 - i) (.int .u8 0)
theorem lP (c i : Nat) : (ig c i).length = i := by unfold ig; rw [List.length_map, List.length_range]
theorem CQ {c i : Nat} (h : i <= 8) : (ml c i).length = 8 := by
 unfold ml;rw [List.length_append, an, lP, List.length_replicate];omega
theorem GK {c i : Nat} (h : i < 8) : (ml c i).set i (.int .u8 (UInt8.ofNat (c / 2 ^ (56 - 8 * i) % 256)).toNat) = ml c (i + 1) := by
 unfold ml;rw [List.set_append_right _ _ (by rw [an, lP]; exact Nat.le_refl _), an, lP, Nat.sub_self, show 8 - i = (8 - (i + 1)) + 1 by omega, List.replicate_succ, List.set_cons_zero];unfold ig;rw [List.range_succ, List.map_append, <- cF, List.append_assoc];rfl
theorem HW (a : Nat) {k : Int} {m : Nat} (hk : k = m) (hm : m <= 64) : (a : Int).fdiv (2 ^ (min k.toNat IntKind.i64.bits)) = ((a / 2 ^ m : Nat) : Int) := CI a hk hm
theorem rZ (key : List UInt8) (c d : Int) (hk : key.length <= 140737488355328) (hc : c <= 9223372036854775807) (h0 : -9223372036854775808 <= d) (h1 : d <= 9223372036854775807) :
  K 26 [.p (.lst (ah key)), iv c, iv d] (.tup [ii (pq key c d).1, ii (pq key c d).2]) := by
 refine cS bo bp { fz := fun r => cond (Nat.beq r 9) [8] (cond (Nat.beq r 10) [10] []) } Tryz.func26 (by kernel_rfl) rfl rfl (by kernel_rfl) (goL ?_)
 by_cases hk0 : key.length = 0
 ·rw [show decide (((ah key).length : Int) = 0) = true from decide_eq_true (by rw [an, hk0]; rfl), show pq key c d = (0, 1) from if_pos (.inl hk0)];refine goL ?_;exact ⟨LEP.refl _, LEP.refl _, trivial⟩
 rw [show decide (((ah key).length : Int) = 0) = false from decide_eq_false (by rw [an]; omega)];refine goL ?_
 by_cases hk64 : 64 < key.length
 ·rw [show decide (64 < ((ah key).length : Int)) = true from decide_eq_true (by rw [an]; omega), show pq key c d = (0, 1) from if_pos (.inr (.inl hk64))];refine goL ?_;exact ⟨LEP.refl _, LEP.refl _, trivial⟩
 rw [show decide (64 < ((ah key).length : Int)) = false from decide_eq_false (by rw [an]; omega)];refine goL ?_
 by_cases hc0 : c < 0
 ·rw [show decide (c < 0) = true from decide_eq_true hc0, show pq key c d = (0, 1) from if_pos (.inr (.inr hc0))];refine goL ?_;exact ⟨LEP.refl _, LEP.refl _, trivial⟩
 obtain ⟨m, hm⟩ : ∃ m, m = uL key (ig c.toNat 8) := ⟨_, rfl⟩
 have hml : m.length = 20 := by rw [hm]; exact CM _ _
 rw [show decide (c < 0) = false from decide_eq_false hc0, show pq key c d = kG m d by rw [hm]; exact if_neg (fun h => by omega)];obtain ⟨C, rfl⟩ : ∃ C : Nat, c = C := ⟨c.toNat, by omega⟩
 rw [Int.toNat_natCast] at hm;refine goL ?_;refine ⟨Rd 8, fun i => S.of [(0, .p (.lst (ah key))), (1, iv C), (2, iv d), (8, .ptr 8 0), (23, iv (i.1 : Nat))] [(8, .var true 128 (.p (.agg (ml C i.1))))], fun i => 8 - i.1, Rd.zero 8, ?_, ?_⟩
 ·exact Ge.go
 rintro ⟨i, hi⟩
 refine goL ?_;refine aa ?_ ?_ <;> intro h8
 ·have h8 : ((i : Nat) : Int) < 8 := of_decide_eq_true h8;refine goL ?_;refine ⟨_, aq (n := 8 * i) (by show 8 * ((i : Nat) : Int) = _; omega) (by omega), goL ?_⟩;refine ⟨_, aq (n := 56 - 8 * i) (by omega) (by omega), goL ?_⟩;refine ⟨Int.natCast_nonneg _, _, HW C (m := 56 - 8 * i) rfl (by omega), goL ?_⟩;refine ⟨_, u8w _, goL ?_⟩;refine ⟨Int.natCast_nonneg _, rfl, show i < 8 by omega, goL ?_⟩;refine ⟨by show 0 + i * 1 + 1 <= ((ml C i).map SV.p).length; rw [List.length_map, CQ (by omega)]; omega, ⟨_, rfl, rfl⟩, goL ?_⟩;refine Eq.mpr (PV.forceL_eq _ _) (goL ?_);refine ⟨_, aq (n := i + 1) rfl (by omega), goL ?_⟩;refine ⟨⟨i + 1, by omega⟩, Ge.of rfl ?_ ?_, by show 8 - (i + 1) < 8 - i; omega⟩
  ·repeat (conv => whnf); refine ⟨LE.of rfl, ?_⟩
   trivial
  ·conv => whnf
   refine Eq.mpr (PV.forceL_eq _ _) ?_;refine ⟨OLE.of (congrArg (fun c => AO.var true 128 (.p (.agg c))) ?_), trivial⟩;show (ml C i).set (0 + i * 1) (.int .u8 (UInt8.ofNat (C / 2 ^ (56 - 8 * i) % 256)).toNat) = ml C (i + 1);rw [Nat.zero_add, Nat.mul_one, GK (by omega)]
 have hi8 : i = 8 := by
  have : ¬ ((i : Nat) : Int) < 8 := of_decide_eq_false h8;omega
 refine goL ?_;refine ⟨by show 8 = (ml C i).length; rw [CQ hi], goL ?_⟩;have hmac := GJ key (ig C 8) (by omega) (by omega) (by rw [lP]; decide);rw [<- hm] at hmac;refine ⟨_, ar.le hmac ⟨LE.of rfl, LE.of ?_, trivial⟩ rfl rfl, ?_⟩
 ·show SV.p (.lst (ml C i)) = SV.p (.lst (ah (ig C 8)));rw [hi8];unfold ml;simp
 refine goL ?_;refine Eq.mpr (PV.forceL_eq _ _) ?_
 conv => whnf
 refine ⟨by show some (true, (ah m).length) = some (true, 20); rw [an, hml], goL ?_⟩;refine Eq.mpr (PV.forceL_eq _ _) (goL ?_);refine ⟨by show 20 = (ah m).length; rw [an, hml], goL ?_⟩;refine cC (CP m d (by omega) h0 h1) (goL ?_);exact ⟨LEP.refl _, LEP.refl _, trivial⟩
end Go.So
namespace Go.Sl
open Go Go.Vc Go.Proofs Go.RowKit
theorem EW {f : FuncId} {args : List SV} {r : Res} (h : PC Go.So.cx f (fun _ => .no) args r) : PC (cx true) f (fun _ => .no) args r :=
 ⟨h.fn, fun ok β w vs hg hlt hr hob hk hk2 hm => h.run ok β w vs ⟨⟨hg.1.1, hg.1.2.1⟩, fun g L e => by cases e⟩ hlt hr (fun κ => trivial) hk hk2 hm⟩
def GM : List UInt8 := [49, 50, 51, 52, 53, 54, 55, 56, 57, 48, 49, 50, 51, 52, 53, 54, 55, 56, 57, 48]
theorem HX : Go.So.pq GM 1 6 = (287082, 0) := by decide +kernel
theorem CR : K true 26 [.p (.lst (ah GM)), iv 1, iv 6] (.tup [.int .i64 287082, .int .i64 0]) := by
 have h := Go.So.rZ GM 1 6 (by decide) (by decide) (by decide) (by decide);rw [HX] at h;exact EW h
theorem uM : K true 65 [] (.pv (.agg [.exact (.complex .f64 4607182418800017408 0), .exact (.complex .f64 0 4607182418800017408), .exact (.complex .f64 13830554455654793216 0), .exact (.complex .f64 0 13830554455654793216)])) := by
 refine pcv {} Tryz.func65 ?_;refine goL ?_;exact LEP.refl _
theorem EX : K true 27 [iv 2] (.pv (.exact (.complex .f64 13830554455654793216 0))) := by
 refine pcv {} Tryz.func27 ?_;refine goL ?_;refine cC uM (goL ?_);refine ⟨2, by decide, goL ?_⟩;exact LEP.refl _
theorem uN (W : Wo) (c : Cln) (hc : W.cs = [c]) : PM (cx true) 22 (woQ W) [.ptr 2000 0] (woQ W) (.ptr 2010 0) := by
 obtain ⟨k, cs, names, pool, given, told, bad, lost, now, n⟩ := W;simp only at hc;subst hc;refine pmv {} Tryz.func22 ?_;refine goL ?_;exact rR gI
theorem nk (W : Wo) (c : Cln) (hc : W.cs = [c]) : PM (cx true) 23 (woQ W) [.ptr 2000 0, iv 0] (woQ W) (.ptr 2020 0) := by
 have hi := wz W c hc 0;rw [decide_eq_true (by decide : (0 : Int) <= 0 /\ (0 : Int) < 1)] at hi;obtain ⟨k, cs, names, pool, given, told, bad, lost, now, n⟩ := W;simp only at hc;subst hc;refine pmv { own := oO [100007] } Tryz.func23 ?_;refine goL ?_;refine ac.go gI hi (goL ?_);exact rR gI
theorem j7 {nm : Bs} (h : nm.length = 1) : dZ 0 (jB (cfT nm)) :=
 {on := fun h => (by cases h), nonce := Nat.zero_le _, c0 := Int.le_refl _, c1 := Int.le_refl _, marks := Nat.le_refl _, name := by show nm.length <= 1; omega, tick := rfl, host := rfl
  key := by
   have hl : oL.length = 5 := rfl;have hne : oL ++ nm ≠ [] := by
    intro e;have q := congrArg List.length e;rw [List.length_append, hl] at q;simp at q
   refine (G.kdf (n := oL ++ nm) hne (HE (s := nm) (by omega))).mono (Nat.le_refl _) ?_ (by decide);rw [List.length_append];omega
  seed := (HF (s := nm) (by omega)).mono (Nat.le_refl _) (by decide) (Nat.le_refl _) }
theorem sx {nm : Bs} {st : List Bs} (h : nm.length = 1) : G 2 200 3 (usT nm st).key := (j7 h).key
theorem CS {us : List Us} (hf : us.length <= 3) (h : ∀ u ∈ us, G 2 200 3 u.key /\ 0 < u.set.length /\ u.set.length <= 3 /\ (∀ s ∈ u.set, s.length <= 20) /\ u.fails = 0) {room : Int} (r0 : 0 <= room) (r1 : room <= 64) : dL 0 ⟨kyT, ckT, us, room, [], 0, []⟩ :=
 {key := rfl, ck := rfl, few := hf, ukey := fun u hu => (h u hu).1, set0 := fun u hu => (h u hu).2.1, set3 := fun u hu => (h u hu).2.2.1, words := fun u hu => (h u hu).2.2.2.1
  f0 := fun u hu => (by rw [(h u hu).2.2.2.2]; exact Int.le_refl _), f1 := fun u hu => (by rw [(h u hu).2.2.2.2]; exact Int.le_refl _), room0 := r0, room1 := r1, nod := List.nodup_nil, cal := r0, d0 := Int.le_refl _, d1 := Int.le_refl _, iss := Nat.le_refl _ }
theorem zy {s0 : List Bs} (h0 : 0 < s0.length) (h3 : s0.length <= 3) (hw : ∀ s ∈ s0, s.length <= 20) {room : Int} (r0 : 0 <= room) (r1 : room <= 64) : aM 1 0 (wC [s0] room) :=
 {len := rfl, cs := fun c hc => (by
   rw [List.mem_singleton.1 (show c ∈ [jB (cfT [97])] from hc)];exact j7 rfl)
  k := CS (us := [usT [97] s0]) (by decide : 1 <= 3) (fun u hu => by
   rw [List.mem_singleton.1 hu];exact ⟨sx rfl, h0, h3, hw, rfl⟩) r0 r1
  given := rfl, names := fun s hs => (by rw [List.mem_singleton.1 (show s ∈ [[97]] from hs)]; decide), nlen := rfl, bad := rfl, told := fun t ht => (by cases ht), tlen := Nat.le_refl _, pool := fun t ht => (by cases ht), plen := Nat.le_refl _, t0 := Int.le_refl _, t1 := Int.le_refl _, n0 := Int.le_refl _, n1 := Int.le_refl _ }
theorem zz {s0 s1 : List Bs} (h0 : 0 < s0.length) (h3 : s0.length <= 3) (hw : ∀ s ∈ s0, s.length <= 20) (g0 : 0 < s1.length) (g3 : s1.length <= 3) (gw : ∀ s ∈ s1, s.length <= 20) {room : Int} (r0 : 0 <= room) (r1 : room <= 64) : aM 2 0 (wC [s0, s1] room) :=
 {len := rfl, cs := fun c hc => (by
   rcases List.mem_cons.1 (show c ∈ [jB (cfT [97]), jB (cfT [98])] from hc) with rfl | hc
   ·exact j7 rfl
   ·rw [List.mem_singleton.1 hc];exact j7 rfl)
  k := CS (us := [usT [97] s0, usT [98] s1]) (by decide : 2 <= 3) (fun u hu => by
   rcases List.mem_cons.1 hu with rfl | hu
   ·exact ⟨sx rfl, h0, h3, hw, rfl⟩
   ·rw [List.mem_singleton.1 hu];exact ⟨sx rfl, g0, g3, gw, rfl⟩) r0 r1
  given := rfl, names := fun s hs => (by
   rcases List.mem_cons.1 (show s ∈ [[97], [98]] from hs) with rfl | hs
   ·decide
   ·rw [List.mem_singleton.1 hs]; decide)
  nlen := rfl, bad := rfl, told := fun t ht => (by cases ht), tlen := Nat.le_refl _, pool := fun t ht => (by cases ht), plen := Nat.le_refl _, t0 := Int.le_refl _, t1 := Int.le_refl _, n0 := Int.le_refl _, n1 := Int.le_refl _ }
theorem xN : (o1 (wk7.cs.getD 0 cl0)).2.2 = true /\ wk7.k.iss.length = 1 /\ wk1.pool.length = 1 /\ wk2.pool.length = 2 /\ wk3.pool.length = 3 /\ wk4.pool.length = 4 /\ wk5.pool.length = 5 /\ wk6.pool.length = 6 := by
 have h := EL;unfold wkB at h;simp only [Bool.and_eq_true, decide_eq_true_eq] at h;exact h
abbrev st1 : Stp := ⟨1, 0, 0, aD⟩
abbrev st2 (p : Int) : Stp := ⟨2, 0, p, aD⟩
abbrev st3 (p : Int) : Stp := ⟨3, 0, p, aD⟩
theorem IT {W : Wo} (h : W.cs.length = 1) : (doT W st1).1 = (bU W 0 (W.cs.getD 0 cl0)).1 := by
 have hM : a8 W st1 = 0 := cD (by decide) (by decide) (fun _ => by rw [h]; exact ⟨by decide, by decide⟩) (fun h => absurd h (by decide)) (fun h => absurd h (by decide));rw [Cz hM];rfl
theorem GN {W : Wo} {p : Nat} (hp : p < W.pool.length) : (doT W (st2 p)).1 = mH W (at_ W.pool p) := by
 have hM : a8 W (st2 p) = 0 := cD (by decide : (1 : Int) <= 2) (by decide : (2 : Int) <= 9) (fun h => absurd h (by simp)) (fun _ => ⟨Int.natCast_nonneg _, by show (p : Int) < _; omega⟩) (fun h => absurd h (by simp));rw [CA hM, Gz];rfl
theorem GO {W : Wo} (h : W.cs.length = 1) {p : Nat} (hp : p < W.pool.length) : (doT W (st3 p)).1 = (au W 0 (W.cs.getD 0 cl0) (at_ W.pool p)).1 := by
 have hM : a8 W (st3 p) = 0 := cD (by decide : (1 : Int) <= 3) (by decide : (3 : Int) <= 9) (fun _ => by rw [h]; exact ⟨(by decide : (0 : Int) <= 0), (by decide : (0 : Int) < ((1 : Nat) : Int))⟩) (fun _ => ⟨Int.natCast_nonneg _, by show (p : Int) < _; omega⟩) (fun h => absurd h (by simp));rw [CB hM];rfl
end Go.Sl
namespace Go.Sl
open Go Go.Vc Go.Proofs Go.RowKit
abbrev gW : Nat -> Nat := gn [(2000, 1600), (2001, 1601), (2006, 1606), (2005, 1605), (2010, 1610), (2011, 1611), (2013, 1613), (2020, 1620)]
abbrev gWQ : Nat -> Nat := gn [(2000, 1600), (2001, 1601), (2006, 1606), (2005, 1605), (2010, 1610), (2011, 1611), (2013, 1613), (2020, 1620), (2101, 1001), (2103, 1003), (2110, 1010), (2120, 1020), (2112, 1012), (2114, 1014)]
theorem leS {a b c : Int} : LE (.p (.agg [.int .i64 a, .int .i64 b, .int .i64 c, .int .i64 0, .str [], .nilS])) (.p (Stp.pv ⟨a, b, c, aD⟩)) := gO ⟨LEP.refl _, LEP.refl _, LEP.refl _, LEP.refl _, LEP.refl _, bm, trivial⟩
def HY (g : Nat -> Nat) : List (Nat × AO) -> List (Nat × AO)
 | [] => []
 | (k, o) :: l => (g k, o.ren g) :: HY g l
theorem GP (P : Program) (w : World) : Sem.run P (Op.complexOp BinOp.eql FloatKind.f64 13830554455654793216 0 13830554455654793216 0) w = Result.ok (Value.bool true) w := by
 kernel_rfl
structure DoK (W : Wo) (s : Stp) (V : Wo) : Prop where
 out : ∃ (r : Tm) (e : Int) (c : Cln), V.cs = [c] /\ PM (cx true) 24 (woO W) [.ptr 2000 0, .p s.pv] (woO V) (.tupS [tv r, iv e])
structure WkI (Vs : Nat -> Wo) (i : Nat) (V : Wo) (c : Cln) : Prop where
 i3 : i <= 3
 cs : V.cs = [c]
 eq : V = Vs i
set_option maxHeartbeats 8000000 in
theorem CT {V0 : Wo} {Vs : Nat -> Wo} {c0 : Cln} (h0 : V0.cs = [c0])
  (hn : PM (cx true) 15 [] [.p (.lst [.lst (aC [spW, cW])]), iv 8] (woO V0) (.tupS [.ptr 2000 0, iv 0]))
  (d0 : DoK V0 st1 (Vs 0)) (da : ∀ i, i < 3 -> ∃ A, DoK (Vs i) (st2 (2 * i : Nat)) A /\ DoK A (st3 (2 * i + 1 : Nat)) (Vs (i + 1)))
  (hs : (o1 ((Vs 3).cs.getD 0 cl0)).2.2 = true) (hi : (Vs 3).k.iss.length = 1) (hd : ∀ x ∈ (Vs 3).k.iss, x.done.length <= 1000000000) : K true 5 [] (.pv (.bool true)) := by
 obtain ⟨r0, e0, c1, h1, d0⟩ := d0.out;have hk0 := uN V0 c0 h0;have hc0 := nk V0 c0 h0;obtain ⟨V1, hV1⟩ : ∃ V, V = Vs 0 := ⟨_, rfl⟩
 rw [<- hV1] at d0 h1;obtain ⟨k0, cs0, names0, pool0, given0, told0, bad0, lost0, now0, n0⟩ := V0;simp only at h0;subst h0;obtain ⟨k1, cs1, names1, pool1, given1, told1, bad1, lost1, now1, n1⟩ := V1;simp only at h1;subst h1;refine pcv { own := oO [100012, 100023, 100028, 100033, 100042, 100048, 100051, 100052, 100065, 100066, 57], kp := kpT [(7, [0, 1, 3], [1600, 1601, 1001, 1606, 1003, 1605, 1610, 1611, 1613, 1012, 1014, 1010, 1620, 1020]), (8, [0, 1, 3], [1600, 1601, 1001, 1606, 1003, 1605, 1610, 1611, 1613, 1012, 1014, 1010, 1620, 1020]), (9, [0, 1, 3], [1600, 1601, 1001, 1606, 1003, 1605, 1610, 1611, 1613, 1012, 1014, 1010, 1620, 1020]), (10, [0, 1], [1600, 1601, 1001, 1606, 1003, 1605, 1610, 1611, 1613, 1012, 1014, 1010, 1620, 1020])] } Tryz.func5 ?_;refine goL ?_;refine ac.go gW hn (goL ?_);refine ac.go gWQ hk0 (goL ?_);refine ac.go gWQ hc0 (goL ?_);refine ac.go gW d0 ?_ (hle := ⟨LE.of rfl, leS, trivial⟩)
 refine goL ?_;refine ⟨{ x : Nat × Wo × Cln // WkI Vs x.1 x.2.1 x.2.2 }, fun x => S.of [(0, .p (.bool false)), (1, .ptr 1600 0), (3, iv (x.1.1 : Int))] (HY gW (woO { x.1.2.1 with cs := [x.1.2.2] })), fun x => 3 - x.1.1, ⟨(0, ⟨k1, [c1], names1, pool1, given1, told1, bad1, lost1, now1, n1⟩, c1), ?_⟩, ?_, ?_⟩
 ·exact ⟨Nat.zero_le _, rfl, hV1⟩
 ·exact Ge.go
 rintro ⟨⟨i, V, c⟩, hI⟩
 obtain ⟨i3, hcs, heq⟩ := hI;simp only at i3 hcs heq;refine goL ?_;refine aa ?_ ?_ <;> intro h1
 ·have hlt : i < 3 := Int.ofNat_lt.1 (of_decide_eq_true h1);obtain ⟨A, dA, dB⟩ := da i hlt;rw [<- heq] at dA;obtain ⟨r1, e1, c2, hc2, dA⟩ := dA.out;obtain ⟨r2, e2, c3, hc3, dB⟩ := dB.out;obtain ⟨V2, hV2⟩ : ∃ V, V = Vs (i + 1) := ⟨_, rfl⟩
  rw [<- hV2] at dB hc3;obtain ⟨k, cs, names, pool, given, told, bad, lost, now, n⟩ := V;simp only at hcs;subst hcs;obtain ⟨k2, cs2, gk, pool2, given2, told2, pk, lost2, now2, n2⟩ := A;simp only at hc2;subst hc2;obtain ⟨k3, cs3, names3, pool3, given3, told3, bad3, lost3, now3, n3⟩ := V2;simp only at hc3;subst hc3;refine goL ?_;refine ⟨_, aq (n := 2 * i) (show (2 : Int) * (i : Int) = ((2 * i : Nat) : Int) by omega) (by omega), goL ?_⟩;refine ac.go gW dA ?_ (hle := ⟨LE.of rfl, leS, trivial⟩);refine goL ?_;refine ⟨_, aq (n := 2 * i) (show (2 : Int) * (i : Int) = ((2 * i : Nat) : Int) by omega) (by omega), goL ?_⟩;refine ⟨_, aq (n := 2 * i + 1) (show ((2 * i : Nat) : Int) + 1 = ((2 * i + 1 : Nat) : Int) by omega) (by omega), goL ?_⟩;refine ac.go gW dB ?_ (hle := ⟨LE.of rfl, leS, trivial⟩);refine goL ?_;refine ⟨_, aq (n := i + 1) (show (i : Int) + 1 = ((i + 1 : Nat) : Int) by omega) (by omega), goL ?_⟩
  refine ⟨⟨(i + 1, ⟨k3, [c3], names3, pool3, given3, told3, bad3, lost3, now3, n3⟩, c3), ⟨hlt, rfl, hV2⟩⟩, ?_, by show 3 - (i + 1) < 3 - i; omega⟩;exact Ge.go
 ·have hge : ¬ (i : Int) < (3 : Int) := of_decide_eq_false h1;obtain rfl : i = 3 := by omega
  rw [<- heq] at hs hi hd;have hk := uN V c hcs;have hc := nk V c hcs;have hse := wq c;rw [hcs] at hs;have hq : (o1 c).2.2 = true := hs;rw [hq] at hse;have hiss := yR V.k (by omega) hd;clear hs;obtain ⟨k, cs, names, pool, given, told, bad, lost, now, n⟩ := V;simp only at hcs;subst hcs;simp only at hi hd hiss;refine goL ?_;refine ac.go gWQ hc (goL ?_);refine ac.go gW hse (goL ?_);refine ⟨by (repeat (refine ⟨rfl, ?_⟩)); exact trivial, ?_⟩;refine goL ?_;refine cC CR (goL ?_);refine ac.go gWQ hk (goL ?_);refine ac.go (gn [(2010, 1610), (2011, 1611), (2013, 1613), (2012, 1012), (2014, 1014)]) hiss (goL ?_);refine aa ?_ ?_ <;> intro h5
  ·refine goL ?_;refine cC EX (goL ?_);refine ⟨true, GP, goL ?_⟩;exact LEP.refl _
  ·have h5 : ¬ ((isL k.iss).length : Int) = 1 := of_decide_eq_false h5;rw [iL] at h5;exact absurd (by omega) h5
end Go.Sl
