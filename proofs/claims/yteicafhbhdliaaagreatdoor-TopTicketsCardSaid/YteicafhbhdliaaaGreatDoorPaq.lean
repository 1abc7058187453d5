/- The statement TopTickets, without a condition: a ticket of one KDC is none of another one's. Part 17: Bb Bc Bd Be Bf. -/
import Derived.Test.YteicafhbhdliaaaGreatDoorPap
import Derived.Laws.BitsAllLaws
set_option linter.unusedSimpArgs false
set_option linter.unusedVariables false
namespace Go.So
open Go Go.Vc Go.Proofs Go.RowKit
abbrev uv (n : Nat) : SV := .p (.int .u32 n)
abbrev uu (n : Nat) : PV := .int .u32 n
abbrev B32 : Nat := 4294967296
def rotl (x k : Nat) : Nat := x * 2 ^ k % 4294967296 ||| x / 2 ^ (32 - k)
theorem wadd (a b : Nat) : IntKind.u32.wrap ((a : Int) + (b : Int)) = ((a + b) % 4294967296 : Nat) := by
 rw [IntKind.wrap_u32']; omega
theorem wand {a b : Nat} (ha : a < B32) (hb : b < B32) : IntKind.u32.wrap ((BitVec.ofInt IntKind.u32.bits (a : Int) &&& BitVec.ofInt IntKind.u32.bits (b : Int)).toNat : Int) = ((a &&& b : Nat) : Int) := u32_and_nat a b ha hb
theorem wor {a b : Nat} (ha : a < B32) (hb : b < B32) : IntKind.u32.wrap ((BitVec.ofInt IntKind.u32.bits (a : Int) ||| BitVec.ofInt IntKind.u32.bits (b : Int)).toNat : Int) = ((a ||| b : Nat) : Int) := u32_or_nat a b ha hb
theorem wxor {a b : Nat} (ha : a < B32) (hb : b < B32) : IntKind.u32.wrap ((BitVec.ofInt IntKind.u32.bits (a : Int) ^^^ BitVec.ofInt IntKind.u32.bits (b : Int)).toNat : Int) = ((a ^^^ b : Nat) : Int) := u32_xor_nat a b ha hb
theorem wnot {a : Nat} (ha : a < B32) : IntKind.u32.wrap ((BitVec.ofInt IntKind.u32.bits (if IntKind.u32.signed = true then -1 else IntKind.u32.max) ^^^ BitVec.ofInt IntKind.u32.bits (a : Int)).toNat : Int) = ((4294967295 ^^^ a : Nat) : Int) := u32_xor_nat 4294967295 a (by decide) ha
theorem wshl (a : Nat) {k : Int} {m : Nat} (hk : k = m) (hm : m ≤ 32) : IntKind.u32.wrap ((a : Int) * 2 ^ (min k.toNat IntKind.u32.bits)) = ((a * 2 ^ m % 4294967296 : Nat) : Int) := by
 subst hk
 rw [IntKind.wrap_u32', Int.toNat_natCast, show min m IntKind.u32.bits = m from Nat.min_eq_left hm]
 have h : ((a * 2 ^ m : Nat) : Int) = (a : Int) * 2 ^ m := by rw [Int.natCast_mul, Int.natCast_pow]; rfl
 rw [← h]
 omega
theorem wshr (a : Nat) {k : Int} {m : Nat} (hk : k = m) (hm : m ≤ 32) : (a : Int).fdiv (2 ^ (min k.toNat IntKind.u32.bits)) = ((a / 2 ^ m : Nat) : Int) := by
 subst hk
 rw [Int.toNat_natCast, show min m IntKind.u32.bits = m from Nat.min_eq_left hm]
 rw [Int.natCast_ediv, Int.natCast_pow, Int.fdiv_eq_ediv_of_nonneg _ (by exact_mod_cast Nat.zero_le (2 ^ m))]
 rfl
theorem rotl_lt {x : Nat} (k : Nat) (h : x < B32) : rotl x k < B32 := by
 have h1 : x * 2 ^ k % 4294967296 < 2 ^ 32 := Nat.mod_lt _ (by decide)
 have h2 : x / 2 ^ (32 - k) < 2 ^ 32 := Nat.lt_of_le_of_lt (Nat.div_le_self _ _) h
 exact Nat.or_lt_two_pow h1 h2
theorem div_lt {x : Nat} (k : Nat) (h : x < B32) : x / 2 ^ k < B32 := Nat.lt_of_le_of_lt (Nat.div_le_self _ _) h
theorem and_lt {a : Nat} (b : Nat) (h : b < B32) : a &&& b < B32 := Nat.and_lt_two_pow (n := 32) _ h
theorem or_lt {a b : Nat} (h : a < B32) (h' : b < B32) : a ||| b < B32 := Nat.or_lt_two_pow (n := 32) h h'
theorem xor_lt {a b : Nat} (h : a < B32) (h' : b < B32) : a ^^^ b < B32 := Nat.xor_lt_two_pow (n := 32) h h'
theorem mod_lt (a : Nat) : a % 4294967296 < B32 := Nat.mod_lt _ (by decide)
theorem rot_ok (x k : Nat) (hx : x < B32) (hk : k < 32) : K 234 [uv x, iv k] (.pv (uu (rotl x k))) := by
 refine PC_of_vc cx_ok mixed {} Tryz.func234 (by kernel_rfl) rfl rfl (by kernel_rfl) ?_
 refine goL ?_
 refine ⟨_, show IntKind.u64.wrap (k : Int) = ((k : Nat) : Int) by rw [IntKind.wrap_u64]; omega, ?_⟩
 refine goL ?_
 refine ⟨_, show IntKind.u64.wrap ((BitVec.ofInt IntKind.u64.bits (k : Int) &&& BitVec.ofInt IntKind.u64.bits (31 : Int)).toNat : Int) = ((k : Nat) : Int) from ?_, ?_⟩
 ·have h31 : k &&& 31 = k := by
   have := Nat.and_two_pow_sub_one_eq_mod k 5
   rw [Nat.mod_eq_of_lt (show k < 2 ^ 5 by omega)] at this
   exact this
  have := u64_and_nat k 31 (by omega) (by decide)
  rw [h31] at this
  exact this
 refine goL ?_
 refine ⟨by omega, _, wshl x rfl (by omega), ?_⟩
 refine goL ?_
 refine ⟨_, show IntKind.u64.wrap (32 - (k : Int)) = ((32 - k : Nat) : Int) by rw [IntKind.wrap_u64]; omega, ?_⟩
 refine goL ?_
 refine ⟨by omega, _, wshr x rfl (by omega), ?_⟩
 refine goL ?_
 refine ⟨_, wor (mod_lt _) (div_lt _ hx), ?_⟩
 refine goL ?_
 exact LEP.refl _
def ff (t b c d : Nat) : Nat :=
 if t < 20 then b &&& c ||| (4294967295 ^^^ b) &&& d
 else if t < 40 then b ^^^ c ^^^ d
 else if t < 60 then b &&& c ||| b &&& d ||| c &&& d
 else b ^^^ c ^^^ d
def kk (t : Nat) : Nat := if t < 20 then 1518500249 else if t < 40 then 1859775393 else if t < 60 then 2400959708 else 3395469782
theorem step_ok (t b c d : Nat) (ht : t < 80) (hb : b < B32) (hc : c < B32) (hd : d < B32) : K 235 [iv t, uv b, uv c, uv d] (.tup [uu (ff t b c d), uu (kk t)]) := by
 have hdiv : IntKind.i64.wrap ((t : Int).tdiv 20) = ((t / 20 : Nat) : Int) := wrapN (by rw [Int.tdiv_eq_ediv_of_nonneg (by omega)]; omega) (by omega)
 refine PC_of_vc cx_ok mixed {} Tryz.func235 (by kernel_rfl) rfl rfl (by kernel_rfl) ?_
 refine goL ?_
 refine ⟨_, hdiv, ?_⟩
 refine goL ?_
 refine @bool_rec _ _ _ ?_ ?_ <;> intro h0
 ·have h0 : ((t / 20 : Nat) : Int) = 0 := of_decide_eq_true h0
  have e1 : ff t b c d = b &&& c ||| (4294967295 ^^^ b) &&& d := by unfold ff; rw [if_pos (by omega)]
  have e2 : kk t = 1518500249 := by unfold kk; rw [if_pos (by omega)]
  rw [e1, e2]
  refine goL ?_
  refine ⟨_, wand hb hc, ?_⟩
  refine goL ?_
  refine ⟨_, wnot hb, ?_⟩
  refine goL ?_
  refine ⟨_, wand (xor_lt (by decide) hb) hd, ?_⟩
  refine goL ?_
  refine ⟨_, wor (and_lt _ hc) (and_lt _ hd), ?_⟩
  refine goL ?_
  exact ⟨LEP.refl _, LEP.refl _, trivial⟩
 ·have h0 : ¬ ((t / 20 : Nat) : Int) = 0 := of_decide_eq_false h0
  refine goL ?_
  refine @bool_rec _ _ _ ?_ ?_ <;> intro h1
  ·have h1 : ((t / 20 : Nat) : Int) = 1 := of_decide_eq_true h1
   have e1 : ff t b c d = b ^^^ c ^^^ d := by unfold ff; rw [if_neg (by omega), if_pos (by omega)]
   have e2 : kk t = 1859775393 := by unfold kk; rw [if_neg (by omega), if_pos (by omega)]
   rw [e1, e2]
   refine goL ?_
   refine ⟨_, wxor hb hc, ?_⟩
   refine goL ?_
   refine ⟨_, wxor (xor_lt hb hc) hd, ?_⟩
   refine goL ?_
   exact ⟨LEP.refl _, LEP.refl _, trivial⟩
  ·have h1 : ¬ ((t / 20 : Nat) : Int) = 1 := of_decide_eq_false h1
   refine goL ?_
   refine @bool_rec _ _ _ ?_ ?_ <;> intro h2
   ·have h2 : ((t / 20 : Nat) : Int) = 2 := of_decide_eq_true h2
    have e1 : ff t b c d = b &&& c ||| b &&& d ||| c &&& d := by unfold ff; rw [if_neg (by omega), if_neg (by omega), if_pos (by omega)]
    have e2 : kk t = 2400959708 := by unfold kk; rw [if_neg (by omega), if_neg (by omega), if_pos (by omega)]
    rw [e1, e2]
    refine goL ?_
    refine ⟨_, wand hb hc, ?_⟩
    refine goL ?_
    refine ⟨_, wand hb hd, ?_⟩
    refine goL ?_
    refine ⟨_, wor (and_lt _ hc) (and_lt _ hd), ?_⟩
    refine goL ?_
    refine ⟨_, wand hc hd, ?_⟩
    refine goL ?_
    refine ⟨_, wor (or_lt (and_lt _ hc) (and_lt _ hd)) (and_lt _ hd), ?_⟩
    refine goL ?_
    exact ⟨LEP.refl _, LEP.refl _, trivial⟩
   ·have h2 : ¬ ((t / 20 : Nat) : Int) = 2 := of_decide_eq_false h2
    have e1 : ff t b c d = b ^^^ c ^^^ d := by unfold ff; rw [if_neg (by omega), if_neg (by omega), if_neg (by omega)]
    have e2 : kk t = 3395469782 := by unfold kk; rw [if_neg (by omega), if_neg (by omega), if_neg (by omega)]
    rw [e1, e2]
    refine goL ?_
    refine ⟨_, wxor hb hc, ?_⟩
    refine goL ?_
    refine ⟨_, wxor (xor_lt hb hc) hd, ?_⟩
    refine goL ?_
    exact ⟨LEP.refl _, LEP.refl _, trivial⟩
end Go.So
namespace Go.So
open Go Go.Vc Go.Proofs Go.RowKit
structure S5 where
 a : Nat
 b : Nat
 c : Nat
 d : Nat
 e : Nat
structure S5.ok (s : S5) : Prop where
 a : s.a < B32
 b : s.b < B32
 c : s.c < B32
 d : s.d < B32
 e : s.e < B32
def byt (p : List UInt8) (i : Nat) : Nat := (p.getD i 0).toNat
theorem byt_lt (p : List UInt8) (i : Nat) : byt p i < 256 := UInt8.toNat_lt _
theorem byt_get {p : List UInt8} {i : Nat} (h : i < p.length) : (bytesL p)[i]? = some (.int .u8 (byt p i)) := by
 unfold bytesL byt
 rw [List.getElem?_map, List.getElem?_eq_getElem h, List.getD_eq_getElem?_getD, List.getElem?_eq_getElem h]
 rfl
theorem byt_getN {p : List UInt8} {i : Nat} (h : i < p.length) : (bytesL p)[((i : Nat) : Int).toNat]? = some (.int .u8 (byt p i)) := byt_get h
theorem bytes_sz (p : List UInt8) : allSz (false, 1) (bytesL p) := by
 induction p with
 | nil => trivial
 | cons c p ih => exact ⟨rfl, ih⟩
theorem bytes_len (p : List UInt8) : (bytesL p).length = p.length := by unfold bytesL; rw [List.length_map]
def word (p : List UInt8) (t : Nat) : Nat := byt p (4 * t) * 2 ^ 24 % 4294967296 ||| byt p (4 * t + 1) * 2 ^ 16 % 4294967296 ||| byt p (4 * t + 2) * 2 ^ 8 % 4294967296 ||| byt p (4 * t + 3)
def next (p : List UInt8) (W : List Nat) : Nat :=
 if W.length < 16 then word p W.length else rotl (W.getD (W.length - 3) 0 ^^^ W.getD (W.length - 8) 0 ^^^ W.getD (W.length - 14) 0 ^^^ W.getD (W.length - 16) 0) 1
def sched (p : List UInt8) : Nat → List Nat
 | 0 => []
 | t + 1 => sched p t ++ [next p (sched p t)]
theorem sched_len (p : List UInt8) (t : Nat) : (sched p t).length = t := by
 induction t with
 | zero => rfl
 | succ t ih => rw [sched, List.length_append, ih]; rfl
theorem getD_mem_lt {W : List Nat} (h : ∀ x ∈ W, x < B32) (i : Nat) : W.getD i 0 < B32 := by
 rw [List.getD_eq_getElem?_getD]
 cases e : W[i]? with
 | none => exact (by decide : 0 < B32)
 | some x => exact h x (List.mem_of_getElem? e)
theorem byt32 (p : List UInt8) (i : Nat) : byt p i < B32 := Nat.lt_trans (byt_lt p i) (by decide)
theorem word_lt (p : List UInt8) (t : Nat) : word p t < B32 := or_lt (or_lt (or_lt (mod_lt _) (mod_lt _)) (mod_lt _)) (byt32 _ _)
theorem next_lt (p : List UInt8) {W : List Nat} (h : ∀ x ∈ W, x < B32) : next p W < B32 := by
 unfold next
 split
 ·exact word_lt _ _
 ·exact rotl_lt _ (xor_lt (xor_lt (xor_lt (getD_mem_lt h _) (getD_mem_lt h _)) (getD_mem_lt h _)) (getD_mem_lt h _))
theorem sched_lt (p : List UInt8) (t : Nat) : ∀ x ∈ sched p t, x < B32 := by
 induction t with
 | zero => intro x hx; cases hx
 | succ t ih =>
  intro x hx
  rw [sched, List.mem_append, List.mem_singleton] at hx
  rcases hx with hx | rfl
  ·exact ih x hx
  ·exact next_lt p ih
def wl (p : List UInt8) (t : Nat) : List PV := (sched p t).map uu ++ List.replicate (80 - t) (uu 0)
theorem wl_len {p : List UInt8} {t : Nat} (h : t ≤ 80) : (wl p t).length = 80 := by
 unfold wl
 rw [List.length_append, List.length_map, sched_len, List.length_replicate]
 omega
theorem wl_get {p : List UInt8} {t i : Nat} (h : i < t) : (wl p t)[i]? = some (uu ((sched p t).getD i 0)) := by
 unfold wl
 rw [List.getElem?_append_left (by rw [List.length_map, sched_len]; exact h), List.getElem?_map, List.getD_eq_getElem?_getD, List.getElem?_eq_getElem (by rw [sched_len]; exact h)]
 rfl
theorem wl_getS {p : List UInt8} {t i : Nat} (h : i < t) : ((wl p t).map SV.p)[0 + ((i : Nat) : Int).toNat * 1]? = some (uv ((sched p t).getD i 0)) := by
 rw [Nat.zero_add, Nat.mul_one, Int.toNat_natCast, List.getElem?_map, wl_get h]
 rfl
theorem wl_set {p : List UInt8} {t : Nat} (h : t < 80) : (wl p t).set t (uu (next p (sched p t))) = wl p (t + 1) := by
 unfold wl
 rw [List.set_append_right _ _ (by rw [List.length_map, sched_len]; exact Nat.le_refl _), List.length_map, sched_len, Nat.sub_self, show 80 - t = (80 - (t + 1)) + 1 by omega, List.replicate_succ, List.set_cons_zero, sched, List.map_append, List.append_assoc]
 rfl
def round (W : List Nat) (t : Nat) (s : S5) : S5 :=
 ⟨((((rotl s.a 5 + ff t s.b s.c s.d) % 4294967296 + s.e) % 4294967296 + kk t) % 4294967296 + W.getD t 0) % 4294967296, s.a, rotl s.b 30, s.c, s.d⟩
def rounds (W : List Nat) : Nat → S5 → S5
 | 0, s => s
 | t + 1, s => round W t (rounds W t s)
theorem round_ok {W : List Nat} {s : S5} (t : Nat) (h : s.ok) : (round W t s).ok := ⟨mod_lt _, h.a, rotl_lt _ h.b, h.c, h.d⟩
theorem rounds_ok {W : List Nat} {s : S5} (h : s.ok) : ∀ t, (rounds W t s).ok
 | 0 => h
 | t + 1 => round_ok t (rounds_ok h t)
def S5.add (s r : S5) : S5 := ⟨(s.a + r.a) % 4294967296, (s.b + r.b) % 4294967296, (s.c + r.c) % 4294967296, (s.d + r.d) % 4294967296, (s.e + r.e) % 4294967296⟩
def blk (s : S5) (p : List UInt8) : S5 := s.add (rounds (sched p 80) 80 s)
theorem blk_ok (s : S5) (p : List UInt8) : (blk s p).ok := ⟨mod_lt _, mod_lt _, mod_lt _, mod_lt _, mod_lt _⟩
abbrev hvL (s : S5) (l : PV) (n : Nat) : List PV := [uu s.a, uu s.b, uu s.c, uu s.d, uu s.e, l, .int .u64 n]
abbrev HS (s : S5) (l : PV) (n : Nat) : AO := .var true 269 (.p (.agg (hvL s l n)))
inductive Six where
 | a0 | a1 | a2 | a3 | a4 | a5
def Six.left : Six → Nat
 | .a0 => 5 | .a1 => 4 | .a2 => 3 | .a3 => 2 | .a4 => 1 | .a5 => 0
abbrev s5L (s : S5) : List PV := [uu s.a, uu s.b, uu s.c, uu s.d, uu s.e]
theorem wb (c : Nat) (h : c < 256) : IntKind.u32.wrap (c : Int) = (c : Int) := by rw [IntKind.wrap_u32']; omega
set_option maxHeartbeats 1000000 in
theorem block_ok (s : S5) (hs : s.ok) (l : List PV) (n : Nat) (p : List UInt8) (hp : p.length = 64) :
  PM cx 210 [(2000, HS s (.lst l) n)] [.ptr 2000 0, .p (.lst (bytesL p))] [(2000, HS (blk s p) (.lst l) n)] (.tupS []) := by
 refine PM_of_vc cx_ok mixed { kp := kpT [(13, [0, 4, 6, 7, 8, 9, 80], [2000, 4, 6]), (14, [0, 4, 6, 7, 10, 80], [2000, 4, 6])] } Tryz.func210 (by kernel_rfl) rfl rfl (by kernel_rfl) ?_ ?_
 ·rfl
 refine goL ?_
 refine ⟨Rd 80, fun i => S.of [(0, .ptr 2000 0), (1, .p (.lst (bytesL p))), (4, .ptr 4 0), (13, iv (i.1 : Nat))] [(2000, HS s (.lst l) n), (4, .var true 291 (.p (.agg (wl p i.1))))], fun i => 80 - i.1, Rd.zero 80, ?_, ?_⟩
 ·exact Ge.go
 rintro ⟨i, hi⟩
 refine goL ?_
 refine @bool_rec _ _ _ ?_ ?_ <;> intro h
 ·have h : ((i : Nat) : Int) < 80 := of_decide_eq_true h
  refine goL ?_
  refine @bool_rec _ _ _ ?_ ?_ <;> intro h16
  ·have h16 : ((i : Nat) : Int) < 16 := of_decide_eq_true h16
   have hnew : next p (sched p i) = word p i := by unfold next; rw [sched_len, if_pos (by omega)]
   refine goL ?_
   refine ⟨_, wrapN (n := 4 * i) (by show 4 * ((i : Nat) : Int) = _; omega) (by omega), ?_⟩
   refine goL ?_
   refine ⟨Int.natCast_nonneg _, _, byt_getN (i := 4 * i) (by omega), rfl, rfl, ?_⟩
   refine goL ?_
   refine ⟨_, wb _ (byt_lt _ _), ?_⟩
   refine goL ?_
   refine ⟨_, wshl _ (m := 24) rfl (by decide), ?_⟩
   refine goL ?_
   refine ⟨_, wrapN (n := 4 * i) (by show 4 * ((i : Nat) : Int) = _; omega) (by omega), ?_⟩
   refine goL ?_
   refine ⟨_, wrapN (n := 4 * i + 1) (by omega) (by omega), ?_⟩
   refine goL ?_
   refine ⟨Int.natCast_nonneg _, _, byt_getN (i := 4 * i + 1) (by omega), rfl, rfl, ?_⟩
   refine goL ?_
   refine ⟨_, wb _ (byt_lt _ _), ?_⟩
   refine goL ?_
   refine ⟨_, wshl _ (m := 16) rfl (by decide), ?_⟩
   refine goL ?_
   refine ⟨_, wor (mod_lt _) (mod_lt _), ?_⟩
   refine goL ?_
   refine ⟨_, wrapN (n := 4 * i) (by show 4 * ((i : Nat) : Int) = _; omega) (by omega), ?_⟩
   refine goL ?_
   refine ⟨_, wrapN (n := 4 * i + 2) (by omega) (by omega), ?_⟩
   refine goL ?_
   refine ⟨Int.natCast_nonneg _, _, byt_getN (i := 4 * i + 2) (by omega), rfl, rfl, ?_⟩
   refine goL ?_
   refine ⟨_, wb _ (byt_lt _ _), ?_⟩
   refine goL ?_
   refine ⟨_, wshl _ (m := 8) rfl (by decide), ?_⟩
   refine goL ?_
   refine ⟨_, wor (or_lt (mod_lt _) (mod_lt _)) (mod_lt _), ?_⟩
   refine goL ?_
   refine ⟨_, wrapN (n := 4 * i) (by show 4 * ((i : Nat) : Int) = _; omega) (by omega), ?_⟩
   refine goL ?_
   refine ⟨_, wrapN (n := 4 * i + 3) (by omega) (by omega), ?_⟩
   refine goL ?_
   refine ⟨Int.natCast_nonneg _, _, byt_getN (i := 4 * i + 3) (by omega), rfl, rfl, ?_⟩
   refine goL ?_
   refine ⟨_, wb _ (byt_lt _ _), ?_⟩
   refine goL ?_
   refine ⟨_, wor (or_lt (or_lt (mod_lt _) (mod_lt _)) (mod_lt _)) (byt32 _ _), ?_⟩
   refine goL ?_
   refine ⟨Int.natCast_nonneg _, rfl, show i < 80 by omega, ?_⟩
   refine goL ?_
   refine ⟨by show 0 + i * 1 + 1 ≤ ((wl p i).map SV.p).length; rw [List.length_map, wl_len (by omega)]; omega, ⟨_, rfl, rfl⟩, ?_⟩
   refine goL ?_
   refine Eq.mpr (PV.forceL_eq _ _) ?_
   refine goL ?_
   refine ⟨_, wrapN (n := i + 1) rfl (by omega), ?_⟩
   refine goL ?_
   refine ⟨⟨i + 1, by omega⟩, Ge.of rfl ?_ ?_, by show 80 - (i + 1) < 80 - i; omega⟩
   ·repeat (conv => whnf); refine ⟨LE.of rfl, ?_⟩
    trivial
   ·conv => whnf
    refine ⟨OLE.of rfl, ?_⟩
    conv => whnf
    refine Eq.mpr (PV.forceL_eq _ _) ?_
    refine ⟨OLE.of (congrArg (fun c => AO.var true 291 (.p (.agg c))) ?_), trivial⟩
    show (wl p i).set (0 + i * 1) (uu (word p i)) = wl p (i + 1)
    rw [Nat.zero_add, Nat.mul_one, ← hnew, wl_set (by omega)]
  ·have h16 : ¬ ((i : Nat) : Int) < 16 := of_decide_eq_false h16
   have hnew : next p (sched p i) = rotl ((sched p i).getD (i - 3) 0 ^^^ (sched p i).getD (i - 8) 0 ^^^ (sched p i).getD (i - 14) 0 ^^^ (sched p i).getD (i - 16) 0) 1 := by unfold next; rw [sched_len, if_neg (by omega)]
   refine goL ?_
   refine ⟨_, wrapN (n := i - 3) (by show ((i : Nat) : Int) - 3 = _; omega) (by omega), ?_⟩
   refine goL ?_
   refine ⟨Int.natCast_nonneg _, rfl, show i - 3 < 80 by omega, ?_⟩
   refine goL ?_
   refine optP_mk (wl_getS (t := i) (i := i - 3) (by omega)) ?_
   refine goL ?_
   refine ⟨_, wrapN (n := i - 8) (by show ((i : Nat) : Int) - 8 = _; omega) (by omega), ?_⟩
   refine goL ?_
   refine ⟨Int.natCast_nonneg _, rfl, show i - 8 < 80 by omega, ?_⟩
   refine goL ?_
   refine optP_mk (wl_getS (t := i) (i := i - 8) (by omega)) ?_
   refine goL ?_
   refine ⟨_, wxor (getD_mem_lt (sched_lt p i) (i - 3)) (getD_mem_lt (sched_lt p i) (i - 8)), ?_⟩
   refine goL ?_
   refine ⟨_, wrapN (n := i - 14) (by show ((i : Nat) : Int) - 14 = _; omega) (by omega), ?_⟩
   refine goL ?_
   refine ⟨Int.natCast_nonneg _, rfl, show i - 14 < 80 by omega, ?_⟩
   refine goL ?_
   refine optP_mk (wl_getS (t := i) (i := i - 14) (by omega)) ?_
   refine goL ?_
   refine ⟨_, wxor (xor_lt (getD_mem_lt (sched_lt p i) (i - 3)) (getD_mem_lt (sched_lt p i) (i - 8))) (getD_mem_lt (sched_lt p i) (i - 14)), ?_⟩
   refine goL ?_
   refine ⟨_, wrapN (n := i - 16) (by show ((i : Nat) : Int) - 16 = _; omega) (by omega), ?_⟩
   refine goL ?_
   refine ⟨Int.natCast_nonneg _, rfl, show i - 16 < 80 by omega, ?_⟩
   refine goL ?_
   refine optP_mk (wl_getS (t := i) (i := i - 16) (by omega)) ?_
   refine goL ?_
   refine ⟨_, wxor (xor_lt (xor_lt (getD_mem_lt (sched_lt p i) (i - 3)) (getD_mem_lt (sched_lt p i) (i - 8))) (getD_mem_lt (sched_lt p i) (i - 14))) (getD_mem_lt (sched_lt p i) (i - 16)), ?_⟩
   refine goL ?_
   refine ⟨_, CallVC.pr (rot_ok _ 1 (xor_lt (xor_lt (xor_lt (getD_mem_lt (sched_lt p i) (i - 3)) (getD_mem_lt (sched_lt p i) (i - 8))) (getD_mem_lt (sched_lt p i) (i - 14))) (getD_mem_lt (sched_lt p i) (i - 16))) (by decide)) rfl rfl, ?_⟩
   refine goL ?_
   refine ⟨Int.natCast_nonneg _, rfl, show i < 80 by omega, ?_⟩
   refine goL ?_
   refine ⟨by show 0 + i * 1 + 1 ≤ ((wl p i).map SV.p).length; rw [List.length_map, wl_len (by omega)]; omega, ⟨_, rfl, rfl⟩, ?_⟩
   refine goL ?_
   refine Eq.mpr (PV.forceL_eq _ _) ?_
   refine goL ?_
   refine ⟨_, wrapN (n := i + 1) rfl (by omega), ?_⟩
   refine goL ?_
   refine ⟨⟨i + 1, by omega⟩, Ge.of rfl ?_ ?_, by show 80 - (i + 1) < 80 - i; omega⟩
   ·repeat (conv => whnf); refine ⟨LE.of rfl, ?_⟩
    trivial
   ·conv => whnf
    refine ⟨OLE.of rfl, ?_⟩
    conv => whnf
    refine Eq.mpr (PV.forceL_eq _ _) ?_
    refine ⟨OLE.of (congrArg (fun c => AO.var true 291 (.p (.agg c))) ?_), trivial⟩
    show (wl p i).set (0 + i * 1) (uu (rotl ((sched p i).getD (i - 3) 0 ^^^ (sched p i).getD (i - 8) 0 ^^^ (sched p i).getD (i - 14) 0 ^^^ (sched p i).getD (i - 16) 0) 1)) = wl p (i + 1)
    rw [Nat.zero_add, Nat.mul_one, ← hnew, wl_set (by omega)]
 ·have h : ¬ ((i : Nat) : Int) < 80 := of_decide_eq_false h
  have hi80 : i = 80 := by omega
  obtain ⟨W, hW⟩ : ∃ W, W = sched p i := ⟨_, rfl⟩
  have hWl : ∀ x ∈ W, x < B32 := by rw [hW]; exact sched_lt p i
  refine goL ?_
  refine ⟨Rd 80, fun j => S.of [(0, .ptr 2000 0), (4, .ptr 4 0), (6, .ptr 6 0), (80, iv (j.1 : Nat))] [(2000, HS s (.lst l) n), (4, .var true 291 (.p (.agg (wl p i)))), (6, .var true 267 (.p (.agg (s5L (rounds W j.1 s)))))], fun j => 80 - j.1, Rd.zero 80, ?_, ?_⟩
  ·refine Ge.of rfl ?_ ?_
   ·repeat (conv => whnf); refine ⟨LE.of rfl, ?_⟩
    trivial
   ·conv => whnf
    refine ⟨OLE.of rfl, ?_⟩
    conv => whnf
    refine Eq.mpr (PV.forceL_eq _ _) ?_
    refine ⟨OLE.of rfl, ?_⟩
    conv => whnf
    exact ⟨OLE.of rfl, trivial⟩
  rintro ⟨j, hj⟩
  have hok := rounds_ok (W := W) hs j
  refine goL ?_
  refine @bool_rec _ _ _ ?_ ?_ <;> intro h2
  ·have h2 : ((j : Nat) : Int) < 80 := of_decide_eq_true h2
   refine goL ?_
   refine ⟨_, CallVC.pr (step_ok j _ _ _ (by omega) hok.b hok.c hok.d) rfl rfl, ?_⟩
   refine goL ?_
   refine Eq.mpr (PV.forceL_eq _ _) ?_
   refine goL ?_
   refine ⟨_, CallVC.pr (rot_ok _ 5 hok.a (by decide)) rfl rfl, ?_⟩
   refine goL ?_
   refine ⟨_, wadd _ _, ?_⟩
   refine goL ?_
   refine ⟨_, wadd _ _, ?_⟩
   refine goL ?_
   refine ⟨_, wadd _ _, ?_⟩
   refine goL ?_
   refine ⟨Int.natCast_nonneg _, rfl, show j < 80 by omega, ?_⟩
   refine goL ?_
   refine optP_mk (wl_getS (t := i) (i := j) (by omega)) ?_
   refine goL ?_
   refine ⟨_, wadd _ _, ?_⟩
   refine goL ?_
   refine Eq.mpr (PV.forceL_eq _ _) ?_
   refine goL ?_
   refine ⟨_, CallVC.pr (rot_ok _ 30 hok.b (by decide)) rfl rfl, ?_⟩
   refine goL ?_
   refine ⟨_, wrapN (n := j + 1) rfl (by omega), ?_⟩
   refine goL ?_
   refine ⟨⟨j + 1, by omega⟩, Ge.of rfl ?_ ?_, by show 80 - (j + 1) < 80 - j; omega⟩
   ·repeat (conv => whnf); refine ⟨LE.of rfl, ?_⟩
    trivial
   ·conv => whnf
    refine ⟨OLE.of rfl, ?_⟩
    conv => whnf
    refine Eq.mpr (PV.forceL_eq _ _) ?_
    refine ⟨OLE.of rfl, ?_⟩
    conv => whnf
    refine ⟨OLE.of ?_, trivial⟩
    rw [hW]
    rfl
  ·have h2 : ¬ ((j : Nat) : Int) < 80 := of_decide_eq_false h2
   have hj80 : j = 80 := by omega
   obtain ⟨r, hr⟩ : ∃ r, r = rounds W j s := ⟨_, rfl⟩
   refine goL ?_
   refine ⟨Six, fun k => S.of [(0, .ptr 2000 0), (120, .p (.agg (s5L r))), (121, iv (match k with | .a0 => 0 | .a1 => 1 | .a2 => 2 | .a3 => 3 | .a4 => 4 | .a5 => 5))]
    [(2000, .var true 269 (.p (.agg (match k with
     | .a0 => [uu s.a, uu s.b, uu s.c, uu s.d, uu s.e, .lst l, .int .u64 n]
     | .a1 => [uu (s.add r).a, uu s.b, uu s.c, uu s.d, uu s.e, .lst l, .int .u64 n]
     | .a2 => [uu (s.add r).a, uu (s.add r).b, uu s.c, uu s.d, uu s.e, .lst l, .int .u64 n]
     | .a3 => [uu (s.add r).a, uu (s.add r).b, uu (s.add r).c, uu s.d, uu s.e, .lst l, .int .u64 n]
     | .a4 => [uu (s.add r).a, uu (s.add r).b, uu (s.add r).c, uu (s.add r).d, uu s.e, .lst l, .int .u64 n]
     | .a5 => [uu (s.add r).a, uu (s.add r).b, uu (s.add r).c, uu (s.add r).d, uu (s.add r).e, .lst l, .int .u64 n]))))], Six.left, .a0, ?_, ?_⟩
   ·refine Ge.of rfl ?_ ?_
    ·conv => whnf
     refine ⟨LE.of rfl, ?_⟩
     conv => whnf
     refine ⟨LE.of (by rw [hr]), ?_⟩
     conv => whnf
     exact ⟨LE.of rfl, trivial⟩
    ·repeat (conv => whnf); refine ⟨OLE.of rfl, ?_⟩
     trivial
   intro k
   cases k with
   | a0 =>
    refine goL ?_
    refine ⟨_, wadd _ _, ?_⟩
    refine goL ?_
    refine ⟨(1 : Int), by decide, ?_⟩
    refine goL ?_
    refine ⟨.a1, ?_, by decide⟩
    exact Ge.go
   | a1 =>
    refine goL ?_
    refine ⟨_, wadd _ _, ?_⟩
    refine goL ?_
    refine ⟨(2 : Int), by decide, ?_⟩
    refine goL ?_
    refine ⟨.a2, ?_, by decide⟩
    exact Ge.go
   | a2 =>
    refine goL ?_
    refine ⟨_, wadd _ _, ?_⟩
    refine goL ?_
    refine ⟨(3 : Int), by decide, ?_⟩
    refine goL ?_
    refine ⟨.a3, ?_, by decide⟩
    exact Ge.go
   | a3 =>
    refine goL ?_
    refine ⟨_, wadd _ _, ?_⟩
    refine goL ?_
    refine ⟨(4 : Int), by decide, ?_⟩
    refine goL ?_
    refine ⟨.a4, ?_, by decide⟩
    exact Ge.go
   | a4 =>
    refine goL ?_
    refine ⟨_, wadd _ _, ?_⟩
    refine goL ?_
    refine ⟨(5 : Int), by decide, ?_⟩
    refine goL ?_
    refine ⟨.a5, ?_, by decide⟩
    exact Ge.go
   | a5 =>
    refine goL ?_
    have e : blk s p = s.add r := by rw [hr, hW, hi80, hj80]; rfl
    rw [e]
    exact ⟨id, rfl, ⟨.inr (.inl rfl), trivial⟩, rfl, rfl⟩
end Go.So
namespace Go.So
open Go Go.Vc Go.Proofs Go.RowKit
def gid : Nat → Nat := fun k => k
def absorb : Nat → S5 → List UInt8 → S5 × List UInt8
 | 0, s, L => (s, L)
 | k + 1, s, L => if 64 ≤ L.length then absorb k (blk s (L.take 64)) (L.drop 64) else (s, L)
theorem absorb_short (k : Nat) (s : S5) (L : List UInt8) (h : L.length < 64) : absorb k s L = (s, L) := by
 cases k with
 | zero => rfl
 | succ k => rw [absorb, if_neg (by omega)]
theorem absorb_ok : ∀ (k : Nat) {s : S5} (L : List UInt8), s.ok → (absorb k s L).1.ok
 | 0, s, L, h => h
 | k + 1, s, L, h => by
  rw [absorb]
  split
  ·exact absorb_ok k _ (blk_ok _ _)
  ·exact h
theorem absorb_len : ∀ (k : Nat) (s : S5) (L : List UInt8), L.length ≤ k → (absorb k s L).2.length < 64 ∧ (absorb k s L).2.length ≤ L.length ∧ (absorb k s L).2.length % 64 = L.length % 64
 | 0, s, L, h => by rw [absorb]; simp; omega
 | k + 1, s, L, h => by
  rw [absorb]
  split
  ·have := absorb_len k (blk s (L.take 64)) (L.drop 64) (by rw [List.length_drop]; omega)
   rw [List.length_drop] at this
   omega
  ·exact ⟨by simp; omega, Nat.le_refl _, rfl⟩
theorem cut_bytes (L : List UInt8) (lo hi : Nat) : cut (bytesL L) lo hi = bytesL ((L.drop lo).take (hi - lo)) := by
 unfold cut bytesL
 rw [List.map_take, List.map_drop]
theorem bytes_append (L M : List UInt8) : bytesL L ++ bytesL M = bytesL (L ++ M) := by unfold bytesL; rw [List.map_append]
theorem wrap_len {b : List UInt8} (h : b.length ≤ 140737488355328) : IntKind.u64.wrap ((bytesL b).length : Int) = ((b.length : Nat) : Int) := by
 rw [bytes_len, IntKind.wrap_u64]; omega
theorem wrap_u {a : Int} {m : Nat} (h : a = m) (hm : m < 18446744073709551616) : IntKind.u64.wrap a = m := by
 rw [IntKind.wrap_u64]; omega
theorem write_nil (s : S5) (hs : s.ok) (n : Nat) (b : List UInt8) (hb : b.length ≤ 140737488355328) (hn : n ≤ 140737488355328) :
  PM cx 167 [(2000, HS s .nilS n)] [.ptr 2000 0, .p (.lst (bytesL b))] [(2000, HS (absorb b.length s b).1 (.lst (bytesL (absorb b.length s b).2)) (n + b.length))] (.tupS []) := by
 obtain ⟨fin, hfin⟩ : ∃ fin, fin = absorb b.length s b := ⟨_, rfl⟩
 rw [← hfin]
 refine PM_of_vc cx_ok mixed { own := fun q => Nat.beq q 100035 } Tryz.func167 (by kernel_rfl) rfl rfl (by kernel_rfl) ?_ ?_
 ·rfl
 refine goL ?_
 refine ⟨_, wrap_len hb, ?_⟩
 refine goL ?_
 refine ⟨_, wrap_u (m := n + b.length) (by omega) (by omega), ?_⟩
 refine goL ?_
 refine ⟨bytes_sz _, ?_⟩
 refine goL ?_
 refine ⟨by show (bytesL b).length * 1 ≤ _; rw [bytes_len]; omega, ?_⟩
 refine goL ?_
 refine ⟨{ x : Nat × S5 × List UInt8 // absorb x.1 x.2.1 x.2.2 = fin ∧ x.2.2.length ≤ x.1 ∧ x.2.1.ok ∧ x.2.2.length ≤ 140737488355328 }, fun x => S.of [(0, .ptr 2000 0)] [(2000, HS x.1.2.1 (.lst (bytesL x.1.2.2)) (n + b.length))], fun x => x.1.2.2.length, ⟨(b.length, s, b), hfin.symm, Nat.le_refl _, hs, hb⟩, ?_, ?_⟩
 ·exact Ge.go
 rintro ⟨⟨k, t, L'⟩, hfin, hk, ht, hbig⟩
 refine goL ?_
 refine @bool_rec _ _ _ ?_ ?_ <;> intro hh
 ·have h : 64 ≤ ((bytesL L').length : Int) := of_decide_eq_true hh
  rw [bytes_len] at h
  have h : 64 ≤ L'.length := by omega
  refine goL ?_
  refine ⟨⟨_, rfl, bytes_sz _⟩, ?_⟩
  refine goL ?_
  refine ⟨by show 64 ≤ (bytesL L').length; rw [bytes_len]; omega, Nat.le_refl _, ?_⟩
  refine goL ?_
  refine ⟨_, MCallVC.pr gid (block_ok t ht (bytesL L') (n + b.length) (L'.take 64) (by rw [List.length_take]; omega)) ⟨LE.of rfl, LE.of (congrArg (fun l => SV.p (.lst l)) (cut_bytes L' 0 64)), trivial⟩ ⟨.inr (.inl rfl), trivial⟩ rfl, ?_⟩
  refine goL ?_
  refine ⟨⟨_, rfl, bytes_sz _⟩, ?_⟩
  refine goL ?_
  refine ⟨by show 64 ≤ (bytesL L').length; rw [bytes_len]; omega, Nat.le_refl _, Nat.le_refl _, ?_⟩
  refine goL ?_
  obtain ⟨k, rfl⟩ : ∃ m, k = m + 1 := ⟨k - 1, by have : L'.length ≤ k := hk; omega⟩
  refine ⟨⟨(k, blk t (L'.take 64), L'.drop 64), ?_, ?_, blk_ok _ _, ?_⟩, ?_, ?_⟩
  ·rw [← hfin]
   show absorb k _ _ = absorb (k + 1) t L'
   rw [absorb, if_pos h]
  ·have : L'.length ≤ k + 1 := hk
   show (L'.drop 64).length ≤ k
   rw [List.length_drop]; omega
  ·have : L'.length ≤ _ := hbig
   show (L'.drop 64).length ≤ _
   rw [List.length_drop]; omega
  ·refine Ge.of rfl ?_ ?_
   ·repeat (conv => whnf); refine ⟨LE.of rfl, ?_⟩
    trivial
   ·conv => whnf
    refine ⟨OLE.of (congrArg (fun l => HS (blk t (L'.take 64)) (.lst l) (n + b.length)) ?_), trivial⟩
    have := cut_bytes L' 64 (bytesL L').length
    rw [bytes_len, List.take_of_length_le (by rw [List.length_drop]; omega)] at this
    rw [bytes_len]
    exact this
  ·show (L'.drop 64).length < L'.length
   rw [List.length_drop]; omega
 ·have h : ¬ 64 ≤ ((bytesL L').length : Int) := of_decide_eq_false hh
  rw [bytes_len] at h
  have e : absorb k t L' = (t, L') := absorb_short k t L' (by omega)
  have hfin : absorb k t L' = fin := hfin
  rw [e] at hfin
  subst hfin
  refine goL ?_
  exact ⟨id, rfl, ⟨.inr (.inl rfl), trivial⟩, rfl, rfl⟩
theorem write_row (s : S5) (hs : s.ok) (n : Nat) (l b : List UInt8) (hl : l.length ≤ 1000000) (hb : b.length ≤ 1000000) (hn : n ≤ 140737488355328) :
  PM cx 167 [(2000, .var true 269 (.mix [uv s.a, uv s.b, uv s.c, uv s.d, uv s.e, .slc 1001, .p (.int .u64 n)])), (1001, .row 5 1 (bytesL l))] [.ptr 2000 0, .p (.lst (bytesL b))]
   [(2000, HS (absorb (l ++ b).length s (l ++ b)).1 (.lst (bytesL (absorb (l ++ b).length s (l ++ b)).2)) (n + b.length))] (.tupS []) := by
 obtain ⟨fin, hfin⟩ : ∃ fin, fin = absorb (l ++ b).length s (l ++ b) := ⟨_, rfl⟩
 have hlb : (l ++ b).length ≤ 140737488355328 := by rw [List.length_append]; omega
 rw [← hfin]
 refine PM_of_vc cx_ok mixed { own := fun q => Nat.beq q 100035 } Tryz.func167 (by kernel_rfl) rfl rfl (by kernel_rfl) ?_ ?_
 ·rfl
 refine goL ?_
 refine ⟨_, wrap_len (by omega), ?_⟩
 refine goL ?_
 refine ⟨_, wrap_u (m := n + b.length) (by omega) (by omega), ?_⟩
 refine goL ?_
 refine ⟨bytes_sz _, ?_⟩
 refine goL ?_
 refine ⟨by show ((bytesL l).length + (bytesL b).length) * 1 ≤ _; rw [bytes_len, bytes_len]; omega, ?_⟩
 refine goL ?_
 refine ⟨{ x : Nat × S5 × List UInt8 // absorb x.1 x.2.1 x.2.2 = fin ∧ x.2.2.length ≤ x.1 ∧ x.2.1.ok ∧ x.2.2.length ≤ 140737488355328 }, fun x => S.of [(0, .ptr 2000 0)] [(2000, HS x.1.2.1 (.lst (bytesL x.1.2.2)) (n + b.length))], fun x => x.1.2.2.length, ⟨((l ++ b).length, s, (l ++ b)), hfin.symm, Nat.le_refl _, hs, hlb⟩, ?_, ?_⟩
 ·refine Ge.of rfl ?_ ?_
  ·repeat (conv => whnf); refine ⟨LE.of rfl, ?_⟩
   trivial
  ·conv => whnf
   exact ⟨OLE.of (congrArg (fun c => HS s (.lst c) (n + b.length)) (bytes_append l b)), trivial⟩
 rintro ⟨⟨k, t, L'⟩, hfin, hk, ht, hbig⟩
 refine goL ?_
 refine @bool_rec _ _ _ ?_ ?_ <;> intro hh
 ·have h : 64 ≤ ((bytesL L').length : Int) := of_decide_eq_true hh
  rw [bytes_len] at h
  have h : 64 ≤ L'.length := by omega
  refine goL ?_
  refine ⟨⟨_, rfl, bytes_sz _⟩, ?_⟩
  refine goL ?_
  refine ⟨by show 64 ≤ (bytesL L').length; rw [bytes_len]; omega, Nat.le_refl _, ?_⟩
  refine goL ?_
  refine ⟨_, MCallVC.pr gid (block_ok t ht (bytesL L') (n + b.length) (L'.take 64) (by rw [List.length_take]; omega)) ⟨LE.of rfl, LE.of (congrArg (fun l => SV.p (.lst l)) (cut_bytes L' 0 64)), trivial⟩ ⟨.inr (.inl rfl), trivial⟩ rfl, ?_⟩
  refine goL ?_
  refine ⟨⟨_, rfl, bytes_sz _⟩, ?_⟩
  refine goL ?_
  refine ⟨by show 64 ≤ (bytesL L').length; rw [bytes_len]; omega, Nat.le_refl _, Nat.le_refl _, ?_⟩
  refine goL ?_
  obtain ⟨k, rfl⟩ : ∃ m, k = m + 1 := ⟨k - 1, by have : L'.length ≤ k := hk; omega⟩
  refine ⟨⟨(k, blk t (L'.take 64), L'.drop 64), ?_, ?_, blk_ok _ _, ?_⟩, ?_, ?_⟩
  ·rw [← hfin]
   show absorb k _ _ = absorb (k + 1) t L'
   rw [absorb, if_pos h]
  ·have : L'.length ≤ k + 1 := hk
   show (L'.drop 64).length ≤ k
   rw [List.length_drop]; omega
  ·have : L'.length ≤ _ := hbig
   show (L'.drop 64).length ≤ _
   rw [List.length_drop]; omega
  ·refine Ge.of rfl ?_ ?_
   ·repeat (conv => whnf); refine ⟨LE.of rfl, ?_⟩
    trivial
   ·conv => whnf
    refine ⟨OLE.of (congrArg (fun l => HS (blk t (L'.take 64)) (.lst l) (n + b.length)) ?_), trivial⟩
    have := cut_bytes L' 64 (bytesL L').length
    rw [bytes_len, List.take_of_length_le (by rw [List.length_drop]; omega)] at this
    rw [bytes_len]
    exact this
  ·show (L'.drop 64).length < L'.length
   rw [List.length_drop]; omega
 ·have h : ¬ 64 ≤ ((bytesL L').length : Int) := of_decide_eq_false hh
  rw [bytes_len] at h
  have e : absorb k t L' = (t, L') := absorb_short k t L' (by omega)
  have hfin : absorb k t L' = fin := hfin
  rw [e] at hfin
  subst hfin
  refine goL ?_
  exact ⟨id, rfl, ⟨.inr (.inl rfl), trivial⟩, rfl, rfl⟩
end Go.So
namespace Go.So
open Go Go.Vc Go.Proofs Go.RowKit
def gT : List (Nat × Nat) → Nat → Nat
 | [], k => k
 | (a, b) :: r, k => cond (Nat.beq a k) b (gT r k)
def s0 : S5 := ⟨1732584193, 4023233417, 2562383102, 271733878, 3285377520⟩
theorem s0_ok : s0.ok := ⟨by decide, by decide, by decide, by decide, by decide⟩
theorem new_ok : PM cx 166 [] [] [(1000, HS s0 .nilS 0)] (.ptr 1000 0) := by
 refine PM_of_vc cx_ok mixed {} Tryz.func166 (by kernel_rfl) rfl rfl (by kernel_rfl) ?_ ?_
 ·rfl
 refine goL ?_
 exact ⟨gT [(1000, 3)], ⟨rfl, LE.of rfl⟩, ⟨.inr (.inl rfl), trivial⟩, rfl, rfl⟩
abbrev HR (s : S5) (l : PV) (n : Nat) : AO := .var false 269 (.p (.agg (hvL s l n)))
theorem clone_ok (s : S5) (l : List UInt8) (hl : l.length ≤ 140737488355328) (n : Nat) :
  PM cx 211 [(2000, HR s (.lst (bytesL l)) n)] [.ptr 2000 0] [(1000, .var true 269 (.mix [uv s.a, uv s.b, uv s.c, uv s.d, uv s.e, .slc 1001, .p (.int .u64 n)])), (1001, .row 5 1 (bytesL l))] (.ptr 1000 0) := by
 refine PM_of_vc cx_ok mixed { own := fun q => Nat.beq q 11 } Tryz.func211 (by kernel_rfl) rfl rfl (by kernel_rfl) ?_ ?_
 ·rfl
 refine goL ?_
 refine ⟨bytes_sz _, ?_⟩
 refine goL ?_
 refine ⟨by show (bytesL l).length * 1 ≤ _; rw [bytes_len]; omega, ?_⟩
 refine goL ?_
 exact ⟨gT [(1000, 17), (1001, 11)], ⟨rfl, LE.of rfl⟩, ⟨.inr (.inl rfl), .inr (.inl rfl), trivial⟩, rfl, rfl⟩
def padZ (l : Nat) : Nat := (119 - l % 64) % 64
def lenK (n k : Nat) : List UInt8 := (List.range k).map fun i => UInt8.ofNat (n / 2 ^ (56 - 8 * i) % 256)
def padF (l n : Nat) : List UInt8 := 128 :: List.replicate (padZ l) 0 ++ lenK n 8
def S5.get (s : S5) : Nat → Nat
 | 0 => s.a | 1 => s.b | 2 => s.c | 3 => s.d | _ => s.e
def dig (s : S5) (i : Nat) : UInt8 := UInt8.ofNat (s.get (i / 4) / 2 ^ (24 - 8 * (i % 4)) % 256)
def digest (s : S5) : List UInt8 := (List.range 20).map (dig s)
def sumF (s : S5) (l : List UInt8) (n : Nat) : List UInt8 := digest (absorb (l ++ padF l.length (8 * n)).length s (l ++ padF l.length (8 * n))).1
def ol (s : S5) (i : Nat) : List PV := bytesL ((List.range i).map (dig s)) ++ List.replicate (20 - i) (.int .u8 0)
theorem ol_len {s : S5} {i : Nat} (h : i ≤ 20) : (ol s i).length = 20 := by
 unfold ol
 rw [List.length_append, bytes_len, List.length_map, List.length_range, List.length_replicate]
 omega
theorem ol_set {s : S5} {i : Nat} (h : i < 20) : (ol s i).set i (.int .u8 (dig s i).toNat) = ol s (i + 1) := by
 unfold ol
 rw [List.set_append_right _ _ (by rw [bytes_len, List.length_map, List.length_range]; exact Nat.le_refl _), bytes_len, List.length_map, List.length_range, Nat.sub_self, show 20 - i = (20 - (i + 1)) + 1 by omega, List.replicate_succ, List.set_cons_zero, List.range_succ, List.map_append, ← bytes_append, List.append_assoc]
 rfl
theorem u8w (m : Nat) : IntKind.u8.wrap (m : Int) = (((UInt8.ofNat (m % 256)).toNat : Nat) : Int) := by
 rw [IntKind.wrap_u8', UInt8.toNat_ofNat']
 omega
theorem wshr64 (a : Nat) {k : Int} {m : Nat} (hk : k = m) (hm : m ≤ 64) : (a : Int).fdiv (2 ^ (min k.toNat IntKind.u64.bits)) = ((a / 2 ^ m : Nat) : Int) := by
 subst hk
 rw [Int.toNat_natCast, show min m IntKind.u64.bits = m from Nat.min_eq_left hm]
 rw [Int.natCast_ediv, Int.natCast_pow, Int.fdiv_eq_ediv_of_nonneg _ (by exact_mod_cast Nat.zero_le (2 ^ m))]
 rfl
theorem tdivN (i : Nat) {k : Int} {m : Nat} (hk : k = m) : (i : Int).tdiv k = ((i / m : Nat) : Int) := by
 subst hk
 rw [Int.tdiv_eq_ediv_of_nonneg (by omega), Int.natCast_ediv]
theorem tmodN (i : Nat) {k : Int} {m : Nat} (hk : k = m) : (i : Int).tmod k = ((i % m : Nat) : Int) := by
 subst hk
 rw [Int.tmod_eq_emod_of_nonneg (by omega), Int.natCast_emod]
theorem get_at (s : S5) (l : PV) (n : Nat) {i : Nat} (h : i < 5) : ((hvL s l n).map SV.p)[0 + ((i : Nat) : Int).toNat * 1]? = some (uv (s.get i)) := by
 rw [Nat.zero_add, Nat.mul_one, Int.toNat_natCast]
 match i, h with
 | 0, _ => rfl
 | 1, _ => rfl
 | 2, _ => rfl
 | 3, _ => rfl
 | 4, _ => rfl
set_option maxHeartbeats 1000000 in
theorem sum_ok (s : S5) (hs : s.ok) (l : List UInt8) (hl : l.length < 64) (n : Nat) (hn : n ≤ 140737488355328) :
  PM cx 168 [(2000, HR s (.lst (bytesL l)) n)] [.ptr 2000 0] [] (.p (.agg (bytesL (sumF s l n)))) := by
 obtain ⟨Z, hZ⟩ : ∃ Z, Z = padZ l.length := ⟨_, rfl⟩
 have hZ2 : (l.length + (Z + 1)) % 64 = 56 ∧ Z < 64 ∧ ∀ j, j < Z → (l.length + (j + 1)) % 64 ≠ 56 := by
  rw [hZ]; unfold padZ
  refine ⟨by omega, by omega, fun j hj => by omega⟩
 obtain ⟨N, hN⟩ : ∃ N, N = 8 * n := ⟨_, rfl⟩
 obtain ⟨pad, hpad⟩ : ∃ pad, pad = 128 :: List.replicate Z (0 : UInt8) ++ lenK N 8 := ⟨_, rfl⟩
 have hpl : pad.length ≤ 1000000 := by rw [hpad]; simp [lenK]; omega
 obtain ⟨fin, hfin⟩ : ∃ fin, fin = absorb (l ++ pad).length s (l ++ pad) := ⟨_, rfl⟩
 have hres : sumF s l n = digest fin.1 := by rw [hfin, hpad, hN, hZ]; rfl
 have hfok : fin.1.ok := by rw [hfin]; exact absorb_ok _ _ hs
 rw [hres]
 refine PM_of_vc cx_ok mixed { own := fun q => Nat.beq q 100009 || Nat.beq q 15 || Nat.beq q 28 || Nat.beq q 40 || Nat.beq q 100044, fz := fun r => cond (Nat.beq r 11) [15] [] } Tryz.func168 (by kernel_rfl) rfl rfl (by kernel_rfl) ?_ ?_
 ·rfl
 refine goL ?_
 refine ⟨_, MCallVC.pr gid (clone_ok s l (by omega) n) ⟨LE.of rfl, trivial⟩ ⟨.inr (.inl rfl), trivial⟩ rfl, ?_⟩
 refine goL ?_
 refine ⟨_, wrap_u (m := N) (by omega) (by omega), ?_⟩
 refine goL ?_
 refine ⟨Rd Z, fun j => S.of [(0, .ptr 2000 0), (2, .ptr 2 0), (3, .ptr 1000 0), (4, .p (.int .u64 N)), (5, .slc 15)] [(2000, HR s (.lst (bytesL l)) n), (2, .var true 129 (.p (.agg (ol fin.1 0)))), (1000, .var true 269 (.mix [uv s.a, uv s.b, uv s.c, uv s.d, uv s.e, .slc 1001, .p (.int .u64 n)])), (1001, .row 5 1 (bytesL l)), (15, .row 5 1 (bytesL (128 :: List.replicate j.1 0)))], fun j => Z - j.1, Rd.zero Z, ?_, ?_⟩
 ·exact Ge.go
 rintro ⟨j, hj⟩
 have hZ3 := hZ2.2.2 j
 refine goL ?_
 refine ⟨_, wrapN (n := l.length + (j + 1)) (by show (((bytesL l).length : Nat) : Int) + (((bytesL (128 :: List.replicate j 0)).length : Nat) : Int) = _; rw [bytes_len, bytes_len, List.length_cons, List.length_replicate]; omega) (by omega), ?_⟩
 refine goL ?_
 refine ⟨_, tmodN _ (m := 64) rfl, ?_⟩
 refine goL ?_
 refine @bool_rec _ _ _ ?_ ?_ <;> intro hh
 ·have hne : ¬ (((l.length + (j + 1)) % 64 : Nat) : Int) = 56 := of_decide_eq_true hh
  have hlt : j < Z := by
   rcases Nat.lt_or_ge j Z with h | h
   ·exact h
   ·exact absurd (by have : j = Z := (by omega); rw [this, hZ2.1]; rfl) hne
  refine goL ?_
  refine ⟨by show ((bytesL (128 :: List.replicate j 0)).length + 1) * 1 ≤ _; rw [bytes_len, List.length_cons, List.length_replicate]; omega, ?_⟩
  refine goL ?_
  refine ⟨⟨j + 1, hlt⟩, ?_, by show Z - (j + 1) < Z - j; omega⟩
  refine Ge.of rfl ?_ ?_
  ·repeat (conv => whnf); refine ⟨LE.of rfl, ?_⟩
   trivial
  ·conv => whnf
   refine ⟨OLE.of rfl, ?_⟩
   conv => whnf
   refine ⟨OLE.of rfl, ?_⟩
   conv => whnf
   refine ⟨OLE.of rfl, ?_⟩
   conv => whnf
   refine ⟨OLE.of rfl, ?_⟩
   conv => whnf
   refine ⟨OLE.of (congrArg (AO.row 5 1) ?_), trivial⟩
   show bytesL (128 :: List.replicate j 0) ++ bytesL [0] = bytesL (128 :: List.replicate (j + 1) 0)
   rw [bytes_append, List.replicate_succ']
   rfl
 have hjZ : j = Z := by
  have h : ¬ ¬ (((l.length + (j + 1)) % 64 : Nat) : Int) = 56 := of_decide_eq_false hh
  rcases Nat.lt_or_ge j Z with h2 | h2
  ·exact absurd (fun e => hZ3 h2 (by omega)) h
  ·omega
 refine goL ?_
 refine ⟨Rd 8, fun i => S.of [(0, .ptr 2000 0), (2, .ptr 2 0), (3, .ptr 1000 0), (4, .p (.int .u64 N)), (5, .slc 15), (29, iv (i.1 : Nat))] [(2000, HR s (.lst (bytesL l)) n), (2, .var true 129 (.p (.agg (ol fin.1 0)))), (1000, .var true 269 (.mix [uv s.a, uv s.b, uv s.c, uv s.d, uv s.e, .slc 1001, .p (.int .u64 n)])), (1001, .row 5 1 (bytesL l)), (15, .row 5 1 (bytesL (128 :: List.replicate Z 0 ++ lenK N i.1)))], fun i => 8 - i.1, Rd.zero 8, ?_, ?_⟩
 ·refine Ge.of rfl ?_ ?_
  ·repeat (conv => whnf); refine ⟨LE.of rfl, ?_⟩
   trivial
  ·conv => whnf
   refine ⟨OLE.of rfl, ?_⟩
   conv => whnf
   refine ⟨OLE.of rfl, ?_⟩
   conv => whnf
   refine ⟨OLE.of rfl, ?_⟩
   conv => whnf
   refine ⟨OLE.of rfl, ?_⟩
   conv => whnf
   refine ⟨OLE.of (congrArg (AO.row 5 1) ?_), trivial⟩
   show bytesL (128 :: List.replicate j 0) = bytesL (128 :: List.replicate Z 0 ++ lenK N 0)
   rw [hjZ]
   simp [lenK]
 rintro ⟨i, hi⟩
 refine goL ?_
 refine @bool_rec _ _ _ ?_ ?_ <;> intro h8
 ·have h8 : ((i : Nat) : Int) < 8 := of_decide_eq_true h8
  refine goL ?_
  refine ⟨_, wrapN (n := 8 * i) (by show 8 * ((i : Nat) : Int) = _; omega) (by omega), ?_⟩
  refine goL ?_
  refine ⟨_, wrapN (n := 56 - 8 * i) (by omega) (by omega), ?_⟩
  refine goL ?_
  refine ⟨Int.natCast_nonneg _, _, wshr64 N (m := 56 - 8 * i) rfl (by omega), ?_⟩
  refine goL ?_
  refine ⟨_, u8w _, ?_⟩
  refine goL ?_
  refine ⟨by show ((bytesL (128 :: List.replicate Z 0 ++ lenK N i)).length + 1) * 1 ≤ _; rw [bytes_len]; simp [lenK]; omega, ?_⟩
  refine goL ?_
  refine ⟨_, wrapN (n := i + 1) rfl (by omega), ?_⟩
  refine goL ?_
  refine ⟨⟨i + 1, by omega⟩, ?_, by show 8 - (i + 1) < 8 - i; omega⟩
  refine Ge.of rfl ?_ ?_
  ·repeat (conv => whnf); refine ⟨LE.of rfl, ?_⟩
   trivial
  ·conv => whnf
   refine ⟨OLE.of rfl, ?_⟩
   conv => whnf
   refine ⟨OLE.of rfl, ?_⟩
   conv => whnf
   refine ⟨OLE.of rfl, ?_⟩
   conv => whnf
   refine ⟨OLE.of rfl, ?_⟩
   conv => whnf
   refine ⟨OLE.of (congrArg (AO.row 5 1) ?_), trivial⟩
   show bytesL (128 :: List.replicate Z 0 ++ lenK N i) ++ bytesL [UInt8.ofNat (N / 2 ^ (56 - 8 * i) % 256)] = bytesL (128 :: List.replicate Z 0 ++ lenK N (i + 1))
   rw [bytes_append, List.append_assoc]
   simp only [lenK, List.range_succ, List.map_append, List.map_cons, List.map_nil]
 have hi8 : i = 8 := by
  have : ¬ ((i : Nat) : Int) < 8 := of_decide_eq_false h8
  omega
 refine goL ?_
 refine ⟨_, MCallVC.pr (gT [(2000, 1000)]) (write_row s hs n l pad (by omega) hpl hn) ⟨LE.of rfl, LE.of (by show SV.p (PV.lst (bytesL (128 :: List.replicate Z 0 ++ lenK N i))) = SV.p (PV.lst (bytesL pad)); rw [hpad, hi8]), trivial⟩ ⟨.inr (.inl rfl), .inr (.inl rfl), trivial⟩ rfl, ?_⟩
 rw [← hfin]
 refine goL ?_
 refine ⟨Rd 20, fun q => S.of [(2, .ptr 2 0), (3, .ptr 1000 0), (45, iv (q.1 : Nat))] [(2, .var true 129 (.p (.agg (ol fin.1 q.1)))), (1000, HS fin.1 (.lst (bytesL fin.2)) (n + pad.length))], fun q => 20 - q.1, Rd.zero 20, ?_, ?_⟩
 ·exact Ge.go
 rintro ⟨q, hq⟩
 refine goL ?_
 refine @bool_rec _ _ _ ?_ ?_ <;> intro h20
 ·have h20 : ((q : Nat) : Int) < 20 := of_decide_eq_true h20
  refine goL ?_
  refine ⟨_, wrapN (tdivN q (m := 4) rfl) (by omega), ?_⟩
  refine goL ?_
  refine ⟨Int.natCast_nonneg _, rfl, show q / 4 < 5 by omega, ?_⟩
  refine goL ?_
  refine optP_mk (get_at _ _ _ (by omega)) ?_
  refine goL ?_
  refine ⟨_, tmodN q (m := 4) rfl, ?_⟩
  refine goL ?_
  refine ⟨_, wrapN (n := 8 * (q % 4)) (by omega) (by omega), ?_⟩
  refine goL ?_
  refine ⟨_, wrapN (n := 24 - 8 * (q % 4)) (by omega) (by omega), ?_⟩
  refine goL ?_
  refine ⟨Int.natCast_nonneg _, _, wshr _ (m := 24 - 8 * (q % 4)) rfl (by omega), ?_⟩
  refine goL ?_
  refine ⟨_, u8w _, ?_⟩
  refine goL ?_
  refine ⟨Int.natCast_nonneg _, rfl, show q < 20 by omega, ?_⟩
  refine goL ?_
  refine ⟨by show 0 + q * 1 + 1 ≤ ((ol fin.1 q).map SV.p).length; rw [List.length_map, ol_len (by omega)]; omega, ⟨_, rfl, rfl⟩, ?_⟩
  refine goL ?_
  refine Eq.mpr (PV.forceL_eq _ _) ?_
  refine goL ?_
  refine ⟨_, wrapN (n := q + 1) rfl (by omega), ?_⟩
  refine goL ?_
  refine ⟨⟨q + 1, by omega⟩, Ge.of rfl ?_ ?_, by show 20 - (q + 1) < 20 - q; omega⟩
  ·repeat (conv => whnf); refine ⟨LE.of rfl, ?_⟩
   trivial
  ·conv => whnf
   refine Eq.mpr (PV.forceL_eq _ _) ?_
   refine ⟨OLE.of (congrArg (fun c => AO.var true 129 (.p (.agg c))) ?_), ?_⟩
   ·show (ol fin.1 q).set (0 + q * 1) (.int .u8 (dig fin.1 q).toNat) = ol fin.1 (q + 1)
    rw [Nat.zero_add, Nat.mul_one, ol_set (by omega)]
   conv => whnf
   exact ⟨OLE.of rfl, trivial⟩
 have hq20 : q = 20 := by
  have : ¬ ((q : Nat) : Int) < 20 := of_decide_eq_false h20
  omega
 refine goL ?_
 refine Eq.mpr (PV.forceL_eq _ _) ?_
 conv => whnf
 refine ⟨by show some (true, (ol fin.1 q).length) = some (true, 20); rw [ol_len hq], ?_⟩
 refine goL ?_
 refine Eq.mpr (PV.forceL_eq _ _) ?_
 refine goL ?_
 refine ⟨gid, ?_, trivial, rfl, rfl⟩
 conv => whnf
 refine Eq.mpr (PV.forceL_eq _ _) ?_
 refine ⟨rfl, LE.of ?_⟩
 show SV.p (.agg (ol fin.1 q)) = SV.p (.agg (bytesL (digest fin.1)))
 rw [hq20]
 unfold ol digest
 simp
end Go.So
namespace Go.So
open Go Go.Vc Go.Proofs Go.RowKit
def shaF (b : List UInt8) : List UInt8 := sumF (absorb b.length s0 b).1 (absorb b.length s0 b).2 b.length
theorem digest_len (s : S5) : (digest s).length = 20 := by unfold digest; rw [List.length_map, List.length_range]
theorem shaF_len (b : List UInt8) : (shaF b).length = 20 := digest_len _
theorem sha_ok (b : List UInt8) (hb : b.length ≤ 1000000) : K 116 [.p (.lst (bytesL b))] (.pv (.agg (bytesL (shaF b)))) := by
 obtain ⟨r, hr⟩ : ∃ r, r = absorb b.length s0 b := ⟨_, rfl⟩
 obtain ⟨d, hd⟩ : ∃ d, d = sumF r.1 r.2 b.length := ⟨_, rfl⟩
 have hlen : r.2.length < 64 := by rw [hr]; exact (absorb_len _ _ _ (Nat.le_refl _)).1
 have hsum := sum_ok r.1 (by rw [hr]; exact absorb_ok _ _ s0_ok) r.2 hlen b.length (by omega)
 have hdl : d.length = 20 := by rw [hd]; exact digest_len _
 have hres : shaF b = d := by rw [hd, hr]; rfl
 have hw := write_nil s0 s0_ok 0 b (by omega) (by omega)
 rw [← hr, Nat.zero_add] at hw
 rw [← hd] at hsum
 rw [hres]
 refine PC_of_vc cx_ok mixed { own := fun q => Nat.beq q 100004 || Nat.beq q 100007 || Nat.beq q 100009 } Tryz.func116 (by kernel_rfl) rfl rfl (by kernel_rfl) ?_
 refine goL ?_
 refine ⟨_, MCallVC.pr gid new_ok trivial trivial rfl, ?_⟩
 refine goL ?_
 refine ⟨_, MCallVC.pr (gT [(2000, 1000)]) hw ⟨LE.of rfl, LE.of rfl, trivial⟩ ⟨.inr (.inl rfl), trivial⟩ rfl, ?_⟩
 refine goL ?_
 refine ⟨_, MCallVC.pr (gT [(2000, 1000)]) hsum ⟨LE.of rfl, trivial⟩ ⟨.inr (.inr (.inr ⟨_, _, _, rfl, rfl, LE.of rfl⟩)), trivial⟩ rfl, ?_⟩
 conv => whnf
 refine ⟨by show some (true, (bytesL d).length) = some (true, 20); rw [bytes_len, hdl], ?_⟩
 refine goL ?_
 refine Eq.mpr (PV.forceL_eq _ _) ?_
 refine goL ?_
 refine Eq.mpr (PV.forceL_eq _ _) ?_
 exact LEP.refl _
def kpad (key : List UInt8) : List UInt8 := key ++ List.replicate (64 - key.length) 0
theorem kpad_len {key : List UInt8} (h : key.length ≤ 64) : (kpad key).length = 64 := by unfold kpad; rw [List.length_append, List.length_replicate]; omega
def xorK (w : UInt8) (k : List UInt8) (i : Nat) : List UInt8 := (k.take i).map (fun c => c ^^^ w) ++ k.drop i
def xpad (w : UInt8) (key : List UInt8) : List UInt8 := (kpad key).map fun c => c ^^^ w
theorem xorK_len (w : UInt8) (k : List UInt8) (i : Nat) : (xorK w k i).length = k.length := by
 unfold xorK
 rw [List.length_append, List.length_map, ← List.length_append, List.take_append_drop]
theorem xorK_get {w : UInt8} {k : List UInt8} {i : Nat} (h : i < k.length) : (bytesL (xorK w k i))[i]? = some (.int .u8 (k[i].toNat)) := by
 unfold xorK bytesL
 rw [List.getElem?_map, List.getElem?_append_right (by rw [List.length_map, List.length_take]; omega), List.length_map, List.length_take, List.getElem?_drop, show i + (i - min i k.length) = i by omega, List.getElem?_eq_getElem h]
 rfl
theorem xorK_set {w : UInt8} {k : List UInt8} {i : Nat} (h : i < k.length) : (bytesL (xorK w k i)).set i (.int .u8 ((k[i] ^^^ w).toNat : Nat)) = bytesL (xorK w k (i + 1)) := by
 unfold xorK bytesL
 rw [List.map_append, List.set_append_right _ _ (by rw [List.length_map, List.length_map, List.length_take]; omega), List.length_map, List.length_map, List.length_take, show i - min i k.length = 0 by omega]
 rw [List.drop_eq_getElem_cons h, List.map_cons, List.set_cons_zero, List.take_succ_eq_append_getElem h, List.map_append, List.map_append, List.map_append, List.append_assoc]
 rfl
theorem u8xor (a w : UInt8) : IntKind.u8.wrap ((BitVec.ofInt IntKind.u8.bits ((a.toNat : Nat) : Int) ^^^ BitVec.ofInt IntKind.u8.bits ((w.toNat : Nat) : Int)).toNat : Int) = (((a ^^^ w).toNat : Nat) : Int) := by
 have := u8_xor_nat a.toNat w.toNat (UInt8.toNat_lt _) (UInt8.toNat_lt _)
 rw [UInt8.toNat_xor]
 exact this
theorem around_ok (w : UInt8) (b key : List UInt8) (hb : b.length ≤ 100000) (h0 : 0 < key.length) (h1 : key.length ≤ 64) :
  PM cx 117 [(2000, .var false 71 (.p (.lst (bytesL key))))] [.p (.int .u8 (w.toNat : Nat)), .p (.lst (bytesL b)), .ptr 2000 0] [] (.p (.agg (bytesL (shaF (xpad w key ++ b))))) := by
 have hpl : (xpad w key).length = 64 := by unfold xpad; rw [List.length_map, kpad_len h1]
 have hsha := sha_ok (xpad w key ++ b) (by rw [List.length_append]; omega)
 have hdl := shaF_len (xpad w key ++ b)
 obtain ⟨d, hd⟩ : ∃ d, d = shaF (xpad w key ++ b) := ⟨_, rfl⟩
 rw [← hd] at hsha hdl ⊢
 obtain ⟨k, hk⟩ : ∃ k, k = kpad key := ⟨_, rfl⟩
 have hkl : k.length = 64 := by rw [hk, kpad_len h1]
 have hxk : xorK w k 64 = xpad w key := by unfold xorK xpad; rw [← hk, List.take_of_length_le (by omega), List.drop_eq_nil_of_le (by omega), List.append_nil]
 refine PM_of_vc cx_ok mixed {} Tryz.func117 (by kernel_rfl) rfl rfl (by kernel_rfl) ?_ ?_
 ·rfl
 refine goL ?_
 refine ⟨bytes_sz _, by rw [bytes_len]; exact h0, by rw [bytes_len]; exact h1, ?_⟩
 refine goL ?_
 refine ⟨Rd 64, fun i => S.of [(0, .p (.int .u8 (w.toNat : Nat))), (1, .p (.lst (bytesL b))), (5, .ptr 5 0), (6, .slc 8), (13, iv 64), (14, iv (i.1 : Nat))] [(5, .var true 129 (.p (.agg (List.replicate 20 (.int .u8 0))))), (8, .row 5 1 (bytesL (xorK w k i.1)))], fun i => 64 - i.1, Rd.zero 64, ?_, ?_⟩
 ·refine Ge.of rfl ?_ ?_
  ·conv => whnf
   refine ⟨LE.of rfl, ?_⟩
   conv => whnf
   refine ⟨LE.of rfl, ?_⟩
   conv => whnf
   refine ⟨LE.of rfl, ?_⟩
   conv => whnf
   refine ⟨LE.of rfl, ?_⟩
   conv => whnf
   refine ⟨LE.of (congrArg (fun m : Nat => SV.p (.int .i64 m)) (show _ = 64 from ?_)), ?_⟩
   ·rw [List.length_append, List.length_drop, List.length_replicate, bytes_len]
    show key.length + (64 - key.length) = 64
    omega
   conv => whnf
   exact ⟨LE.of rfl, trivial⟩
  ·conv => whnf
   refine ⟨OLE.of rfl, ?_⟩
   conv => whnf
   refine ⟨OLE.of (congrArg (AO.row 5 1) ?_), trivial⟩
   show bytesL key ++ (List.replicate 64 (PV.int .u8 0)).drop (bytesL key).length = bytesL (xorK w k 0)
   rw [hk, bytes_len]
   unfold xorK kpad
   rw [List.take_zero, List.map_nil, List.nil_append, List.drop_zero, ← bytes_append, List.drop_replicate]
   unfold bytesL
   rw [List.map_replicate]
   rfl
 rintro ⟨i, hi⟩
 refine goL ?_
 refine @bool_rec _ _ _ ?_ ?_ <;> intro hh
 ·have hh : ((i : Nat) : Int) < 64 := of_decide_eq_true hh
  have hik : i < k.length := by omega
  refine goL ?_
  refine ⟨Int.natCast_nonneg _, by show i < (bytesL (xorK w k i)).length; rw [bytes_len, xorK_len]; exact hik, ?_⟩
  refine goL ?_
  refine ⟨_, xorK_get hik, ?_⟩
  refine goL ?_
  refine ⟨_, u8xor _ _, ?_⟩
  refine goL ?_
  refine ⟨Int.natCast_nonneg _, by show i < (bytesL (xorK w k i)).length; rw [bytes_len, xorK_len]; exact hik, ?_⟩
  refine goL ?_
  refine ⟨by show i < (bytesL (xorK w k i)).length; rw [bytes_len, xorK_len]; exact hik, ?_⟩
  refine goL ?_
  refine ⟨_, wrapN (n := i + 1) rfl (by omega), ?_⟩
  refine goL ?_
  refine ⟨⟨i + 1, by omega⟩, Ge.of rfl ?_ ?_, by show 64 - (i + 1) < 64 - i; omega⟩
  ·repeat (conv => whnf); refine ⟨LE.of rfl, ?_⟩
   trivial
  ·conv => whnf
   refine ⟨OLE.of rfl, ?_⟩
   conv => whnf
   exact ⟨OLE.of (congrArg (AO.row 5 1) (xorK_set hik)), trivial⟩
 have hi64 : i = 64 := by
  have : ¬ ((i : Nat) : Int) < 64 := of_decide_eq_false hh
  omega
 refine goL ?_
 refine ⟨bytes_sz _, ?_⟩
 refine goL ?_
 refine ⟨by show ((bytesL (xorK w k i)).length + (bytesL b).length) * 1 ≤ _; rw [bytes_len, bytes_len, xorK_len]; omega, ?_⟩
 refine goL ?_
 refine ⟨_, CallVC.le hsha ⟨LE.of ?_, trivial⟩ rfl rfl, ?_⟩
 ·show SV.p (.lst (bytesL (xorK w k i) ++ bytesL b)) = _
  rw [bytes_append, hi64, hxk]
 refine goL ?_
 refine Eq.mpr (PV.forceL_eq _ _) ?_
 conv => whnf
 refine ⟨by show some (true, (bytesL d).length) = some (true, 20); rw [bytes_len, hdl], ?_⟩
 refine goL ?_
 refine Eq.mpr (PV.forceL_eq _ _) ?_
 refine goL ?_
 refine ⟨gid, ?_, trivial, rfl, rfl⟩
 conv => whnf
 refine Eq.mpr (PV.forceL_eq _ _) ?_
 exact ⟨rfl, LE.of rfl⟩
def hmacF (key msg : List UInt8) : List UInt8 := shaF (xpad 92 key ++ shaF (xpad 54 key ++ msg))
theorem hmac_len (key msg : List UInt8) : (hmacF key msg).length = 20 := shaF_len _
theorem mac_ok (key msg : List UInt8) (h0 : 0 < key.length) (h1 : key.length ≤ 64) (hm : msg.length ≤ 100000) : K 63 [.p (.lst (bytesL key)), .p (.lst (bytesL msg))] (.pv (.agg (bytesL (hmacF key msg)))) := by
 have ha := around_ok 54 msg key hm h0 h1
 obtain ⟨m, hm1⟩ : ∃ m, m = shaF (xpad 54 key ++ msg) := ⟨_, rfl⟩
 have hml : m.length = 20 := by rw [hm1]; exact shaF_len _
 have hb := around_ok 92 m key (by omega) h0 h1
 obtain ⟨d, hd⟩ : ∃ d, d = shaF (xpad 92 key ++ m) := ⟨_, rfl⟩
 have hdl : d.length = 20 := by rw [hd]; exact shaF_len _
 have hres : hmacF key msg = d := by rw [hd, hm1]; rfl
 rw [← hm1] at ha
 rw [← hd] at hb
 rw [hres]
 refine PC_of_vc cx_ok mixed { own := fun q => Nat.beq q 100017 || Nat.beq q 100020, fz := fun r => cond (Nat.beq r 6) [7] [] } Tryz.func63 (by kernel_rfl) rfl rfl (by kernel_rfl) ?_
 refine goL ?_
 rw [show decide (64 < ((bytesL key).length : Int)) = false from decide_eq_false (by rw [bytes_len]; omega)]
 refine goL ?_
 refine ⟨_, MCallVC.pr (gT [(2000, 2)]) ha ⟨LE.of rfl, LE.of rfl, LE.of rfl, trivial⟩ ⟨.inr (.inr (.inr ⟨_, _, _, rfl, rfl, LE.of rfl⟩)), trivial⟩ rfl, ?_⟩
 conv => whnf
 refine ⟨by show some (true, (bytesL m).length) = some (true, 20); rw [bytes_len, hml], ?_⟩
 refine goL ?_
 refine Eq.mpr (PV.forceL_eq _ _) ?_
 refine goL ?_
 refine ⟨by show 20 = (bytesL m).length; rw [bytes_len, hml], ?_⟩
 refine goL ?_
 refine ⟨_, MCallVC.pr (gT [(2000, 2)]) hb ⟨LE.of rfl, LE.of rfl, LE.of rfl, trivial⟩ ⟨.inr (.inr (.inr ⟨_, _, _, rfl, rfl, LE.of rfl⟩)), trivial⟩ rfl, ?_⟩
 conv => whnf
 refine ⟨by show some (true, (bytesL d).length) = some (true, 20); rw [bytes_len, hdl], ?_⟩
 refine goL ?_
 refine Eq.mpr (PV.forceL_eq _ _) ?_
 refine goL ?_
 refine Eq.mpr (PV.forceL_eq _ _) ?_
 exact LEP.refl _
end Go.So
