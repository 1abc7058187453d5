/- Part 10 of the proof: Id Ie If Ig Ih. -/
import Derived.Test.YteicafhbhdliaaaGreatDoorOai
set_option linter.unusedSimpArgs false
set_option linter.unusedVariables false
set_option maxHeartbeats 4000000
namespace Go.Sl
open Go Go.Vc Go.Proofs Go.RowKit
theorem nf (t u : Tm) : wt (aF t u).1 <= wt t := by
 unfold aF;split
 ·split
  ·split
   ·rename_i h1 h2 h3;have h4 : at_ t.kids 0 ∈ t.kids := by simp [at_, h1.2]
    have h5 : at_ (at_ t.kids 0).kids 0 ∈ (at_ t.kids 0).kids := by
     have : 0 < (at_ t.kids 0).kids.length := by omega
     show (at_ t.kids 0).kids.getD 0 aD ∈ _;rw [List.getD_eq_getElem?_getD, List.getElem?_eq_getElem this];exact List.getElem_mem _
    exact Nat.le_trans (mq h5) (mq h4)
   ·exact br t
  ·exact br t
 ·exact br t
def cA (u body offer x : Tm) : Tm × Tm × Int :=
 match ao spW 1 offer with
 | none => (aD, aD, 2)
 | some l =>
  if (aF (at_ l 0) u).2 ≠ 0 then (aD, aD, (aF (at_ l 0) u).2) else
  (ay spW [a7 x u, d8 x (aF (at_ l 0) u).1 u (at_ l 0) (a7 x u) body], gg x (aF (at_ l 0) u).1 u (at_ l 0) (a7 x u) body 0, 0)
def Ht (x : Tm × Tm × Int) : Res := .tup [TV x.1, TV x.2.1, .int .i64 x.2.2]
theorem oQ (u body offer x : Tm) (hw : wt offer <= 1000000000) (hx : wt x <= 1000000000) : K true 209 [tv u, tv body, tv offer, tv x] (Ht (cA u body offer x)) := by
 have hf := aE offer hw;have h := bD true spW 1 offer (by decide) hf;unfold cA;cases e : ao spW 1 offer with
 | none =>
  rw [e] at h;refine pcv { ps := psT [(4, [13])] } Tryz.func209 ?_;refine goM ?_;refine cC h (goM ?_);exact ⟨aR 0 [], aR 0 [], LEP.refl _, trivial⟩
 | some l =>
  rw [e] at h;have hl := aY e;have hw0 : wt (at_ l 0) <= 1000000000 := Nat.le_trans (dp (bV e) (br offer) 0) hw;have h2 := nb true (at_ l 0) u (aE _ hw0);have hwy := Nat.le_trans (nf (at_ l 0) u) hw0;show K true _ _ (Ht (if (aF (at_ l 0) u).2 ≠ 0 then (aD, aD, (aF (at_ l 0) u).2) else (ay spW [a7 x u, d8 x (aF (at_ l 0) u).1 u (at_ l 0) (a7 x u) body], gg x (aF (at_ l 0) u).1 u (at_ l 0) (a7 x u) body 0, 0)));revert h2 hwy;generalize aF (at_ l 0) u = z;obtain ⟨y, c⟩ := z;intro h2 hwy;have hwy : wt y <= 1000000000 := hwy;refine pcv { ps := psT [(4, [13])] } Tryz.func209 ?_;refine goM ?_;refine cC h (goM ?_);refine ⟨_, ap (l := l) (i := 0) (by omega), rfl, rfl, goM ?_⟩;refine cC h2 (goM ?_);refine aa ?_ ?_ <;> intro h3
  ·have h3 : c ≠ 0 := of_decide_eq_true h3;rw [if_pos h3];refine goM ?_;exact ⟨aR 0 [], aR 0 [], LEP.refl _, trivial⟩
  ·have h3 : c = 0 := by simpa using h3
   subst h3;rw [if_neg (by simp)];refine goL ?_;refine ⟨_, ap (l := l) (i := 0) (by omega), rfl, rfl, goL ?_⟩;refine cC (mr true x u) (goL ?_);refine cC (qy x y u (at_ l 0) (a7 x u) body hx hwy) (goL ?_);refine cC (bh true spW _ [a7 x u, d8 x y u (at_ l 0) (a7 x u) body] (cK _ _) (by simp)) (goL ?_);refine cC (oP x y u (at_ l 0) (a7 x u) body 0 (by decide) (by decide) hx hwy) (goL ?_);exact ⟨LEP.refl _, LEP.refl _, LEP.refl _, trivial⟩
def bx (u body y p : Tm) : Tm × Int :=
 match ao spW 2 p with
 | none => (aD, 2)
 | some l =>
  if (aF (at_ l 0) u).2 ≠ 0 then (aD, (aF (at_ l 0) u).2) else
  if at_ l 1 ≠ d8 (aF (at_ l 0) u).1 y u (a7 y u) (at_ l 0) body then (aD, 6) else
  (gg (aF (at_ l 0) u).1 y u (a7 y u) (at_ l 0) body 0, 0)
theorem pP (u body y p : Tm) (hw : wt p <= 1000000000) (hy : wt y <= 1000000000) : K true 140 [tv u, tv body, tv y, tv p] (tmR (bx u body y p)) := by
 have hf := aE p hw;have h := bD true spW 2 p (by decide) hf;unfold bx;cases e : ao spW 2 p with
 | none =>
  rw [e] at h;refine pcv { ps := psT [(4, [12])] } Tryz.func140 ?_;refine goM ?_;refine cC h (goM ?_);exact ⟨aR 0 [], LEP.refl _, trivial⟩
 | some l =>
  rw [e] at h;have hl := aY e;have hwl := bV e;have hw0 : wt (at_ l 0) <= 1000000000 := Nat.le_trans (dp hwl (br p) 0) hw;have hw1 : wt (at_ l 1) <= 1000000000 := Nat.le_trans (dp hwl (br p) 1) hw;have h2 := nb true (at_ l 0) u (aE _ hw0);have hwx := Nat.le_trans (nf (at_ l 0) u) hw0;show K true _ _ (tmR (if (aF (at_ l 0) u).2 ≠ 0 then (aD, (aF (at_ l 0) u).2) else if at_ l 1 ≠ d8 (aF (at_ l 0) u).1 y u (a7 y u) (at_ l 0) body then (aD, 6) else (gg (aF (at_ l 0) u).1 y u (a7 y u) (at_ l 0) body 0, 0)));revert h2 hwx;generalize aF (at_ l 0) u = z;obtain ⟨x, c⟩ := z;intro h2 hwx;have hwx : wt x <= 1000000000 := hwx;refine pcv { ps := psT [(4, [12])] } Tryz.func140 ?_;refine goM ?_;refine cC h (goM ?_);refine ⟨_, ap (l := l) (i := 0) (by omega), rfl, rfl, goM ?_⟩;refine cC h2 (goM ?_);refine aa ?_ ?_ <;> intro h3
  ·have h3 : c ≠ 0 := of_decide_eq_true h3;rw [if_pos h3];refine goM ?_;exact ⟨aR 0 [], LEP.refl _, trivial⟩
  ·have h3 : c = 0 := by simpa using h3
   subst h3;rw [if_neg (by simp)];refine goL ?_;refine cC (mr true y u) (goL ?_);refine ⟨_, ap (l := l) (i := 0) (by omega), rfl, rfl, goL ?_⟩;refine ⟨_, ap (l := l) (i := 1) (by omega), rfl, rfl, goL ?_⟩;refine cC (qy x y u (a7 y u) (at_ l 0) body hwx hy) (goL ?_);refine cC (cy true (at_ l 1) (aE _ hw1) _) (goL ?_);refine aa ?_ ?_ <;> intro h4
   ·have h4 : at_ l 1 ≠ d8 x y u (a7 y u) (at_ l 0) body := by simpa using h4
    rw [if_pos h4];refine goL ?_;exact ⟨aR 0 [], LEP.refl _, trivial⟩
   ·have h4 : at_ l 1 = d8 x y u (a7 y u) (at_ l 0) body := by simpa using h4
    rw [if_neg (by simpa using h4)];refine goL ?_;refine cC (oP x y u (a7 y u) (at_ l 0) body 0 (by decide) (by decide) hwx hy) (goL ?_);exact ⟨LEP.refl _, LEP.refl _, trivial⟩
end Go.Sl
namespace Go.Sl
open Go Go.Vc Go.Proofs Go.RowKit
theorem gO {xs ys : List PV} (h : Av xs ys) : LE (.p (.agg xs)) (.p (.agg ys)) := fun ok β w v hr => by
 rw [R, RP] at hr ⊢;obtain ⟨vs, h1, h2, h3⟩ := hr;exact ⟨vs, h1, h2, rx h h3⟩
theorem rW {xs ys : List PV} (h : Av xs ys) : LEP (.agg xs) (.agg ys) := fun ok w v hr => by
 rw [RP] at hr ⊢;obtain ⟨vs, h1, h2, h3⟩ := hr;exact ⟨vs, h1, h2, rx h h3⟩
theorem Bt {cs : List PV} {xs : List SV} (h : LEL (cs.map .p) xs) : LE (.p (.agg cs)) (.mix xs) := fun ok β w v hr => by
 rw [R, RP] at hr;obtain ⟨vs, h1, h2, h3⟩ := hr;rw [R];exact ⟨vs, h1, h2, n7 h (gX h3)⟩
theorem bm : LEP .nilS (.lst []) := fun ok w v hr => by
 have := km ok (fun _ => undef) w v (by rw [R]; exact hr)
 rwa [R] at this
structure Ck where
 client : Bs
 nonce : Bs
 done : List Bs
 secret : Tm
 til : Int
def Ck.pv (c : Ck) : PV := .agg [.str c.client, .str c.nonce, .lst (aC c.done), .int .i64 c.secret.kind, .str c.secret.name, .lst (af c.secret.kids), .int .i64 c.til]
abbrev ckV (c : Ck) : SV := .p (.agg [.str c.client, .str c.nonce, .lst (aC c.done), .int .i64 c.secret.kind, .str c.secret.name, .lst (af c.secret.kids), .int .i64 c.til])
def ib (t : Tm) : Bool := cd t && decide (rF t 61 <= 57)
theorem xt (t : Tm) (hw : wt t <= 1000000000) : K true 137 [tv t] (.pv (.bool (ib t))) := by
 have hf := aE t hw;have h := oD t hf (fun _ => dn hf hw);unfold ib;revert h;generalize cd t = q;intro h;cases q with
 | false =>
  refine pcv {} Tryz.func137 ?_;refine goM ?_;refine cC h (goM ?_);exact LEP.refl _
 | true =>
  refine pcv {} Tryz.func137 ?_;refine goM ?_;refine cC h (goM ?_);refine cC (AZ true t hf) (goM ?_);exact LEP.of (congrArg PV.bool (by rw [Bool.true_and]; exact decide_eq_decide.2 (by omega)))
def ckW : Bs := [99, 111, 111, 107, 105, 101]
def dv (key : Tm) (c : Ck) : Tm :=
 if ib key = true /\ ib c.secret = true then yk key (kc [bK ckW, bK (99 :: c.client), bK (110 :: c.nonce), kc (c.done.map fun s => bK (100 :: s)), c.secret, bK (117 :: Lib.itoa c.til)]) else aD
theorem Hu (a b c d e f : Tm) : [TV a, TV b, TV c, TV d, TV e, TV f] = af [a, b, c, d, e, f] := (cw [a, b, c, d, e, f]).symm
structure Ck.ok (c : Ck) : Prop where
 client : c.client.length <= 1000000000
 nonce : c.nonce.length <= 1000000000
 done : c.done.length <= 1000000000
 dones : ∀ s ∈ c.done, s.length <= 1000000000
 secret : wt c.secret <= 1000000000
 til0 : -9223372036854775808 <= c.til
 til1 : c.til <= 9223372036854775807
theorem jW (key : Tm) (c : Ck) (hk : wt key <= 1000000000) (hc : c.ok) : K true 92 [tv key, ckV c] (.pv (TV (dv key c))) := by
 have h1 := xt key hk;have h2 := xt c.secret hc.secret;have hl := bj hc.til0 hc.til1;have hit := cL true c.til hc.til0 hc.til1;have c1 := hc.client;have c2 := hc.nonce;have c3 := hc.done;unfold dv;revert h1 h2;generalize ib key = p;generalize ib c.secret = q;intro h1 h2;cases p with
 | false =>
  refine pcv { own := oO [5, 31], fz := fun r => cond (Nat.beq r 10) [5] [] } Tryz.func92 ?_;refine goL ?_;refine cC h1 (goL ?_);exact aR 0 []
 | true =>
  cases q with
  | false =>
   refine pcv { own := oO [5, 31], fz := fun r => cond (Nat.beq r 10) [5] [] } Tryz.func92 ?_;refine goL ?_;refine cC h1 (goL ?_);refine cC h2 (goL ?_);exact aR 0 []
  | true =>
   rw [if_pos ⟨rfl, rfl⟩];refine pcv { own := oO [5, 31], fz := fun r => cond (Nat.beq r 10) [5] [] } Tryz.func92 ?_;refine goL ?_;refine cC h1 (goL ?_);refine cC h2 (goL ?_);refine ⟨Rd c.done.length, fun i => S.of [(2, .ptr 2 0), (3, .ptr 3 0), (4, .ptr 4 0), (5, .slc 5), (20, .p (.lst (aC c.done))), (21, iv ((aC c.done).length : Int)), (22, iv (i.1 : Int))] [(2, .var true 26 (tv key)), (3, .var true 92 (ckV c)), (4, .var true 26 (.p (.agg [.int .i64 0, .str [], .nilS]))), (5, .row 26 3 (af ((c.done.take i.1).map fun s => bK (100 :: s))))], fun i => c.done.length - i.1, Rd.zero _, ?_, ?_⟩
   ·exact Ge.go
   rintro ⟨i, hi⟩
   refine goL ?_;refine aa ?_ ?_ <;> intro h3
   ·have hlt : i < c.done.length := by have := of_decide_eq_true h3; rw [al] at this; exact Int.ofNat_lt.1 this
    have hrow : af ((c.done.take i).map fun s => bK (100 :: s)) ++ [TV (bK (100 :: c.done[i]))] = af ((c.done.take (i + 1)).map fun s => bK (100 :: s)) := by
     rw [List.take_succ_eq_append_getElem hlt, List.map_append, aO, List.map_cons, List.map_nil, dR]
    have hsl := hc.dones _ (List.getElem_mem hlt);refine goL ?_;refine ⟨Int.natCast_nonneg _, .str c.done[i], by show (aC c.done)[i]? = _; simp [aC, hlt], rfl, rfl, goL ?_⟩;refine ⟨by show 1 + c.done[i].length <= _; omega, goL ?_⟩;refine cC (iz true (100 :: c.done[i])) (goL ?_);refine ⟨A0 (by simp only [ab, List.length_map, List.length_take, List.length_cons, List.length_nil]; omega), goL ?_⟩;refine ⟨_, aq (n := i + 1) rfl (by omega), goL ?_⟩;refine ⟨⟨i + 1, hlt⟩, ?_, by show c.done.length - (i + 1) < c.done.length - i; omega⟩;refine Ge.of rfl ?_ ?_
    ·repeat (conv => whnf); refine ⟨LE.of rfl, ?_⟩
     trivial
    ·conv => whnf
     refine ⟨OLE.of rfl, ?_⟩
     conv => whnf
     refine ⟨OLE.of rfl, ?_⟩
     conv => whnf
     refine ⟨OLE.of rfl, ?_⟩
     conv => whnf
     refine ⟨OLE.of (congrArg (AO.row 26 3) hrow), ?_⟩;trivial
   ·have hge : c.done.take i = c.done := by have h1 := of_decide_eq_false h3; rw [al] at h1; have h1 : ¬ (i : Int) < (c.done.length : Int) := h1; exact List.take_of_length_le (by omega)
    have hrow : af ((c.done.take i).map fun s => bK (100 :: s)) = af (c.done.map fun s => bK (100 :: s)) := by rw [hge]
    refine goL ?_;refine cC hit (goL ?_);refine ⟨by show 1 + (Lib.itoa c.til).length <= _; omega, goL ?_⟩;refine cC (iz true (117 :: Lib.itoa c.til)) (goL ?_);refine cC (iz true ckW) (goL ?_);refine ⟨by show 1 + c.client.length <= _; omega, goL ?_⟩;refine cC (iz true (99 :: c.client)) (goL ?_);refine ⟨by show 1 + c.nonce.length <= _; omega, goL ?_⟩;refine cC (iz true (110 :: c.nonce)) (goL ?_);refine cC (jN true _ (c.done.map fun s => bK (100 :: s)) hrow (by simp; omega)) (goL ?_);refine cC (jN true _ [bK ckW, bK (99 :: c.client), bK (110 :: c.nonce), kc (c.done.map fun s => bK (100 :: s)), c.secret, bK (117 :: Lib.itoa c.til)] (Hu _ _ _ _ _ _) (by simp)) (goL ?_);refine cC (AR true key _) (goL ?_);exact LEP.refl _
end Go.Sl
namespace Go.Sl
open Go Go.Vc Go.Proofs Go.RowKit
def gI : Nat -> Nat := fun k => k
theorem mt (b : Bool) (t : Tm) (i : Nat) (letter : Bs) (hi : i < t.kids.length) : K b 177 [tv t, iv i, sv letter] (.pv (.str (fj (at_ t.kids i).name letter).1)) := by
 have h := iI b (at_ t.kids i).name letter;revert h;generalize fj (at_ t.kids i).name letter = x;obtain ⟨s, m⟩ := x;intro h;refine pcv {} Tryz.func177 ?_;refine goL ?_;refine ⟨Int.natCast_nonneg _, _, ap (l := t.kids) (i := i) hi, rfl, rfl, goL ?_⟩;refine cC h (goL ?_);exact LEP.refl _
abbrev Ek (cl n : Bs) : List (Nat × AO) := [(2000, .var true 92 (.p (.agg [.str cl, .str n, .nilS, .int .i64 0, .str [], .nilS, .int .i64 0])))]
abbrev IG (cl n : Bs) : List (Nat × AO) := [(2000, .var true 92 (.mix [.p (.str cl), .p (.str n), .p .nilS, .p (.int .i64 0), .p (.str []), .p .nilS, .p (.int .i64 0)]))]
abbrev ckM (c : Ck) : List (Nat × AO) := [(2000, .var true 92 (.mix [.p (.str c.client), .p (.str c.nonce), .slc 1001, .p (.int .i64 c.secret.kind), .p (.str c.secret.name), .p (.lst (af c.secret.kids)), .p (.int .i64 c.til)])), (1001, .row 9 1 (aC c.done))]
abbrev Hv (c : Ck) : List (Nat × AO) := [(2000, .var true 92 (.mix [.p (.str c.client), .p (.str c.nonce), .slc 1001, .p (.int .i64 0), .p (.str []), .p .nilS, .p (.int .i64 0)])), (1001, .row 9 1 (aC c.done))]
theorem tX (t : Tm) (cl n : Bs) (hi : 1 < t.kids.length) : PM (cx true) 131 (Ek cl n) [tv t, .ptr 2000 0] (Ek (fj (at_ t.kids 1).name [99]).1 n) (.tupS []) := by
 have h := mt true t 1 [99] hi;generalize (fj (at_ t.kids 1).name [99]).1 = x at h ⊢;refine pmv {} Tryz.func131 ?_;refine goL ?_;refine cC h (goL ?_);exact rR gI (rfl)
theorem v7 (t : Tm) (cl n : Bs) (hi : 2 < t.kids.length) : PM (cx true) 132 (Ek cl n) [tv t, .ptr 2000 0] (Ek cl (fj (at_ t.kids 2).name [110]).1) (.tupS []) := by
 have h := mt true t 2 [110] hi;generalize (fj (at_ t.kids 2).name [110]).1 = x at h ⊢;refine pmv {} Tryz.func132 ?_;refine goL ?_;refine cC h (goL ?_);exact rR gI (rfl)
def iT (l : List Tm) : List Bs := l.map fun k => (fj k.name [100]).1
theorem yD (t : Tm) (cl n : Bs) (hi : 3 < t.kids.length) (hl : (at_ t.kids 3).kids.length <= 1000000000) : PM (cx true) 133 (IG cl n) [tv t, .ptr 2000 0] (Hv ⟨cl, n, iT (at_ t.kids 3).kids, aD, 0⟩) (.tupS []) := by
 have hg : (af t.kids)[3]? = some (TV (at_ t.kids 3)) := ap hi;revert hg;generalize at_ t.kids 3 = u at hl ⊢;intro hg;obtain ⟨ku, nu, l⟩ := u;have hl : l.length <= 1000000000 := hl;refine pmv { own := oO [32], nl := fun r => cond (Nat.beq r 1) [(2000, 2, 1001, 9, 1)] [] } Tryz.func133 ?_;refine goL ?_;refine ⟨_, hg, rfl, rfl, goL ?_⟩;refine ⟨Rd l.length, fun i => S.of [(1, .ptr 2000 0), (13, lv l), (14, iv ((af l).length : Int)), (15, iv (i.1 : Int))] [(2000, .var true 92 (.mix [.p (.str cl), .p (.str n), .slc 1001, .p (.int .i64 0), .p (.str []), .p .nilS, .p (.int .i64 0)])), (1001, .row 9 1 (aC (iT (l.take i.1))))], fun i => l.length - i.1, Rd.zero _, ?_, ?_⟩
 ·exact Ge.go
 rintro ⟨i, hi⟩
 refine goL ?_;refine aa ?_ ?_ <;> intro h3
 ·have hlt : i < l.length := by have := of_decide_eq_true h3; rw [ab] at this; exact Int.ofNat_lt.1 this
  have hrow : aC (iT (l.take i)) ++ [.str (fj l[i].name [100]).1] = aC (iT (l.take (i + 1))) := by
   rw [List.take_succ_eq_append_getElem hlt];simp only [iT, aC, List.map_append, List.map_cons, List.map_nil]
  have h := iI true l[i].name [100];revert h hrow;generalize fj l[i].name [100] = x;obtain ⟨s, m⟩ := x;intro hrow h;refine goL ?_;refine ⟨Int.natCast_nonneg _, TV l[i], bQ hlt, rfl, rfl, goL ?_⟩;refine cC h (goL ?_);refine ⟨by show ((aC (iT (l.take i))).length + 1) * 16 <= _; simp [aC, iT]; omega, goL ?_⟩;refine ⟨_, aq (n := i + 1) rfl (by omega), goL ?_⟩;refine ⟨⟨i + 1, hlt⟩, ?_, by show l.length - (i + 1) < l.length - i; omega⟩;refine Ge.of rfl ?_ ?_
  ·repeat (conv => whnf); refine ⟨LE.of rfl, ?_⟩
   trivial
  ·conv => whnf
   refine ⟨OLE.of rfl, ?_⟩
   conv => whnf
   refine ⟨OLE.of (congrArg (AO.row 9 1) hrow), ?_⟩;trivial
 ·have hge : l.take i = l := by have h1 := of_decide_eq_false h3; rw [ab] at h1; have h1 : ¬ (i : Int) < (l.length : Int) := h1; exact List.take_of_length_le (by omega)
  have hrow : aC (iT (l.take i)) = aC (iT l) := by rw [hge]
  refine goL ?_;exact ⟨gI, rfl, ⟨.inr (.inl rfl), .inr (.inl (congrArg (AO.row 9 1) hrow)), trivial⟩, rfl, rfl⟩
theorem tY (t : Tm) (c : Ck) (hi : 4 < t.kids.length) : PM (cx true) 134 (Hv c) [tv t, .ptr 2000 0] (ckM ⟨c.client, c.nonce, c.done, at_ t.kids 4, 0⟩) (.tupS []) := by
 refine pmv {} Tryz.func134 ?_;refine goL ?_;refine ⟨_, ap (l := t.kids) (i := 4) hi, rfl, rfl, goL ?_⟩;exact rR gI (rfl)
theorem Bu (t : Tm) (c : Ck) (hi : 5 < t.kids.length) (hn : (at_ t.kids 5).name.length <= 281474976710656) : PM (cx true) 135 (ckM c) [tv t, .ptr 2000 0] (ckM ⟨c.client, c.nonce, c.done, c.secret, (ia (fj (at_ t.kids 5).name [117]).1).1⟩) (.tupS []) := by
 have h := mt true t 5 [117] hi;have hl : (fj (at_ t.kids 5).name [117]).1.length <= 281474976710656 := by
  unfold fj;split
  ·show (List.drop 1 (at_ t.kids 5).name).length <= _;rw [List.length_drop];omega
  ·exact hn
 generalize (fj (at_ t.kids 5).name [117]).1 = x at h hl ⊢;have h2 := xr true x hl;revert h2;generalize ia x = y;obtain ⟨v, e⟩ := y;intro h2;refine pmv {} Tryz.func135 ?_;refine goL ?_;refine cC h (goL ?_);refine cC h2 ?_;cases e with
 | false =>
  refine goL ?_;exact rR gI (rfl)
 | true =>
  refine goL ?_;exact rR gI (rfl)
end Go.Sl
namespace Go.Sl
open Go Go.Vc Go.Proofs Go.RowKit
def aN (b : Tm) : Ck := ⟨(fj (at_ b.kids 1).name [99]).1, (fj (at_ b.kids 2).name [110]).1, iT (at_ b.kids 3).kids, at_ b.kids 4, (ia (fj (at_ b.kids 5).name [117]).1).1⟩
def ck0 : Ck := ⟨[], [], [], aD, 0⟩
def dw (key t : Tm) (now : Int) : Ck × Int :=
 if cd t = true /\ t.kind = 4 then
  (if at_ t.kids 0 = key then
   (if (at_ t.kids 1).kids.length = 6 then
    (if dv key (aN (at_ t.kids 1)) = t then (if (aN (at_ t.kids 1)).til < now then (ck0, 5) else (aN (at_ t.kids 1), 0)) else (ck0, 2))
   else (ck0, 2))
  else (ck0, 4))
 else (ck0, 2)
def ckR (x : Ck × Int) : Res := .tup [x.1.pv, .int .i64 x.2]
theorem F8 {t : Tm} (h : cd t = true) (h4 : t.kind = 4) : t.kids.length = 2 := by
 rw [cd, Bool.and_eq_true] at h;have h1 := h.1;rw [iA, h4, Bool.and_eq_true, Bool.and_eq_true] at h1;have h2 := h1.1.2;rw [Bool.or_eq_true] at h2;rcases h2 with h2 | h2
 ·exact absurd (of_decide_eq_true h2) (by decide)
 ·have h2 := of_decide_eq_true h2;have e : Tm.arity 4 = 2 := by decide
  rw [e] at h2;omega
theorem tZ (s p : Bs) : (fj s p).1.length <= s.length := by
 unfold fj;split
 ·show (List.drop _ s).length <= _;rw [List.length_drop];omega
 ·exact Nat.le_refl _
theorem xu (l : List Tm) : l.length <= wts l := by
 induction l with
 | nil => exact Nat.le_refl _
 | cons u l ih =>
  rw [wts, List.length_cons, bR];omega
theorem mu (t : Tm) (i : Nat) : wt (at_ t.kids i) <= wt t := dp (fun u hu => mq hu) (br t) i
theorem qz (b : Tm) (hw : wt b <= 1000000000) : (aN b).ok := by
 have hk : ∀ i, wt (at_ b.kids i) <= 1000000000 := fun i => Nat.le_trans (mu b i) hw
 have hn : ∀ (i : Nat) (p : Bs), (fj (at_ b.kids i).name p).1.length <= 1000000000 := fun i p => by
  have h1 := tZ (at_ b.kids i).name p;have h2 := jU (at_ b.kids i);have h3 := hk i;omega
 refine ⟨hn 1 _, hn 2 _, ?_, ?_, hk 4, (fL _).1, (fL _).2⟩
 ·show (iT _).length <= _;rw [iT, List.length_map];have h1 := xu (at_ b.kids 3).kids;have h2 := hk 3;rw [bR] at h2;omega
 ·intro s hs;obtain ⟨k, hk2, rfl⟩ := List.mem_map.1 hs;have h1 := tZ k.name [100];have h2 := jU k;have h3 := mq hk2;have h4 := hk 3;omega
theorem v8 (key : Tm) (c : Ck) (hk : wt key <= 1000000000) (hc : c.ok) : Fit (dv key c) := by
 unfold dv;split
 ·have hl := bj hc.til0 hc.til1;refine Fit.two 4 (by simp) (aE _ hk) (Fit.mk (by simp) (by simp) ?_);intro t ht;simp only [List.mem_cons, List.not_mem_nil, or_false] at ht;have c1 := hc.client;have c2 := hc.nonce;have c3 := hc.done;rcases ht with rfl | rfl | rfl | rfl | rfl | rfl
  ·exact Fit.data 1 (by decide)
  ·exact Fit.data 1 (by rw [List.length_cons]; omega)
  ·exact Fit.data 1 (by rw [List.length_cons]; omega)
  ·refine Fit.mk (by rw [List.length_map]; omega) (by simp) fun u hu => ?_
   obtain ⟨s, hs, rfl⟩ := List.mem_map.1 hu;have := hc.dones s hs;exact Fit.data 1 (by rw [List.length_cons]; omega)
  ·exact aE _ hc.secret
  ·exact Fit.data 1 (by rw [List.length_cons]; omega)
 ·exact Fit.zero
def F9 : List PV := [.exact (.func (.func 131) #[] #[]), .exact (.func (.func 132) #[] #[]), .exact (.func (.func 133) #[] #[]), .exact (.func (.func 134) #[] #[]), .exact (.func (.func 135) #[] #[])]
def Hw (b : Tm) : Nat -> List (Nat × AO)
 | 0 => [(9, .var true 92 (.p (.agg [.str [], .str [], .nilS, .int .i64 0, .str [], .nilS, .int .i64 0])))]
 | 1 => [(9, .var true 92 (.p (.agg [.str (aN b).client, .str [], .nilS, .int .i64 0, .str [], .nilS, .int .i64 0])))]
 | 2 => [(9, .var true 92 (.p (.agg [.str (aN b).client, .str (aN b).nonce, .nilS, .int .i64 0, .str [], .nilS, .int .i64 0])))]
 | 3 => [(9, .var true 92 (.mix [.p (.str (aN b).client), .p (.str (aN b).nonce), .slc 1001, .p (.int .i64 0), .p (.str []), .p .nilS, .p (.int .i64 0)])), (1001, .row 9 1 (aC (aN b).done))]
 | 4 => [(9, .var true 92 (.mix [.p (.str (aN b).client), .p (.str (aN b).nonce), .slc 1001, .p (.int .i64 (aN b).secret.kind), .p (.str (aN b).secret.name), .p (.lst (af (aN b).secret.kids)), .p (.int .i64 0)])), (1001, .row 9 1 (aC (aN b).done))]
 | _ => [(9, .var true 92 (.mix [.p (.str (aN b).client), .p (.str (aN b).nonce), .slc 1001, .p (.int .i64 (aN b).secret.kind), .p (.str (aN b).secret.name), .p (.lst (af (aN b).secret.kids)), .p (.int .i64 (aN b).til)])), (1001, .row 9 1 (aC (aN b).done))]
def Hx (key t : Tm) (now : Int) (i : Nat) : Vc.S :=
 Vc.S.of [(2, iv now), (3, .ptr 3 0), (4, .ptr 4 0), (6, .ptr 6 0), (8, .ptr 8 0), (9, .ptr 9 0), (40, .p (.lst F9)), (41, iv 5), (42, iv (i : Int))]
  ([(3, .var true 26 (tv key)), (4, .var true 26 (tv t)), (6, .var true 92 (.p (.agg [.str [], .str [], .nilS, .int .i64 0, .str [], .nilS, .int .i64 0]))), (8, .var true 203 (tv (at_ t.kids 1)))] ++ Hw (at_ t.kids 1) i)
theorem jX : LEP (.agg [.str [], .str [], .nilS, .int .i64 0, .str [], .nilS, .int .i64 0]) ck0.pv :=
 rW ⟨LEP.refl _, LEP.refl _, bm, LEP.refl _, LEP.refl _, bm, LEP.refl _, trivial⟩
theorem yE (key t : Tm) (now : Int) (hk : wt key <= 1000000000) (hw : wt t <= 1000000000) : K true 84 [tv key, tv t, iv now] (ckR (dw key t now)) := by
 have hf := aE t hw;have hr := oD t hf (fun _ => dn hf hw);unfold dw
 by_cases h1 : cd t = true
 ·by_cases h2 : t.kind = 4
  ·have hl2 := F8 h1 h2;have hw0 : wt (at_ t.kids 0) <= 1000000000 := Nat.le_trans (mu t 0) hw;have hw1 : wt (at_ t.kids 1) <= 1000000000 := Nat.le_trans (mu t 1) hw;rw [if_pos ⟨h1, h2⟩];rw [h1] at hr
   by_cases h3 : at_ t.kids 0 = key
   ·rw [if_pos h3]
    by_cases h4 : (at_ t.kids 1).kids.length = 6
    ·rw [if_pos h4];have hd3 : (at_ (at_ t.kids 1).kids 3).kids.length <= 1000000000 := by
      have h1 := xu (at_ (at_ t.kids 1).kids 3).kids;have h2 := mu (at_ t.kids 1) 3;rw [bR (at_ (at_ t.kids 1).kids 3)] at h2;omega
     have hn5 : (at_ (at_ t.kids 1).kids 5).name.length <= 281474976710656 := by
      have h1 := jU (at_ (at_ t.kids 1).kids 5);have h2 := mu (at_ t.kids 1) 5;omega
     have hc := qz (at_ t.kids 1) hw1;have hs := jW key (aN (at_ t.kids 1)) hk hc;have hsf := v8 key (aN (at_ t.kids 1)) hk hc;refine pcv { own := oO [100048], fz := fun r => cond (Nat.beq r 14) [1001] [] } Tryz.func84 ?_;refine goL ?_;refine cC hr (goL ?_);refine aa ?_ ?_ <;> intro h5
     ·exact absurd h2 (of_decide_eq_true h5)
     refine goL ?_;refine ⟨_, ap (l := t.kids) (i := 0) (by omega), rfl, rfl, goL ?_⟩;refine cC (cy true (at_ t.kids 0) (aE _ hw0) key) (goL ?_);refine aa ?_ ?_ <;> intro h6
     ·exact absurd h3 (by simpa using h6)
     refine goL ?_;refine ⟨_, ap (l := t.kids) (i := 1) (by omega), rfl, rfl, goL ?_⟩;refine aa ?_ ?_ <;> intro h7
     ·exact absurd h4 (by have h7 := of_decide_eq_true h7; rw [ab] at h7; omega)
     refine goL ?_;refine ⟨Rd 5, fun i => Hx key t now i.1, fun i => 5 - i.1, Rd.zero _, ?_, ?_⟩
     ·exact Ge.go
     rintro ⟨i, hi⟩
     match i, hi with
     | 0, hi =>
      refine goL ?_;refine ⟨Int.natCast_nonneg _, _, rfl, rfl, rfl, goL ?_⟩;refine ac.go (gn [(2000, 9)]) (tX (at_ t.kids 1) [] [] (by omega)) (goL ?_);refine ⟨_, aq (n := 1) rfl (by decide), goL ?_⟩;refine ⟨⟨1, by decide⟩, ?_, (by decide : 5 - 1 < 5 - 0)⟩;exact Ge.go
     | 1, hi =>
      refine goL ?_;refine ⟨Int.natCast_nonneg _, _, rfl, rfl, rfl, goL ?_⟩;refine ac.go (gn [(2000, 9)]) (v7 (at_ t.kids 1) (aN (at_ t.kids 1)).client [] (by omega)) (goL ?_);refine ⟨_, aq (n := 2) rfl (by decide), goL ?_⟩;refine ⟨⟨2, by decide⟩, ?_, (by decide : 5 - 2 < 5 - 1)⟩;exact Ge.go
     | 2, hi =>
      refine goL ?_;refine ⟨Int.natCast_nonneg _, _, rfl, rfl, rfl, goL ?_⟩;refine ⟨_, ac.pr (gn [(2000, 9)]) (yD (at_ t.kids 1) (aN (at_ t.kids 1)).client (aN (at_ t.kids 1)).nonce (by omega) hd3) ⟨LE.of rfl, LE.of rfl, trivial⟩ (by (conv => whnf); exact ⟨.inr (.inr (.inl ⟨true, _, _, _, rfl, rfl, Bt ⟨LE.refl _, LE.refl _, LE.refl _, LE.refl _, LE.refl _, LE.refl _, LE.refl _, trivial⟩⟩)), trivial⟩) rfl, goL ?_⟩;refine ⟨_, aq (n := 3) rfl (by decide), goL ?_⟩;refine ⟨⟨3, by decide⟩, ?_, (by decide : 5 - 3 < 5 - 2)⟩;exact Ge.go
     | 3, hi =>
      refine goL ?_;refine ⟨Int.natCast_nonneg _, _, rfl, rfl, rfl, goL ?_⟩;refine ac.go (gn [(2000, 9)]) (tY (at_ t.kids 1) ⟨(aN (at_ t.kids 1)).client, (aN (at_ t.kids 1)).nonce, (aN (at_ t.kids 1)).done, aD, 0⟩ (by omega)) (goL ?_);refine ⟨_, aq (n := 4) rfl (by decide), goL ?_⟩;refine ⟨⟨4, by decide⟩, ?_, (by decide : 5 - 4 < 5 - 3)⟩;exact Ge.go
     | 4, hi =>
      refine goL ?_;refine ⟨Int.natCast_nonneg _, _, rfl, rfl, rfl, goL ?_⟩;refine ac.go (gn [(2000, 9)]) (Bu (at_ t.kids 1) ⟨(aN (at_ t.kids 1)).client, (aN (at_ t.kids 1)).nonce, (aN (at_ t.kids 1)).done, (aN (at_ t.kids 1)).secret, 0⟩ (by omega) hn5) (goL ?_);refine ⟨_, aq (n := 5) rfl (by decide), goL ?_⟩;refine ⟨⟨5, by decide⟩, ?_, (by decide : 5 - 5 < 5 - 4)⟩;exact Ge.go
     | 5, hi =>
      have hsm := cy true (dv key (aN (at_ t.kids 1))) hsf t;refine goL ?_;refine cC hs (goL ?_);refine cC hsm (goL ?_);refine aa ?_ ?_ <;> intro h8
      ·have h8 : ¬ dv key (aN (at_ t.kids 1)) = t := by simpa using h8
       rw [if_neg h8];refine goL ?_;exact ⟨jX, LEP.refl _, trivial⟩
      ·have h8 : dv key (aN (at_ t.kids 1)) = t := by simpa using h8
       rw [if_pos h8];refine goL ?_;refine aa ?_ ?_ <;> intro h9
       ·have h9 : (aN (at_ t.kids 1)).til < now := of_decide_eq_true h9;rw [if_pos h9];refine goL ?_;exact ⟨jX, LEP.refl _, trivial⟩
       ·have h9 : ¬ (aN (at_ t.kids 1)).til < now := of_decide_eq_false h9;rw [if_neg h9];refine goL ?_;exact ⟨LEP.refl _, LEP.refl _, trivial⟩
     | n + 6, hi => exact absurd hi (by omega)
    ·rw [if_neg h4];refine pcv { own := oO [100048], fz := fun r => cond (Nat.beq r 14) [1001] [] } Tryz.func84 ?_;refine goL ?_;refine cC hr (goL ?_);refine aa ?_ ?_ <;> intro h5
     ·exact absurd h2 (of_decide_eq_true h5)
     refine goL ?_;refine ⟨_, ap (l := t.kids) (i := 0) (by omega), rfl, rfl, goL ?_⟩;refine cC (cy true (at_ t.kids 0) (aE _ hw0) key) (goL ?_);refine aa ?_ ?_ <;> intro h6
     ·exact absurd h3 (by simpa using h6)
     refine goL ?_;refine ⟨_, ap (l := t.kids) (i := 1) (by omega), rfl, rfl, goL ?_⟩;refine aa ?_ ?_ <;> intro h7
     ·refine goL ?_;exact ⟨jX, LEP.refl _, trivial⟩
     ·exact absurd (by have h7 := of_decide_eq_false h7; rw [ab] at h7; omega) h4
   ·rw [if_neg h3];refine pcv { own := oO [100048], fz := fun r => cond (Nat.beq r 14) [1001] [] } Tryz.func84 ?_;refine goL ?_;refine cC hr (goL ?_);refine aa ?_ ?_ <;> intro h5
    ·exact absurd h2 (of_decide_eq_true h5)
    refine goL ?_;refine ⟨_, ap (l := t.kids) (i := 0) (by omega), rfl, rfl, goL ?_⟩;refine cC (cy true (at_ t.kids 0) (aE _ hw0) key) (goL ?_);refine aa ?_ ?_ <;> intro h6
    ·refine goL ?_;exact ⟨jX, LEP.refl _, trivial⟩
    ·exact absurd (by simpa using h6) h3
  ·rw [if_neg (fun h => h2 h.2)];rw [h1] at hr;refine pcv { own := oO [100048], fz := fun r => cond (Nat.beq r 14) [1001] [] } Tryz.func84 ?_;refine goL ?_;refine cC hr (goL ?_);refine aa ?_ ?_ <;> intro h3
   ·refine goL ?_;exact ⟨jX, LEP.refl _, trivial⟩
   ·exact absurd (by simpa using h3) h2
 ·have h1 : cd t = false := by simpa using h1
  rw [if_neg (fun h => by rw [h1] at h; cases h.1)];rw [h1] at hr;refine pcv { own := oO [100048], fz := fun r => cond (Nat.beq r 14) [1001] [] } Tryz.func84 ?_;refine goL ?_;refine cC hr (goL ?_);exact ⟨jX, LEP.refl _, trivial⟩
end Go.Sl
namespace Go.Sl
open Go Go.Vc Go.Proofs Go.RowKit
abbrev aX (zs : List Int) : List PV := zs.map (.int .i64)
theorem bC (zs : List Int) : (aX zs).length = zs.length := List.length_map ..
theorem gh {zs : List Int} {i : Nat} (h : i < zs.length) : (aX zs)[((i : Nat) : Int).toNat]? = some (.int .i64 zs[i]) := by
 show (List.map _ zs)[i]? = _;rw [List.getElem?_map, List.getElem?_eq_getElem h]; rfl
theorem El (zs : List Int) : gm (false, 1) (aX zs) := by
 induction zs with
 | nil => trivial
 | cons z zs ih => exact ⟨rfl, ih⟩
abbrev clA (a b : Int) : List (Nat × AO) := [(2101, .var false 3 (.p (.int .i64 a))), (2102, .var false 3 (.p (.int .i64 b)))]
abbrev clB (l : List Tm) (t : Tm) : List (Nat × AO) := [(2101, .var false 24 (.p (.lst (af l)))), (2102, .var false 26 (tv t))]
def iX (p : Int -> Bool) (zs : List Int) : Int := if zs.any p then (((zs.takeWhile fun z => !p z).length : Nat) : Int) else -1
theorem xv {p : Int -> Bool} {zs : List Int} {i : Nat} (hi : i < zs.length) (h : ∀ z ∈ zs.take i, p z = false) (hp : p zs[i] = true) : (zs.takeWhile fun z => !p z) = zs.take i := by
 induction zs generalizing i with
 | nil => simp at hi
 | cons z zs ih =>
  cases i with
  | zero => simp only [List.getElem_cons_zero] at hp; simp [List.takeWhile, hp]
  | succ i =>
   have h0 := h z (by simp);have := ih (i := i) (by simpa using hi) (fun u hu => h u (by simp [hu])) (by simpa using hp);rw [List.takeWhile_cons];simp [h0, this]
theorem yF (f : Nat) (a b : Int) (p : Int -> Bool) (zs : List Int) (hz : zs.length <= 1000000)
  (hp : ∀ z ∈ zs, PM (cx true) f (clA a b) [iv z, .ptr 2101 0, .ptr 2102 0] [] (.p (.bool (p z)))) :
  PM (cx true) 215 (clA a b ++ [(2103, .row 3 1 (aX zs))]) [.slc 2103, .fn f [.ptr 2101 0, .ptr 2102 0]] [(2103, .row 3 1 (aX zs))] (iv (iX p zs)) := by
 refine pmv { own := oO [100016] } Tryz.func215 ?_;refine goL ?_;refine ⟨{ i : Rd zs.length // ∀ z ∈ zs.take i.1, p z = false }, fun i => Vc.S.of [(0, .slc 2103), (1, .fn f [.ptr 2101 0, .ptr 2102 0]), (7, iv ((aX zs).length : Int)), (8, iv (i.1.1 : Int))] (clA a b ++ [(2103, .row 3 1 (aX zs))]), fun i => zs.length - i.1.1, ⟨Rd.zero _, by simp [Rd.zero]⟩, ?_, ?_⟩
 ·exact Ge.go
 rintro ⟨⟨i, hi⟩, hno⟩
 refine goL ?_;refine aa ?_ ?_ <;> intro h1
 ·have hlt : i < zs.length := by have := of_decide_eq_true h1; rw [bC] at this; exact Int.ofNat_lt.1 this
  refine goL ?_;refine ⟨Int.natCast_nonneg _, by rw [bC]; exact hlt, goL ?_⟩;refine ⟨_, gh hlt, rfl, rfl, rfl, goL ?_⟩;refine ac.go gI (hp zs[i] (List.getElem_mem hlt)) (goL ?_);refine aa ?_ ?_ <;> intro h2
  ·have hany : zs.any p = true := List.any_eq_true.2 ⟨_, List.getElem_mem hlt, h2⟩;have hix : iX p zs = (i : Int) := by
    rw [iX, if_pos hany, xv hlt hno h2, List.length_take, Nat.min_eq_left hi]
   refine goL ?_;exact rR gI ⟨rfl, LE.of (by rw [hix]; rfl)⟩
  ·refine goL ?_;refine ⟨_, aq (n := i + 1) rfl (by omega), goL ?_⟩;refine ⟨⟨⟨i + 1, hlt⟩, ?_⟩, ?_, by show zs.length - (i + 1) < zs.length - i; omega⟩
   ·intro t ht;rw [List.take_succ_eq_append_getElem hlt, List.mem_append, List.mem_singleton] at ht;rcases ht with ht | rfl
    ·exact hno t ht
    ·exact h2
   ·exact Ge.go
 ·have hge : zs.take i = zs := by have := of_decide_eq_false h1; rw [bC] at this; have h2 : ¬ ((i : Int) < zs.length) := this; exact List.take_of_length_le (by omega)
  have hno' : ∀ z ∈ zs, p z = false := fun z hz => hno z (by rw [hge]; exact hz)
  have hany : zs.any p = false := by
   rw [<- Bool.not_eq_true, List.any_eq_true]
   rintro ⟨z, hz, h2⟩
   rw [hno' z hz] at h2;cases h2
  have hix : iX p zs = -1 := by rw [iX, hany]; rfl
  refine goL ?_;exact rR gI ⟨rfl, LE.of (by rw [hix]; rfl)⟩
theorem yG (f : Nat) (l : List Tm) (t : Tm) (p : Int -> Bool) (zs : List Int) (hz : zs.length <= 1000000)
  (hp : ∀ z ∈ zs, PM (cx true) f (clB l t) [iv z, .ptr 2101 0, .ptr 2102 0] [] (.p (.bool (p z)))) :
  PM (cx true) 215 (clB l t ++ [(2103, .row 3 1 (aX zs))]) [.slc 2103, .fn f [.ptr 2101 0, .ptr 2102 0]] [(2103, .row 3 1 (aX zs))] (iv (iX p zs)) := by
 refine pmv { own := oO [100016] } Tryz.func215 ?_;refine goL ?_;refine ⟨{ i : Rd zs.length // ∀ z ∈ zs.take i.1, p z = false }, fun i => Vc.S.of [(0, .slc 2103), (1, .fn f [.ptr 2101 0, .ptr 2102 0]), (7, iv ((aX zs).length : Int)), (8, iv (i.1.1 : Int))] (clB l t ++ [(2103, .row 3 1 (aX zs))]), fun i => zs.length - i.1.1, ⟨Rd.zero _, by simp [Rd.zero]⟩, ?_, ?_⟩
 ·exact Ge.go
 rintro ⟨⟨i, hi⟩, hno⟩
 refine goL ?_;refine aa ?_ ?_ <;> intro h1
 ·have hlt : i < zs.length := by have := of_decide_eq_true h1; rw [bC] at this; exact Int.ofNat_lt.1 this
  refine goL ?_;refine ⟨Int.natCast_nonneg _, by rw [bC]; exact hlt, goL ?_⟩;refine ⟨_, gh hlt, rfl, rfl, rfl, goL ?_⟩;refine ac.go gI (hp zs[i] (List.getElem_mem hlt)) (goL ?_);refine aa ?_ ?_ <;> intro h2
  ·have hany : zs.any p = true := List.any_eq_true.2 ⟨_, List.getElem_mem hlt, h2⟩;have hix : iX p zs = (i : Int) := by
    rw [iX, if_pos hany, xv hlt hno h2, List.length_take, Nat.min_eq_left hi]
   refine goL ?_;exact rR gI ⟨rfl, LE.of (by rw [hix]; rfl)⟩
  ·refine goL ?_;refine ⟨_, aq (n := i + 1) rfl (by omega), goL ?_⟩;refine ⟨⟨⟨i + 1, hlt⟩, ?_⟩, ?_, by show zs.length - (i + 1) < zs.length - i; omega⟩
   ·intro t ht;rw [List.take_succ_eq_append_getElem hlt, List.mem_append, List.mem_singleton] at ht;rcases ht with ht | rfl
    ·exact hno t ht
    ·exact h2
   ·exact Ge.go
 ·have hge : zs.take i = zs := by have := of_decide_eq_false h1; rw [bC] at this; have h2 : ¬ ((i : Int) < zs.length) := this; exact List.take_of_length_le (by omega)
  have hno' : ∀ z ∈ zs, p z = false := fun z hz => hno z (by rw [hge]; exact hz)
  have hany : zs.any p = false := by
   rw [<- Bool.not_eq_true, List.any_eq_true]
   rintro ⟨z, hz, h2⟩
   rw [hno' z hz] at h2;cases h2
  have hix : iX p zs = -1 := by rw [iX, hany]; rfl
  refine goL ?_;exact rR gI ⟨rfl, LE.of (by rw [hix]; rfl)⟩
structure Dl (p : Int -> Bool) (zs : List Int) where
 i : Nat
 j : Nat
 M : List Int
 hl : M.length = zs.length
 hij : i < j
 hj : j <= zs.length
 ht : M.take i = (zs.take j).filter fun z => !p z
 hd : M.drop j = zs.drop j
theorem Dl.get {p : Int -> Bool} {zs : List Int} (d : Dl p zs) (h : d.j < zs.length) : d.M[d.j]'(by rw [d.hl]; exact h) = zs[d.j] := by
 have h1 : (d.M.drop d.j)[0]? = (zs.drop d.j)[0]? := by rw [d.hd]
 rw [List.getElem?_drop, List.getElem?_drop, Nat.add_zero, List.getElem?_eq_getElem h, List.getElem?_eq_getElem (by rw [d.hl]; exact h)] at h1;exact Option.some.inj h1
def Dl.keep {p : Int -> Bool} {zs : List Int} (d : Dl p zs) (h : d.j < zs.length) (hp : p zs[d.j] = false) : Dl p zs where
 i := d.i + 1
 j := d.j + 1
 M := d.M.set d.i zs[d.j]
 hl := by rw [List.length_set]; exact d.hl
 hij := Nat.succ_lt_succ d.hij
 hj := h
 ht := by
  have h1 : d.i < (d.M.set d.i zs[d.j]).length := by rw [List.length_set, d.hl]; have := d.hij; omega
  rw [List.take_succ_eq_append_getElem h1, List.getElem_set_self, List.take_set_of_le (Nat.le_refl _), d.ht, List.take_succ_eq_append_getElem h, List.filter_append];simp [hp]
 hd := by
  rw [List.drop_set_of_lt (by have := d.hij; omega)];have := congrArg (List.drop 1) d.hd
  rwa [List.drop_drop, List.drop_drop] at this
def Dl.skip {p : Int -> Bool} {zs : List Int} (d : Dl p zs) (h : d.j < zs.length) (hp : p zs[d.j] = true) : Dl p zs where
 i := d.i
 j := d.j + 1
 M := d.M
 hl := d.hl
 hij := Nat.lt_succ_of_lt d.hij
 hj := h
 ht := by
  rw [d.ht, List.take_succ_eq_append_getElem h, List.filter_append];simp [hp]
 hd := by
  have := congrArg (List.drop 1) d.hd
  rwa [List.drop_drop, List.drop_drop] at this
def Dl.start {p : Int -> Bool} {zs : List Int} (h : zs.any p = true) : Dl p zs where
 i := (zs.takeWhile fun z => !p z).length
 j := (zs.takeWhile fun z => !p z).length + 1
 M := zs
 hl := rfl
 hij := Nat.lt_succ_self _
 hj := by
  obtain ⟨z, hz, h2⟩ := List.any_eq_true.1 h;have h3 : (zs.takeWhile fun z => !p z).length ≠ zs.length := by
   intro e;have h4 : (zs.takeWhile fun z => !p z) = zs := (List.takeWhile_prefix _).eq_of_length e;have := List.all_eq_true.1 (List.all_takeWhile (p := fun z => !p z) (l := zs)) z (by rw [h4]; exact hz);rw [h2] at this;cases this
  have h5 := (List.takeWhile_prefix (l := zs) (fun z => !p z)).length_le;omega
 ht := by
  have h1 : ∀ l : List Int, ∃ r, l = (l.takeWhile fun z => !p z) ++ r /\ ∀ z r', r = z :: r' -> p z = true := by
   intro l
   induction l with
   | nil => exact ⟨[], rfl, by intro z r' h; cases h⟩
   | cons u l ih =>
    cases e : p u with
    | true => exact ⟨u :: l, by simp [List.takeWhile, e], by intro z r' h; cases h; exact e⟩
    | false =>
     obtain ⟨r, h1, h2⟩ := ih;exact ⟨r, by rw [List.takeWhile_cons]; simp only [e, Bool.not_false, if_true, List.cons_append]; rw [<- h1], h2⟩
  obtain ⟨r, h2, h3⟩ := h1 zs;have h4 : ∀ z ∈ (zs.takeWhile fun z => !p z), (!p z) = true := fun z hz => List.all_eq_true.1 (List.all_takeWhile (p := fun z => !p z) (l := zs)) z hz
  generalize hT : (zs.takeWhile fun z => !p z) = T at h2 h4 ⊢;rw [h2, List.take_append_of_le_length (Nat.le_refl _), List.take_length, List.take_append, List.take_of_length_le (by omega), show T.length + 1 - T.length = 1 by omega, List.filter_append, List.filter_eq_self.2 h4];cases r with
  | nil => simp
  | cons u r =>
   have := h3 u r rfl;simp [this]
 hd := rfl
theorem v9 (f : Nat) (a b : Int) (p : Int -> Bool) (zs : List Int) (hz : zs.length <= 1000000)
  (hp : ∀ z ∈ zs, PM (cx true) f (clA a b) [iv z, .ptr 2101 0, .ptr 2102 0] [] (.p (.bool (p z)))) :
  PM (cx true) 182 (clA a b ++ [(1001, .row 3 1 (aX zs))]) [.slc 1001, .fn f [.ptr 2101 0, .ptr 2102 0]] [(1001, .row 3 1 (aX (zs.filter fun z => !p z)))] (.slc 1001) := by
 have hI := yF f a b p zs hz hp;cases hany : zs.any p with
 | false =>
  have hix : iX p zs = -1 := by rw [iX, hany]; rfl
  have hfil : (zs.filter fun z => !p z) = zs := List.filter_eq_self.2 fun z hz => by
   cases e : p z with
   | false => rfl
   | true => rw [List.any_eq_true.2 ⟨z, hz, e⟩] at hany; cases hany
  rw [hix] at hI;rw [hfil];refine pmv { own := oO [100010, 100028, 500038, 500041] } Tryz.func182 ?_;refine goL ?_;refine ac.go (gn [(2103, 1001)]) hI (goL ?_);exact rR gI
 | true =>
  have hix : iX p zs = (((Dl.start hany).i : Nat) : Int) := by rw [iX, if_pos hany]; rfl
  have hst := (Dl.start hany).hij;have hsj := (Dl.start hany).hj;have hsi : (Dl.start hany).j = (Dl.start hany).i + 1 := rfl;rw [hix] at hI;refine pmv { own := oO [100010, 100028, 500038, 500041] } Tryz.func182 ?_;refine goL ?_;refine ac.go (gn [(2103, 1001)]) hI (goL ?_);refine ⟨_, aq (n := (Dl.start hany).j) (by rw [hsi]; rfl) (by omega), goL ?_⟩;refine ⟨Dl p zs, fun d => Vc.S.of [(0, .slc 1001), (1, .fn f [.ptr 2101 0, .ptr 2102 0]), (5, iv (d.i : Int)), (6, iv (d.j : Int))] (clA a b ++ [(1001, .row 3 1 (aX d.M))]), fun d => zs.length - d.j, Dl.start hany, ?_, ?_⟩
  ·exact Ge.go
  intro d;have dl := d.hl;have dij := d.hij;have dj := d.hj;have hlen : (aX d.M).length = zs.length := by rw [bC, dl]
  refine goL ?_;refine aa ?_ ?_ <;> intro h2
  ·have hlt : d.j < zs.length := by have := of_decide_eq_true h2; rw [hlen] at this; exact Int.ofNat_lt.1 this
   have hg : (aX d.M)[((d.j : Nat) : Int).toNat]? = some (.int .i64 zs[d.j]) := by
    rw [gh (zs := d.M) (by omega), d.get hlt]
   refine goL ?_;refine ⟨Int.natCast_nonneg _, by rw [hlen]; exact hlt, goL ?_⟩;refine ⟨_, hg, rfl, rfl, rfl, goL ?_⟩;refine ac.go gI (hp zs[d.j] (List.getElem_mem hlt)) (goL ?_);refine aa ?_ ?_ <;> intro h3
   ·have h3 : p zs[d.j] = false := by have h3 : (!p zs[d.j]) = true := h3; revert h3; cases p zs[d.j] <;> simp
    have hset : (aX d.M).set d.i (.int .i64 zs[d.j]) = aX (d.keep hlt h3).M := by
     show _ = aX (d.M.set d.i zs[d.j]);rw [aX, aX, List.map_set]
    refine goL ?_;refine ⟨Int.natCast_nonneg _, by rw [hlen]; omega, goL ?_⟩;refine ⟨by rw [hlen]; show d.i < _; omega, rfl, rfl, rfl, goL ?_⟩;refine ⟨_, aq (n := d.i + 1) rfl (by omega), goL ?_⟩;refine ⟨_, aq (n := d.j + 1) rfl (by omega), goL ?_⟩;refine ⟨d.keep hlt h3, ?_, by show zs.length - (d.j + 1) < zs.length - d.j; omega⟩;refine Ge.of rfl ?_ ?_
    ·repeat (conv => whnf); refine ⟨LE.of rfl, ?_⟩
     trivial
    ·conv => whnf
     refine ⟨OLE.of rfl, ?_⟩
     conv => whnf
     refine ⟨OLE.of rfl, ?_⟩
     conv => whnf
     refine ⟨OLE.of (congrArg (AO.row 3 1) hset), ?_⟩;trivial
   ·have h3 : p zs[d.j] = true := by have h3 : (!p zs[d.j]) = false := h3; revert h3; cases p zs[d.j] <;> simp
    refine goL ?_;refine ⟨_, aq (n := d.j + 1) rfl (by omega), goL ?_⟩;refine ⟨d.skip hlt h3, ?_, by show zs.length - (d.j + 1) < zs.length - d.j; omega⟩;exact Ge.go
  ·have hge : d.j = zs.length := by have h2 := of_decide_eq_false h2; rw [hlen] at h2; have h2 : ¬ ((d.j : Int) < zs.length) := h2; omega
   have hfil : d.M.take d.i = zs.filter fun z => !p z := by rw [d.ht, hge, List.take_length]
   have hrow : ((aX d.M).take d.i ++ List.replicate ((aX d.M).length - d.i) (PV.int .i64 0)).take d.i = aX (zs.filter fun z => !p z) := by
    rw [List.take_append_of_le_length (by rw [List.length_take, hlen]; omega), List.take_take, Nat.min_self, <- hfil, aX, aX, List.map_take]
   refine goL ?_;refine ⟨by rw [hlen]; omega, goL ?_⟩;refine ⟨Int.natCast_nonneg _, by rw [hlen]; show d.i < _; omega, goL ?_⟩;refine ⟨by rw [hlen]; show d.i < _; omega, goL ?_⟩;refine ⟨by rw [List.length_append, List.length_take, List.length_replicate, hlen]; omega, goL ?_⟩;refine ⟨Int.natCast_nonneg _, by rw [List.length_append, List.length_take, List.length_replicate, hlen]; show d.i <= _; omega, rfl, goL ?_⟩;exact rR gI (b := ⟨.inr (.inl (congrArg (AO.row 3 1) hrow)), trivial⟩)
theorem we (f : Nat) (l : List Tm) (t : Tm) (p : Int -> Bool) (zs : List Int) (hz : zs.length <= 1000000)
  (hp : ∀ z ∈ zs, PM (cx true) f (clB l t) [iv z, .ptr 2101 0, .ptr 2102 0] [] (.p (.bool (p z)))) :
  PM (cx true) 182 (clB l t ++ [(1001, .row 3 1 (aX zs))]) [.slc 1001, .fn f [.ptr 2101 0, .ptr 2102 0]] [(1001, .row 3 1 (aX (zs.filter fun z => !p z)))] (.slc 1001) := by
 have hI := yG f l t p zs hz hp;cases hany : zs.any p with
 | false =>
  have hix : iX p zs = -1 := by rw [iX, hany]; rfl
  have hfil : (zs.filter fun z => !p z) = zs := List.filter_eq_self.2 fun z hz => by
   cases e : p z with
   | false => rfl
   | true => rw [List.any_eq_true.2 ⟨z, hz, e⟩] at hany; cases hany
  rw [hix] at hI;rw [hfil];refine pmv { own := oO [100010, 100028, 500038, 500041] } Tryz.func182 ?_;refine goL ?_;refine ac.go (gn [(2103, 1001)]) hI (goL ?_);exact rR gI
 | true =>
  have hix : iX p zs = (((Dl.start hany).i : Nat) : Int) := by rw [iX, if_pos hany]; rfl
  have hst := (Dl.start hany).hij;have hsj := (Dl.start hany).hj;have hsi : (Dl.start hany).j = (Dl.start hany).i + 1 := rfl;rw [hix] at hI;refine pmv { own := oO [100010, 100028, 500038, 500041] } Tryz.func182 ?_;refine goL ?_;refine ac.go (gn [(2103, 1001)]) hI (goL ?_);refine ⟨_, aq (n := (Dl.start hany).j) (by rw [hsi]; rfl) (by omega), goL ?_⟩;refine ⟨Dl p zs, fun d => Vc.S.of [(0, .slc 1001), (1, .fn f [.ptr 2101 0, .ptr 2102 0]), (5, iv (d.i : Int)), (6, iv (d.j : Int))] (clB l t ++ [(1001, .row 3 1 (aX d.M))]), fun d => zs.length - d.j, Dl.start hany, ?_, ?_⟩
  ·exact Ge.go
  intro d;have dl := d.hl;have dij := d.hij;have dj := d.hj;have hlen : (aX d.M).length = zs.length := by rw [bC, dl]
  refine goL ?_;refine aa ?_ ?_ <;> intro h2
  ·have hlt : d.j < zs.length := by have := of_decide_eq_true h2; rw [hlen] at this; exact Int.ofNat_lt.1 this
   have hg : (aX d.M)[((d.j : Nat) : Int).toNat]? = some (.int .i64 zs[d.j]) := by
    rw [gh (zs := d.M) (by omega), d.get hlt]
   refine goL ?_;refine ⟨Int.natCast_nonneg _, by rw [hlen]; exact hlt, goL ?_⟩;refine ⟨_, hg, rfl, rfl, rfl, goL ?_⟩;refine ac.go gI (hp zs[d.j] (List.getElem_mem hlt)) (goL ?_);refine aa ?_ ?_ <;> intro h3
   ·have h3 : p zs[d.j] = false := by have h3 : (!p zs[d.j]) = true := h3; revert h3; cases p zs[d.j] <;> simp
    have hset : (aX d.M).set d.i (.int .i64 zs[d.j]) = aX (d.keep hlt h3).M := by
     show _ = aX (d.M.set d.i zs[d.j]);rw [aX, aX, List.map_set]
    refine goL ?_;refine ⟨Int.natCast_nonneg _, by rw [hlen]; omega, goL ?_⟩;refine ⟨by rw [hlen]; show d.i < _; omega, rfl, rfl, rfl, goL ?_⟩;refine ⟨_, aq (n := d.i + 1) rfl (by omega), goL ?_⟩;refine ⟨_, aq (n := d.j + 1) rfl (by omega), goL ?_⟩;refine ⟨d.keep hlt h3, ?_, by show zs.length - (d.j + 1) < zs.length - d.j; omega⟩;refine Ge.of rfl ?_ ?_
    ·repeat (conv => whnf); refine ⟨LE.of rfl, ?_⟩
     trivial
    ·conv => whnf
     refine ⟨OLE.of rfl, ?_⟩
     conv => whnf
     refine ⟨OLE.of rfl, ?_⟩
     conv => whnf
     refine ⟨OLE.of (congrArg (AO.row 3 1) hset), ?_⟩;trivial
   ·have h3 : p zs[d.j] = true := by have h3 : (!p zs[d.j]) = false := h3; revert h3; cases p zs[d.j] <;> simp
    refine goL ?_;refine ⟨_, aq (n := d.j + 1) rfl (by omega), goL ?_⟩;refine ⟨d.skip hlt h3, ?_, by show zs.length - (d.j + 1) < zs.length - d.j; omega⟩;exact Ge.go
  ·have hge : d.j = zs.length := by have h2 := of_decide_eq_false h2; rw [hlen] at h2; have h2 : ¬ ((d.j : Int) < zs.length) := h2; omega
   have hfil : d.M.take d.i = zs.filter fun z => !p z := by rw [d.ht, hge, List.take_length]
   have hrow : ((aX d.M).take d.i ++ List.replicate ((aX d.M).length - d.i) (PV.int .i64 0)).take d.i = aX (zs.filter fun z => !p z) := by
    rw [List.take_append_of_le_length (by rw [List.length_take, hlen]; omega), List.take_take, Nat.min_self, <- hfil, aX, aX, List.map_take]
   refine goL ?_;refine ⟨by rw [hlen]; omega, goL ?_⟩;refine ⟨Int.natCast_nonneg _, by rw [hlen]; show d.i < _; omega, goL ?_⟩;refine ⟨by rw [hlen]; show d.i < _; omega, goL ?_⟩;refine ⟨by rw [List.length_append, List.length_take, List.length_replicate, hlen]; omega, goL ?_⟩;refine ⟨Int.natCast_nonneg _, by rw [List.length_append, List.length_take, List.length_replicate, hlen]; show d.i <= _; omega, rfl, goL ?_⟩;exact rR gI (b := ⟨.inr (.inl (congrArg (AO.row 3 1) hrow)), trivial⟩)
end Go.Sl
