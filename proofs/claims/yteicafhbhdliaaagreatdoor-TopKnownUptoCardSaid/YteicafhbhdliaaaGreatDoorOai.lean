/- Part 9 of the proof: Fg Fh Fj Ka Ia Ib Ic. -/
import Derived.Test.YteicafhbhdliaaaGreatDoorOah
import Derived.Test.YteicafhbhdliaaaGreatDoorSi
set_option linter.unusedSimpArgs false
set_option linter.unusedVariables false
set_option maxHeartbeats 4000000
namespace Go.Sl
open Go Go.Vc Go.Proofs Go.RowKit Go.Sort Go.Lib
abbrev co : Bs := [104, 111, 115, 116]
abbrev cM : Bs := [97, 117, 116, 104]
abbrev dH : Bs := [97, 114, 109, 111, 114]
abbrev gc : Bs := [102, 97, 115, 116]
abbrev cz : Bs := [97, 110, 115, 119, 101, 114]
def bf (k : Tm) (n : Int) (t : Tm) : Tm := yk (er k mg n) t
def iE (k h : Tm) : Tm := bf k 2 (ay co [h])
def Bk (t h s : Tm) : Tm := ay dH [t, bf h 11 (ay cM [s])]
def oJ (k x p c : Tm) : Tm := bf k 51 (ay gc [bN x, p, c])
def kA (k : Tm) (n : Bs) (t : Tm) : Tm := bf k 52 (ay cz [bK (61 :: n), t])
abbrev aD : Tm := .mk 0 [] []
theorem fK (b : Bool) (k t : Tm) (n : Int) (h0 : -9223372036854775808 <= n) (h1 : n <= 9223372036854775807) : K b 76 [tv k, iv n, tv t] (.pv (TV (bf k n t))) := by
 refine pcv {} Tryz.func76 ?_;refine goL ?_;refine cC (mj b k n h0 h1) (goL ?_);refine cC (AR b _ t) (goL ?_);exact LEP.refl _
theorem jR (b : Bool) (k h : Tm) : K b 50 [tv k, tv h] (.pv (TV (iE k h))) := by
 refine pcv {} Tryz.func50 ?_;refine goL ?_;refine cC (bh b co _ [h] (dR h) (by simp)) (goL ?_);refine cC (fK b k _ 2 (by decide) (by decide)) (goL ?_);exact LEP.refl _
theorem Eg (b : Bool) (t h s : Tm) : K b 35 [tv t, tv h, tv s] (.pv (TV (Bk t h s))) := by
 refine pcv {} Tryz.func35 ?_;refine goL ?_;refine cC (bh b cM _ [s] (dR s) (by simp)) (goL ?_);refine cC (fK b h _ 11 (by decide) (by decide)) (goL ?_);refine cC (bh b dH _ [t, _] (cK t _) (by simp)) (goL ?_);exact LEP.refl _
theorem F4 (b : Bool) (k x p c : Tm) : K b 79 [tv k, tv x, tv p, tv c] (.pv (TV (oJ k x p c))) := by
 refine pcv {} Tryz.func79 ?_;refine goL ?_;refine cC (fH b x) (goL ?_);refine cC (bh b gc _ [_, p, c] (xf _ p c) (by simp)) (goL ?_);refine cC (fK b k _ 51 (by decide) (by decide)) (goL ?_);exact LEP.refl _
theorem rP (b : Bool) (k : Tm) (n : Bs) (t : Tm) (hn : n.length <= 9223372036854775800) : K b 91 [tv k, sv n, tv t] (.pv (TV (kA k n t))) := by
 refine pcv {} Tryz.func91 ?_;refine goL ?_;refine cC (fI b n hn) (goL ?_);refine cC (bh b cz _ [_, t] (cK _ t) (by simp)) (goL ?_);refine cC (fK b k _ 52 (by decide) (by decide)) (goL ?_);exact LEP.refl _
def aI (k : Tm) (n : Int) (t : Tm) : Tm × Int :=
 if h : t.kind = 4 /\ t.kids.length = 2 then (if t.kids[0]'(by omega) = er k mg n then (t.kids[1]'(by omega), 0) else (aD, 4)) else (aD, 2)
def tmR (x : Tm × Int) : Res := .tup [TV x.1, .int .i64 x.2]
theorem oK {k : Tm} {n : Int} {t : Tm} (h : ¬ (t.kind = 4 /\ t.kids.length = 2)) : aI k n t = (aD, 2) := dif_neg h
theorem vZ {k : Tm} {n : Int} {t : Tm} (h1 : t.kind = 4) (h2 : t.kids.length = 2) : aI k n t = if t.kids[0]'(by omega) = er k mg n then (t.kids[1]'(by omega), 0) else (aD, 4) := dif_pos ⟨h1, h2⟩
theorem jS (b : Bool) (k t : Tm) (n : Int) (h0 : -9223372036854775808 <= n) (h1 : n <= 9223372036854775807) (hf : Fit t) : K b 175 [tv k, iv n, tv t] (tmR (aI k n t)) := by
 refine pcv {} Tryz.func175 ?_;refine goL ?_;refine aa ?_ ?_ <;> intro h2
 ·have h2 : ¬ t.kind = 4 := of_decide_eq_true h2;rw [oK (fun h => h2 h.1)];refine goL ?_;exact ⟨aR 0 [], LEP.refl _, trivial⟩
 ·have h2 : t.kind = 4 := by simpa using h2
  refine goL ?_;refine aa ?_ ?_ <;> intro h3
  ·have h3 : ¬ t.kids.length = 2 := by have := of_decide_eq_true h3; rw [ab] at this; omega
   rw [oK (fun h => h3 h.2)];refine goL ?_;exact ⟨aR 0 [], LEP.refl _, trivial⟩
  ·have h3 : t.kids.length = 2 := by have := of_decide_eq_false h3; rw [ab] at this; omega
   have hl0 : 0 < t.kids.length := by omega
   have hl1 : 1 < t.kids.length := by omega
   rw [vZ h2 h3];refine goL ?_;refine ⟨TV t.kids[0], dm hl0, rfl, rfl, goL ?_⟩;refine cC (mj b k n h0 h1) (goL ?_);refine cC (cy b t.kids[0] (hf.kid (List.getElem_mem hl0)) _) (goL ?_);refine aa ?_ ?_ <;> intro h4
   ·have h4 : ¬ t.kids[0] = er k mg n := by simpa using h4
    rw [if_neg h4];refine goL ?_;exact ⟨aR 0 [], LEP.refl _, trivial⟩
   ·have h4 : t.kids[0] = er k mg n := by simpa using h4
    rw [if_pos h4];refine goL ?_;refine ⟨TV t.kids[1], dm hl1, rfl, rfl, goL ?_⟩;exact ⟨LEP.refl _, LEP.refl _, trivial⟩
def ax (k : Tm) (n : Int) (t : Tm) (tag : Bs) (m : Nat) : List Tm × Int :=
 if (aI k n t).2 ≠ 0 then ([], (aI k n t).2) else match ao tag m (aI k n t).1 with
  | none => ([], 2)
  | some l => (l, 0)
theorem Fit.zero : Fit aD := .mk (by decide) (by decide) (fun t h => by cases h)
theorem Fit.unshut {k t : Tm} {n : Int} (h : Fit t) : Fit (aI k n t).1 := by
 unfold aI;split
 ·split
  ·exact h.kid (List.getElem_mem _)
  ·exact Fit.zero
 ·exact Fit.zero
def lsR (x : List Tm × Int) : Res := .tup [.lst (af x.1), .int .i64 x.2]
theorem jT (b : Bool) (k t : Tm) (n : Int) (tag : Bs) (m : Nat) (h0 : -9223372036854775808 <= n) (h1 : n <= 9223372036854775807) (hm : m <= 1000) (hf : Fit t) : K b 129 [tv k, iv n, tv t, sv tag, iv m] (lsR (ax k n t tag m)) := by
 have hu := jS b k t n h0 h1 hf;have hfu : Fit (aI k n t).1 := hf.unshut;unfold ax;revert hu hfu;generalize aI k n t = y;obtain ⟨x, c⟩ := y;intro hu hfu;have hfu : Fit x := hfu;have hp := bD b tag m x hm hfu;refine pcv {} Tryz.func129 ?_;refine goL ?_;refine cC hu (goL ?_);refine aa ?_ ?_ <;> intro h2
 ·have h2 : c ≠ 0 := of_decide_eq_true h2;rw [if_pos h2];refine goL ?_;exact ⟨LEP.refl _, LEP.refl _, trivial⟩
 ·have h2 : c = 0 := by simpa using h2
  subst h2;cases e : ao tag m x with
  | none =>
   rw [e] at hp;refine goL ?_;refine cC hp (goL ?_);exact ⟨LEP.refl _, LEP.refl _, trivial⟩
  | some l =>
   rw [e] at hp;refine goL ?_;refine cC hp (goL ?_);exact ⟨LEP.refl _, LEP.refl _, trivial⟩
end Go.Sl
namespace Go.Sl
open Go Go.Vc Go.Proofs Go.RowKit Go.Sort Go.Lib
abbrev at_ (l : List Tm) (i : Nat) : Tm := l.getD i aD
theorem ap {l : List Tm} {i : Nat} (h : i < l.length) : (af l)[i]? = some (TV (at_ l i)) := by
 rw [dm h];simp [at_, h]
theorem aY {tag : Bs} {n : Nat} {t : Tm} {l : List Tm} (h : ao tag n t = some l) : l.length = n := by
 unfold ao at h;split at h
 ·cases h;rename_i h;simp [h.2.2]
 ·cases h
theorem fh {k : Tm} {n : Int} {t : Tm} {tag : Bs} {m : Nat} (h : (ax k n t tag m).2 = 0) : (ax k n t tag m).1.length = m := by
 unfold ax at h ⊢;split at h
 ·exact absurd h (by assumption)
 ·rename_i h2;rw [if_neg h2];split at h
  ·cases h
  ·rename_i l e;exact aY e
theorem Fit.unpack {tag : Bs} {n : Nat} {t : Tm} {l : List Tm} (hf : Fit t) (h : ao tag n t = some l) : ∀ u ∈ l, Fit u := by
 unfold ao at h;split at h
 ·cases h;exact fun u hu => hf.kid (List.mem_of_mem_drop hu)
 ·cases h
theorem Fit.sealed {k : Tm} {n : Int} {t : Tm} {tag : Bs} {m : Nat} (hf : Fit t) : ∀ u ∈ (ax k n t tag m).1, Fit u := by
 unfold ax;split
 ·intro u hu; cases hu
 ·split
  ·intro u hu; cases hu
  ·rename_i l e;exact hf.unshut.unpack e
theorem Fit.at_ {l : List Tm} (h : ∀ u ∈ l, Fit u) (i : Nat) : Fit (at_ l i) := by
 unfold Sl.at_;rw [List.getD_eq_getElem?_getD];cases e : l[i]? with
 | none => exact Fit.zero
 | some u => exact h u (List.mem_of_getElem? e)
def cV (k t : Tm) : Tm × Int :=
 match ao dH 2 t with
 | none => (aD, 2)
 | some l =>
  if (ax k 2 (at_ l 0) co 1).2 ≠ 0 then (aD, (ax k 2 (at_ l 0) co 1).2) else
  if (ax (at_ (ax k 2 (at_ l 0) co 1).1 0) 11 (at_ l 1) cM 1).2 ≠ 0 then (aD, (ax (at_ (ax k 2 (at_ l 0) co 1).1 0) 11 (at_ l 1) cM 1).2) else
  (db (at_ (ax (at_ (ax k 2 (at_ l 0) co 1).1 0) 11 (at_ l 1) cM 1).1 0) (at_ (ax k 2 (at_ l 0) co 1).1 0) mh hY, 0)
def bn (k : Tm) (n : Bs) (t : Tm) : Tm × Int :=
 if (ax k 52 t cz 2).2 ≠ 0 then (aD, (ax k 52 t cz 2).2) else
 if at_ (ax k 52 t cz 2).1 0 ≠ bK (61 :: n) then (aD, 6) else (at_ (ax k 52 t cz 2).1 1, 0)
theorem Eh (b : Bool) (k t : Tm) (hf : Fit t) : K b 82 [tv k, tv t] (tmR (cV k t)) := by
 have hu := bD b dH 2 t (by decide) hf;unfold cV;cases e : ao dH 2 t with
 | none =>
  rw [e] at hu;refine pcv {} Tryz.func82 ?_;refine goL ?_;refine cC hu (goL ?_);exact ⟨aR 0 [], LEP.refl _, trivial⟩
 | some l =>
  rw [e] at hu;have hl := aY e;have hfl := hf.unpack e;have hs1 := jT b k (at_ l 0) 2 co 1 (by decide) (by decide) (by decide) (Fit.at_ hfl 0);have hc1 : (ax k 2 (at_ l 0) co 1).2 = 0 -> (ax k 2 (at_ l 0) co 1).1.length = 1 := fh;show K b _ _ (tmR (if (ax k 2 (at_ l 0) co 1).2 ≠ 0 then _ else _));revert hs1 hc1;generalize ax k 2 (at_ l 0) co 1 = y;obtain ⟨m, c⟩ := y;intro hs1 hc1;have hs2 := jT b (at_ m 0) (at_ l 1) 11 cM 1 (by decide) (by decide) (by decide) (Fit.at_ hfl 1);have hc2 : (ax (at_ m 0) 11 (at_ l 1) cM 1).2 = 0 -> (ax (at_ m 0) 11 (at_ l 1) cM 1).1.length = 1 := fh;revert hs2 hc2;show _ -> _ -> K b _ _ (tmR (if c ≠ 0 then (aD, c) else if (ax (at_ m 0) 11 (at_ l 1) cM 1).2 ≠ 0 then (aD, (ax (at_ m 0) 11 (at_ l 1) cM 1).2) else (db (at_ (ax (at_ m 0) 11 (at_ l 1) cM 1).1 0) (at_ m 0) mh hY, 0)));generalize ax (at_ m 0) 11 (at_ l 1) cM 1 = z;obtain ⟨m', c'⟩ := z;intro hs2 hc2;refine pcv {} Tryz.func82 ?_
  refine goL ?_;refine cC hu (goL ?_);refine ⟨_, ap (l := l) (i := 0) (by omega), rfl, rfl, goL ?_⟩;refine cC hs1 (goL ?_);refine aa ?_ ?_ <;> intro h1
  ·have h1 : c ≠ 0 := of_decide_eq_true h1;rw [if_pos h1];refine goL ?_;exact ⟨aR 0 [], LEP.refl _, trivial⟩
  ·have h1 : c = 0 := by simpa using h1
   subst h1;have hm : m.length = 1 := hc1 rfl;refine goL ?_;refine ⟨_, ap (i := 0) (by omega), rfl, rfl, goL ?_⟩;refine ⟨_, ap (l := l) (i := 1) (by omega), rfl, rfl, goL ?_⟩;refine cC hs2 (goL ?_);refine aa ?_ ?_ <;> intro h2
   ·have h2 : c' ≠ 0 := of_decide_eq_true h2;rw [if_neg (by simp), if_pos h2];refine goL ?_;exact ⟨aR 0 [], LEP.refl _, trivial⟩
   ·have h2 : c' = 0 := by simpa using h2
    subst h2;have hm' : m'.length = 1 := hc2 rfl;rw [if_neg (by simp), if_neg (by simp)];refine goL ?_;refine ⟨_, ap (i := 0) (by omega), rfl, rfl, goL ?_⟩;refine ⟨_, ap (i := 0) (by omega), rfl, rfl, goL ?_⟩;refine cC (tP b (at_ m' 0) (at_ m 0)) (goL ?_);exact ⟨LEP.refl _, LEP.refl _, trivial⟩
theorem tQ (b : Bool) (k t : Tm) (n : Bs) (hn : n.length <= 9223372036854775800) (hf : Fit t) : K b 163 [tv k, sv n, tv t] (tmR (bn k n t)) := by
 have hs := jT b k t 52 cz 2 (by decide) (by decide) (by decide) hf;have hfl : ∀ u ∈ (ax k 52 t cz 2).1, Fit u := hf.sealed;have hc : (ax k 52 t cz 2).2 = 0 -> (ax k 52 t cz 2).1.length = 2 := fh;unfold bn;revert hs hc hfl;generalize ax k 52 t cz 2 = y;obtain ⟨m, c⟩ := y;intro hs hfl hc;refine pcv {} Tryz.func163 ?_;refine goL ?_;refine cC hs (goL ?_);refine aa ?_ ?_ <;> intro h1
 ·have h1 : c ≠ 0 := of_decide_eq_true h1;rw [if_pos h1];refine goL ?_;exact ⟨aR 0 [], LEP.refl _, trivial⟩
 ·have h1 : c = 0 := by simpa using h1
  subst h1;have hm : m.length = 2 := hc rfl;refine goL ?_;refine ⟨_, ap (i := 0) (by omega), rfl, rfl, goL ?_⟩;refine cC (fI b n hn) (goL ?_);refine cC (cy b (at_ m 0) (Fit.at_ hfl 0) _) (goL ?_);refine aa ?_ ?_ <;> intro h2
  ·have h2 : at_ m 0 ≠ bK (61 :: n) := by simpa using h2
   rw [if_neg (by simp), if_pos h2];refine goL ?_;exact ⟨aR 0 [], LEP.refl _, trivial⟩
  ·have h2 : at_ m 0 = bK (61 :: n) := by simpa using h2
   rw [if_neg (by simp), if_neg (by simpa using h2)];refine goL ?_;refine ⟨_, ap (i := 1) (by omega), rfl, rfl, goL ?_⟩;exact ⟨LEP.refl _, LEP.refl _, trivial⟩
end Go.Sl
namespace Go.Sl
open Go Go.Vc Go.Proofs Go.RowKit Go.Sort Go.Lib
def bT (k x t : Tm) : Tm × Tm × Int :=
 if (ax k 51 t gc 3).2 ≠ 0 then (aD, aD, (ax k 51 t gc 3).2) else
 if at_ (ax k 51 t gc 3).1 0 ≠ bN x then (aD, aD, 6) else (at_ (ax k 51 t gc 3).1 1, at_ (ax k 51 t gc 3).1 2, 0)
def ID (x : Tm × Tm × Int) : Res := .tup [TV x.1, TV x.2.1, .int .i64 x.2.2]
theorem Bl (b : Bool) (k x t : Tm) (hf : Fit t) : K b 83 [tv k, tv x, tv t] (ID (bT k x t)) := by
 have hs := jT b k t 51 gc 3 (by decide) (by decide) (by decide) hf;have hfl : ∀ u ∈ (ax k 51 t gc 3).1, Fit u := hf.sealed;have hc : (ax k 51 t gc 3).2 = 0 -> (ax k 51 t gc 3).1.length = 3 := fh;unfold bT;revert hs hc hfl;generalize ax k 51 t gc 3 = y;obtain ⟨m, c⟩ := y;intro hs hfl hc;refine pcv { ps := psT [(3, [6, 7]), (5, [6, 7]), (6, [6, 7])] } Tryz.func83 ?_;refine goL ?_;refine cC hs (goL ?_);refine aa ?_ ?_ <;> intro h1
 ·have h1 : c ≠ 0 := of_decide_eq_true h1;rw [if_pos h1];refine goL ?_;exact ⟨aR 0 [], aR 0 [], LEP.refl _, trivial⟩
 ·have h1 : c = 0 := by simpa using h1
  subst h1;have hm : m.length = 3 := hc rfl;refine goL ?_;refine ⟨_, ap (i := 0) (by omega), rfl, rfl, goL ?_⟩;refine cC (fH b x) (goL ?_);refine cC (cy b (at_ m 0) (Fit.at_ hfl 0) _) (goL ?_);refine aa ?_ ?_ <;> intro h2
  ·have h2 : at_ m 0 ≠ bN x := by simpa using h2
   rw [if_neg (by simp), if_pos h2];refine goL ?_;exact ⟨aR 0 [], aR 0 [], LEP.refl _, trivial⟩
  ·have h2 : at_ m 0 = bN x := by simpa using h2
   rw [if_neg (by simp), if_neg (by simpa using h2)];refine goL ?_;refine ⟨_, ap (i := 1) (by omega), rfl, rfl, goL ?_⟩;refine ⟨_, ap (i := 2) (by omega), rfl, rfl, goL ?_⟩;exact ⟨LEP.refl _, LEP.refl _, LEP.refl _, trivial⟩
end Go.Sl
namespace Go.Sl
open Go Go.Vc Go.Proofs Go.RowKit
def kB : Bs := [111, 116, 112]
def gF : Bs := [119, 111, 114, 100]
def oL : Bs := [108, 111, 110, 103, 32]
def rQ : Bs := [115, 116, 114, 101, 110, 103, 116, 104, 101, 110, 107, 101, 121]
def rS : Bs := [114, 101, 112, 108, 121, 107, 101, 121]
theorem mm (b : Bool) (k : Tm) (n : Int) (h0 : -9223372036854775808 <= n) (h1 : n <= 9223372036854775807) : K b 185 [tv k, iv n] (.pv (TV (er k kB n))) := by
 refine pcv {} Tryz.func185 ?_;refine goL ?_;refine cC (m8 b k kB n (by decide) h0 h1) (goL ?_);exact LEP.refl _
theorem kC (b : Bool) (k : Tm) : K b 179 [tv k] (.pv (TV (jp k gF))) := by
 refine pcv {} Tryz.func179 ?_;refine goL ?_;refine cC (ox b k gF) (goL ?_);exact LEP.refl _
theorem iF (b : Bool) (k : Tm) (s : Bs) (hs : s.length <= 1000000000) : K b 31 [tv k, sv s] (.pv (TV (jp k (oL ++ s)))) := by
 refine pcv {} Tryz.func31 ?_;refine goL ?_;refine ⟨by show 5 + s.length <= _; omega, goL ?_⟩;refine cC (ox b k (oL ++ s)) (goL ?_);exact LEP.refl _
theorem tR (b : Bool) (x y : Tm) : K b 102 [tv x, tv y] (.pv (TV (db x y rQ rS))) := by
 refine pcv {} Tryz.func102 ?_;refine goL ?_;refine cC (rN b x y rQ rS (by decide) (by decide)) (goL ?_);exact LEP.refl _
end Go.Sl
namespace Go.Sl
open Go Go.Vc Go.Proofs Go.RowKit
theorem iG (b : Bool) (n : Int) (h0 : -9223372036854775808 <= n) (h1 : n <= 9223372036854775807) : K b 87 [iv n] (.pv (TV (bK (61 :: Lib.itoa n)))) := by
 refine pcv {} Tryz.func87 ?_;refine goM ?_;refine cC (cL b n h0 h1) (goM ?_);refine cC (fI b (Lib.itoa n) (by have := bj h0 h1; omega)) (goM ?_);exact LEP.refl _
abbrev dS : Bs := [110, 111, 110, 101]
abbrev m9 : Bs := [98, 111, 100, 121]
abbrev tS : Bs := [97, 115, 45, 114, 101, 113]
abbrev tT : Bs := [101, 114, 114, 111, 114]
def cN (s : Bs) : Tm := bK (61 :: s)
def aw : Tm := ay dS []
def Fk (c n : Bs) : Tm := ay m9 [cN c, cN n]
def iH (x y z : Tm) : Tm := ay tS [x, y, z]
def tU (e : Int) : Tm := ay tT [cN (Lib.itoa e)]
theorem Ei (b : Bool) (c n : Bs) (hc : c.length <= 1000000000) (hn : n.length <= 1000000000) : K b 34 [sv c, sv n] (.pv (TV (Fk c n))) := by
 refine pcv {} Tryz.func34 ?_;refine goM ?_;refine cC (fI b c (by omega)) (goM ?_);refine cC (fI b n (by omega)) (goM ?_);refine cC (bh b m9 _ [cN c, cN n] (cK _ _) (by simp)) (goM ?_);exact LEP.refl _
theorem F5 (b : Bool) (x y z : Tm) : K b 78 [tv x, tv y, tv z] (.pv (TV (iH x y z))) := by
 refine pcv {} Tryz.func78 ?_;refine goL ?_;refine cC (bh b tS _ [x, y, z] (xf _ _ _) (by simp)) (goM ?_);exact LEP.refl _
theorem qw (b : Bool) (e : Int) (h0 : -9223372036854775808 <= e) (h1 : e <= 9223372036854775807) : K b 40 [iv e] (.pv (TV (tU e))) := by
 refine pcv {} Tryz.func40 ?_;refine goM ?_;refine cC (iG b e h0 h1) (goM ?_);refine cC (bh b tT _ [cN (Lib.itoa e)] (dR _) (by simp)) (goM ?_);exact LEP.refl _
theorem bq (b : Bool) : K b 38 [] (.pv (TV aw)) := by
 refine pcv {} Tryz.func38 ?_;refine goM ?_;refine ⟨_, ar.le (bh b dS _ [] rfl (by simp)) ⟨LE.refl _, km, trivial⟩ rfl rfl, goM ?_⟩;exact LEP.refl _
theorem yA (b : Bool) (s p : Bs) : K b 225 [sv s, sv p] (.pv (.bool (decide (s.take p.length = p /\ p.length <= s.length)))) := by
 refine pcv {} Tryz.func225 ?_;refine goM ?_;refine aa ?_ ?_ <;> intro h1
 ·have h1 : p.length <= s.length := by have h1 : (p.length : Int) <= (s.length : Int) := of_decide_eq_true h1; omega
  refine goM ?_;refine ⟨Int.natCast_nonneg _, Nat.zero_le _, ?_⟩;refine ⟨by show p.length <= s.length; exact h1, goM ?_⟩;refine LEP.of (congrArg PV.bool ?_);have e : cut s 0 ((p.length : Int)).toNat = s.take p.length := by simp [cut]
  rw [e];simp [h1]
 ·have h1 : ¬ p.length <= s.length := by have h1 : ¬ (p.length : Int) <= (s.length : Int) := of_decide_eq_false h1; omega
  refine goM ?_;exact LEP.of (congrArg PV.bool (decide_eq_false fun h => h1 h.2).symm)
def F6 (s p : Bs) : Bool := decide (s.take p.length = p /\ p.length <= s.length)
def fj (s p : Bs) : Bs × Bool := if F6 s p = true then (s.drop p.length, true) else (s, false)
def Ho (x : Bs × Bool) : Res := .tup [.str x.1, .bool x.2]
theorem yB (b : Bool) (s p : Bs) : K b 196 [sv s, sv p] (Ho (fj s p)) := by
 have h := yA b s p;rw [show decide (s.take p.length = p /\ p.length <= s.length) = F6 s p from rfl] at h;refine pcv {} Tryz.func196 ?_;refine goM ?_;refine cC h ?_;unfold fj;cases e : F6 s p with
 | false =>
  refine goM ?_;exact ⟨LEP.refl _, LEP.refl _, trivial⟩
 | true =>
  have h1 : p.length <= s.length := (of_decide_eq_true e).2;refine goM ?_;refine ⟨Int.natCast_nonneg _, goM ?_⟩;refine ⟨by show p.length <= s.length; exact h1, Nat.le_refl _, goM ?_⟩;refine ⟨LEP.of (congrArg PV.str ?_), LEP.refl _, trivial⟩;show cut s ((p.length : Int)).toNat s.length = s.drop p.length;simp only [cut, Int.toNat_natCast];exact List.take_of_length_le (by rw [List.length_drop]; omega)
theorem iI (b : Bool) (s p : Bs) : K b 149 [sv s, sv p] (Ho (fj s p)) := by
 refine pcv {} Tryz.func149 ?_;refine goM ?_;refine cC (yB b s p) (goM ?_);exact ⟨LEP.refl _, LEP.refl _, trivial⟩
def ia (s : Bs) : Int × Bool :=
 match Lib.atoiAll s with
 | .ok v => (v, false)
 | .range => (Lib.atoiSat s, true)
 | _ => (0, true)
def IE (b : Bool) : PV := cond b .err (.exact .nilIface)
def Hp (x : Int × Bool) : Res := .tup [.int .i64 x.1, IE x.2]
theorem fL (s : Bs) : -9223372036854775808 <= (ia s).1 /\ (ia s).1 <= 9223372036854775807 := by
 unfold ia;split
 ·rename_i v e;exact Lib.atoiAll_bounds e
 ·exact Lib.atoiSat_bounds s
 ·decide
theorem xr (b : Bool) (s : Bs) (hs : s.length <= 281474976710656) : K b 104 [sv s] (Hp (ia s)) := by
 refine ⟨⟨_, Tryz.func104, rfl, rfl⟩, fun ok β w vs hG hlt hr _ _ _ _ => ?_⟩
 match vs, hr with
 | [v], hr =>
  obtain ⟨hr, _⟩ := hr;rw [R, RP] at hr;subst hr;have hsz : (ByteArray.mk s.toArray).size <= 281474976710656 := by simpa [ByteArray.size] using hs
  have hl : (ByteArray.mk s.toArray).data.toList = s := by simp
  obtain ⟨⟨⟨t1, p1, hv1⟩, _⟩, ⟨t2, p2, hv2⟩, _⟩ := hG.1.2.2;unfold ia;cases e : Lib.atoiAll s with
  | ok v =>
   refine (Tryz.strconv_Atoi_ok ⟨s.toArray⟩ (by omega) v (by rw [hl]; exact e) w).mono ?_
   rintro e w' ⟨rfl, hw⟩
   refine ⟨_, rfl, ⟨_, rfl, by rw [RP], ?_, trivial⟩, ?_⟩
   ·show RP _ w' (.exact .nilIface) _;rw [RP];exact ⟨rfl, rfl⟩
   ·rcases hw with rfl | ⟨t, rfl⟩
    ·exact Below.refl _ _
    ·exact Lib.bytesWorld_below _ _ _
  | range =>
   refine (Tryz.strconv_Atoi_range_var ⟨s.toArray⟩ hsz (by rw [hl]; exact e) t2 p2 w hv2).mono ?_
   rintro e w' ⟨N, rfl, _, _, hb⟩
   refine ⟨_, rfl, ⟨_, rfl, ?_, ?_, trivial⟩, hb⟩
   ·rw [RP, hl]
   show RP _ w' .err _;rw [RP];exact ⟨_, _, rfl⟩
  | _ =>
   refine (Tryz.strconv_Atoi_syntax_var ⟨s.toArray⟩ hsz (by rw [hl]; exact e) t1 p1 w hv1).mono ?_
   rintro e w' ⟨N, rfl, _, _, hb⟩
   refine ⟨_, rfl, ⟨_, rfl, by rw [RP], ?_, trivial⟩, hb⟩;show RP _ w' .err _;rw [RP];exact ⟨_, _, rfl⟩
def aT (t : Tm) : Bs × Bool := if (decide (t.kind = 1) && decide (t.kids = [])) = true /\ (fj t.name [61]).2 = true then ((fj t.name [61]).1, true) else ([], false)
def sbR (x : Bs × Bool) : Res := .tup [.str x.1, .bool x.2]
theorem mn (b : Bool) (t : Tm) : K b 103 [tv t] (sbR (aT t)) := by
 have h1 := oI b t;have h2 := iI b t.name [61];unfold aT;revert h1 h2;generalize fj t.name [61] = x;generalize (decide (t.kind = 1) && decide (t.kids = [])) = q;obtain ⟨s, m⟩ := x;intro h1 h2;refine pcv {} Tryz.func103 ?_;refine goM ?_;refine cC h1 (goM ?_);refine cC h2 ?_;cases q with
 | false =>
  refine goM ?_;exact ⟨LEP.refl _, LEP.refl _, trivial⟩
 | true =>
  cases m with
  | false =>
   refine goM ?_;exact ⟨LEP.refl _, LEP.refl _, trivial⟩
  | true =>
   refine goM ?_;exact ⟨LEP.refl _, LEP.refl _, trivial⟩
theorem na (t : Tm) : (aT t).1.length <= t.name.length := by
 unfold aT;split
 ·unfold fj;split
  ·simp
  ·exact Nat.le_refl _
 ·exact Nat.zero_le _
def ce (t : Tm) : Int × Bool :=
 if (aT t).2 = true /\ (ia (aT t).1).2 = false /\ (aT t).1.length <= 18 /\ Lib.itoa (ia (aT t).1).1 = (aT t).1 then ((ia (aT t).1).1, true) else (0, false)
def ibR (x : Int × Bool) : Res := .tup [.int .i64 x.1, .bool x.2]
theorem tV (b : Bool) (t : Tm) (hn : t.name.length <= 281474976710656) : K b 47 [tv t] (ibR (ce t)) := by
 have h1 := mn b t;have h2 := xr b (aT t).1 (Nat.le_trans (na t) hn);obtain ⟨b0, b1⟩ := fL (aT t).1;have h3 := cL b (ia (aT t).1).1 b0 b1;unfold ce;revert h1 h2 h3;generalize ia (aT t).1 = y;generalize aT t = x;obtain ⟨s, m⟩ := x;obtain ⟨n, q⟩ := y;intro h1 h2 h3;refine pcv {} Tryz.func47 ?_;refine goM ?_;refine cC h1 (goM ?_);refine cC h2 ?_;cases m with
 | false =>
  cases q with
  | false =>
   refine goM ?_;exact ⟨LEP.refl _, LEP.refl _, trivial⟩
  | true =>
   refine goM ?_;exact ⟨LEP.refl _, LEP.refl _, trivial⟩
 | true =>
  cases q with
  | true =>
   refine goM ?_;exact ⟨LEP.refl _, LEP.refl _, trivial⟩
  | false =>
   refine goM ?_;refine aa ?_ ?_ <;> intro h4
   ·have h4 : ¬ s.length <= 18 := by have h4 : (18 : Int) < (s.length : Int) := of_decide_eq_true h4; omega
    rw [if_neg (fun h => h4 h.2.2.1)];refine goM ?_;exact ⟨LEP.refl _, LEP.refl _, trivial⟩
   ·have h4 : s.length <= 18 := by have h4 : ¬ (18 : Int) < (s.length : Int) := of_decide_eq_false h4; omega
    refine goM ?_;refine cC h3 (goM ?_);refine aa ?_ ?_ <;> intro h5
    ·have h5 : Lib.itoa n ≠ s := of_decide_eq_true h5;rw [if_neg (fun h => h5 h.2.2.2)];refine goM ?_;exact ⟨LEP.refl _, LEP.refl _, trivial⟩
    ·have h5 : Lib.itoa n = s := by simpa using h5
     rw [if_pos ⟨rfl, rfl, h4, h5⟩];refine goM ?_;exact ⟨LEP.refl _, LEP.refl _, trivial⟩
theorem eI (b : Bool) (t : Tm) (hf : Fit t) : K b 21 [tv t] (.pv (.bool (ao dS 0 t).isSome)) := by
 have h := bD b dS 0 t (by decide) hf;cases e : ao dS 0 t with
 | none =>
  rw [e] at h;refine pcv {} Tryz.func21 ?_;refine goM ?_;refine cC h (goM ?_);exact LEP.refl _
 | some l =>
  rw [e] at h;refine pcv {} Tryz.func21 ?_;refine goM ?_;refine cC h (goM ?_);exact LEP.refl _
def oM (t : Tm) : Int × Bool :=
 match ao tT 1 t with
 | none => (0, false)
 | some l => if (ce (at_ l 0)).2 = true /\ 1 <= (ce (at_ l 0)).1 then ((ce (at_ l 0)).1, true) else (0, false)
theorem Bm (b : Bool) (t : Tm) (hf : Fit t) (hn : ∀ l, ao tT 1 t = some l -> (at_ l 0).name.length <= 281474976710656) : K b 12 [tv t] (ibR (oM t)) := by
 have h := bD b tT 1 t (by decide) hf;unfold oM;cases e : ao tT 1 t with
 | none =>
  rw [e] at h;refine pcv {} Tryz.func12 ?_;refine goM ?_;refine cC h (goM ?_);exact ⟨LEP.refl _, LEP.refl _, trivial⟩
 | some l =>
  rw [e] at h;have hl := aY e;have h2 := tV b (at_ l 0) (hn l e);show K b _ _ (ibR (if (ce (at_ l 0)).2 = true /\ 1 <= (ce (at_ l 0)).1 then ((ce (at_ l 0)).1, true) else (0, false)));revert h2;generalize ce (at_ l 0) = y;obtain ⟨n, q⟩ := y;intro h2;refine pcv {} Tryz.func12 ?_;refine goM ?_;refine cC h (goM ?_);refine ⟨_, ap (l := l) (i := 0) (by omega), rfl, rfl, goM ?_⟩;refine cC h2 ?_;cases q with
  | false =>
   refine goM ?_;exact ⟨LEP.refl _, LEP.refl _, trivial⟩
  | true =>
   refine goM ?_;refine aa ?_ ?_ <;> intro h3
   ·have h3 : ¬ 1 <= n := by have h3 : n < 1 := of_decide_eq_true h3; omega
    rw [if_neg (fun h => h3 h.2)];refine goM ?_;exact ⟨LEP.refl _, LEP.refl _, trivial⟩
   ·have h3 : 1 <= n := by have h3 : ¬ n < 1 := of_decide_eq_false h3; omega
    rw [if_pos ⟨rfl, h3⟩];refine goM ?_;exact ⟨LEP.refl _, LEP.refl _, trivial⟩
def bB (t : Tm) : Bs × Bs × Bool :=
 match ao m9 2 t with
 | none => ([], [], false)
 | some l => if (aT (at_ l 0)).2 = true /\ (aT (at_ l 1)).2 = true /\ (aT (at_ l 0)).1 ≠ [] /\ (aT (at_ l 1)).1 ≠ [] then ((aT (at_ l 0)).1, (aT (at_ l 1)).1, true) else ([], [], false)
def Hq (x : Bs × Bs × Bool) : Res := .tup [.str x.1, .str x.2.1, .bool x.2.2]
theorem yC (b : Bool) (t : Tm) (hf : Fit t) : K b 81 [tv t] (Hq (bB t)) := by
 have h := bD b m9 2 t (by decide) hf;unfold bB;cases e : ao m9 2 t with
 | none =>
  rw [e] at h;refine pcv {} Tryz.func81 ?_;refine goM ?_;refine cC h (goM ?_);exact ⟨LEP.refl _, LEP.refl _, LEP.refl _, trivial⟩
 | some l =>
  rw [e] at h;have hl := aY e;have h1 := mn b (at_ l 0);have h2 := mn b (at_ l 1);show K b _ _ (Hq (if (aT (at_ l 0)).2 = true /\ (aT (at_ l 1)).2 = true /\ (aT (at_ l 0)).1 ≠ [] /\ (aT (at_ l 1)).1 ≠ [] then ((aT (at_ l 0)).1, (aT (at_ l 1)).1, true) else ([], [], false)));revert h1 h2;generalize aT (at_ l 0) = x;generalize aT (at_ l 1) = y;obtain ⟨c, p⟩ := x;obtain ⟨n, q⟩ := y;intro h1 h2;refine pcv {} Tryz.func81 ?_;refine goM ?_;refine cC h (goM ?_);refine ⟨_, ap (l := l) (i := 0) (by omega), rfl, rfl, goM ?_⟩;refine cC h1 (goM ?_);refine ⟨_, ap (l := l) (i := 1) (by omega), rfl, rfl, goM ?_⟩;refine cC h2 ?_;cases p with
  | false =>
   refine goM ?_;exact ⟨LEP.refl _, LEP.refl _, LEP.refl _, trivial⟩
  | true =>
   cases q with
   | false =>
    refine goM ?_;exact ⟨LEP.refl _, LEP.refl _, LEP.refl _, trivial⟩
   | true =>
    refine goM ?_;refine aa ?_ ?_ <;> intro h3
    ·have h3 : c = [] := of_decide_eq_true h3;rw [if_neg (fun h => h.2.2.1 h3)];refine goM ?_;exact ⟨LEP.refl _, LEP.refl _, LEP.refl _, trivial⟩
    ·have h3 : c ≠ [] := of_decide_eq_false h3;refine goM ?_;refine aa ?_ ?_ <;> intro h4
     ·have h4 : n = [] := of_decide_eq_true h4;rw [if_neg (fun h => h.2.2.2 h4)];refine goM ?_;exact ⟨LEP.refl _, LEP.refl _, LEP.refl _, trivial⟩
     ·have h4 : n ≠ [] := of_decide_eq_false h4;rw [if_pos ⟨rfl, rfl, h3, h4⟩];refine goM ?_;exact ⟨LEP.refl _, LEP.refl _, LEP.refl _, trivial⟩
end Go.Sl
namespace Go.Sl
open Go Go.Vc Go.Proofs Go.RowKit
theorem Ej (b : Bool) (k : Tm) : K b 158 [tv k] (.pv (TV (.mk 8 [] [k]))) := by
 refine pcv {} Tryz.func158 ?_;refine goM ?_;refine cC (fG b 8 [] _ [k] (dR k) (by simp)) (goM ?_);exact LEP.refl _
theorem Bn (b : Bool) (k m : Tm) : K b 178 [tv k, tv m] (.pv (TV (.mk 10 [] [k, m]))) := by
 refine pcv {} Tryz.func178 ?_;refine goM ?_;refine cC (fG b 10 [] _ [k, m] (cK k m) (by simp)) (goM ?_);exact LEP.refl _
theorem F7 (a b c d e : Tm) : [TV a, TV b, TV c, TV d, TV e] = af [a, b, c, d, e] := (cw [a, b, c, d, e]).symm
def nG (s w o a h : Tm) (n : Int) : Tm := er (bN (kc [s, w, o, a, h])) mg n
theorem v5 (b : Bool) (s w o a h : Tm) (n : Int) (h0 : -9223372036854775808 <= n) (h1 : n <= 9223372036854775807) : K b 216 [tv s, tv w, tv o, tv a, tv h, iv n] (.pv (TV (nG s w o a h n))) := by
 refine pcv {} Tryz.func216 ?_;refine goL ?_;refine cC (jN b _ [s, w, o, a, h] (F7 s w o a h) (by simp)) (goL ?_);refine cC (fH b _) (goM ?_);refine cC (mj b _ n h0 h1) (goM ?_);exact LEP.refl _
def Hr : Bs := [99, 108, 105, 101, 110, 116, 99, 104, 97, 108, 108, 101, 110, 103, 101, 97, 114, 109, 111, 114]
def Hs : Bs := [99, 104, 97, 108, 108, 101, 110, 103, 101, 108, 111, 110, 103, 116, 101, 114, 109]
abbrev chW : Bs := [99, 104, 97, 108, 108, 101, 110, 103, 101]
abbrev ju : Bs := [116, 105, 109, 101]
abbrev cW : Bs := [111, 116, 112]
abbrev lp : Bs := [99, 111, 100, 101]
abbrev spW : Bs := [115, 112, 97, 107, 101]
abbrev Bo : Bs := [102, 97, 99, 116, 111, 114]
def gf (ak u : Tm) : Tm := db ak u Hr Hs
theorem lq (b : Bool) (ak u : Tm) : K b 189 [tv ak, tv u] (.pv (TV (gf ak u))) := by
 refine pcv {} Tryz.func189 ?_;refine goM ?_;refine cC (rN b ak u Hr Hs (by decide) (by decide)) (goM ?_);exact LEP.refl _
def oN (ak u body : Tm) (now : Int) : Tm := ay chW [bf (gf ak u) 54 (ay ju [cN (Lib.itoa now), bN body])]
theorem rT (b : Bool) (ak u body : Tm) (n : Int) (h0 : -9223372036854775808 <= n) (h1 : n <= 9223372036854775807) : K b 207 [tv ak, tv u, tv body, iv n] (.pv (TV (oN ak u body n))) := by
 refine pcv {} Tryz.func207 ?_;refine goM ?_;refine cC (iG b n h0 h1) (goM ?_);refine cC (fH b body) (goM ?_);refine cC (bh b ju _ [cN (Lib.itoa n), bN body] (cK _ _) (by simp)) (goM ?_);refine cC (lq b ak u) (goM ?_);refine cC (fK b _ _ 54 (by decide) (by decide)) (goM ?_);refine cC (bh b chW _ [bf (gf ak u) 54 (ay ju [cN (Lib.itoa n), bN body])] (dR _) (by simp)) (goM ?_);exact LEP.refl _
def jv (a b : Int) : Int := if max a b - min a b > 5 then 6 else max a b - min a b
theorem aS {k : Int} {r : Int} (h0 : -9223372036854775808 <= k) (h1 : k <= 9223372036854775807) (e : k = r) : IntKind.i64.wrap k = r := by
 subst e;simp only [IntKind.wrap, IntKind.bits, IntKind.signed];simp;omega
theorem Bp (b : Bool) (x y : Int) (hx0 : -9223372036854775808 <= x) (hx1 : x <= 9223372036854775807) (hy0 : -9223372036854775808 <= y) (hy1 : y <= 9223372036854775807) : K b 190 [iv x, iv y] (.pv (.int .i64 (jv x y))) := by
 unfold jv;refine pcv {} Tryz.func190 ?_;refine goM ?_;refine aa ?_ ?_ <;> intro h1
 ·have h1 : x < y := of_decide_eq_true h1;rw [show max x y = y by omega, show min x y = x by omega];refine goM ?_;refine aa ?_ ?_ <;> intro h2
  ·have h2 : x < 0 := of_decide_eq_true h2;refine goM ?_;refine ⟨_, aS (by omega) (by omega) rfl, goM ?_⟩;refine ⟨_, aS (by omega) (by omega) rfl, goM ?_⟩;refine aa ?_ ?_ <;> intro h3
   ·have h3 : x + 5 + 1 < y := of_decide_eq_true h3;rw [if_pos (by omega)];refine goM ?_;exact LEP.refl _
   ·have h3 : ¬ x + 5 + 1 < y := of_decide_eq_false h3;refine goM ?_;refine ⟨_, aS (by omega) (by omega) rfl, goM ?_⟩;refine aa ?_ ?_ <;> intro h4
    ·have h4 : 5 < y - x := of_decide_eq_true h4;rw [if_pos h4];refine goM ?_;exact LEP.refl _
    ·have h4 : ¬ 5 < y - x := of_decide_eq_false h4;rw [if_neg h4];refine goM ?_;refine ⟨_, aS (by omega) (by omega) rfl, goM ?_⟩;exact LEP.refl _
  ·have h2 : ¬ x < 0 := of_decide_eq_false h2;refine goM ?_;refine ⟨_, aS (by omega) (by omega) rfl, goM ?_⟩;refine aa ?_ ?_ <;> intro h4
   ·have h4 : 5 < y - x := of_decide_eq_true h4;rw [if_pos h4];refine goM ?_;exact LEP.refl _
   ·have h4 : ¬ 5 < y - x := of_decide_eq_false h4;rw [if_neg h4];refine goM ?_;refine ⟨_, aS (by omega) (by omega) rfl, goM ?_⟩;exact LEP.refl _
 ·have h1 : ¬ x < y := of_decide_eq_false h1;rw [show max x y = x by omega, show min x y = y by omega];refine goM ?_;refine aa ?_ ?_ <;> intro h2
  ·have h2 : y < 0 := of_decide_eq_true h2;refine goM ?_;refine ⟨_, aS (by omega) (by omega) rfl, goM ?_⟩;refine ⟨_, aS (by omega) (by omega) rfl, goM ?_⟩;refine aa ?_ ?_ <;> intro h3
   ·have h3 : y + 5 + 1 < x := of_decide_eq_true h3;rw [if_pos (by omega)];refine goM ?_;exact LEP.refl _
   ·have h3 : ¬ y + 5 + 1 < x := of_decide_eq_false h3;refine goM ?_;refine ⟨_, aS (by omega) (by omega) rfl, goM ?_⟩;refine aa ?_ ?_ <;> intro h4
    ·have h4 : 5 < x - y := of_decide_eq_true h4;rw [if_pos h4];refine goM ?_;exact LEP.refl _
    ·have h4 : ¬ 5 < x - y := of_decide_eq_false h4;rw [if_neg h4];refine goM ?_;refine ⟨_, aS (by omega) (by omega) rfl, goM ?_⟩;exact LEP.refl _
  ·have h2 : ¬ y < 0 := of_decide_eq_false h2;refine goM ?_;refine ⟨_, aS (by omega) (by omega) rfl, goM ?_⟩;refine aa ?_ ?_ <;> intro h4
   ·have h4 : 5 < x - y := of_decide_eq_true h4;rw [if_pos h4];refine goM ?_;exact LEP.refl _
   ·have h4 : ¬ 5 < x - y := of_decide_eq_false h4;rw [if_neg h4];refine goM ?_;refine ⟨_, aS (by omega) (by omega) rfl, goM ?_⟩;exact LEP.refl _
def eJ (ak u body p : Tm) (now : Int) : Int :=
 match ao chW 1 p with
 | none => 2
 | some l =>
  if (aI (gf ak u) 54 (at_ l 0)).2 = 4 then 6 else if (aI (gf ak u) 54 (at_ l 0)).2 ≠ 0 then (aI (gf ak u) 54 (at_ l 0)).2 else
  match ao ju 2 (aI (gf ak u) 54 (at_ l 0)).1 with
  | none => 2
  | some m => if (ce (at_ m 0)).2 = false then 2 else if at_ m 1 ≠ bN body then 6 else if 5 < jv (ce (at_ m 0)).1 now then 5 else 0
theorem aE : ∀ t : Tm, wt t <= 1000000000 -> Fit t := by
 intro t
 induction t using Tm.indk with
 | h t ih =>
 intro h;rw [bR] at h;have hl : ∀ l : List Tm, l.length <= wts l := by
  intro l
  induction l with
  | nil => exact Nat.le_refl _
  | cons u l ihl =>
   rw [wts, List.length_cons, bR];omega
 have := hl t.kids;refine Fit.of (by omega) (by omega) fun u hu => ih u hu ?_
 have := fJ hu;omega
theorem mq {t u : Tm} (h : u ∈ t.kids) : wt u <= wt t := by
 have := fJ h;rw [bR t];omega
theorem jU (t : Tm) : t.name.length <= wt t := by rw [bR]; omega
theorem dp {l : List Tm} {N : Nat} (h : ∀ u ∈ l, wt u <= N) (h1 : 1 <= N) (i : Nat) : wt (at_ l i) <= N := by
 unfold at_;rw [List.getD_eq_getElem?_getD];cases e : l[i]? with
 | none => exact h1
 | some u => exact h u (List.mem_of_getElem? e)
theorem br (t : Tm) : 1 <= wt t := by rw [bR]; omega
theorem bV {tag : Bs} {n : Nat} {t : Tm} {l : List Tm} (h : ao tag n t = some l) : ∀ u ∈ l, wt u <= wt t := by
 unfold ao at h;split at h
 ·cases h;exact fun u hu => mq (List.mem_of_mem_drop hu)
 ·cases h
theorem jV {k : Tm} {n : Int} {t : Tm} : wt (aI k n t).1 <= wt t := by
 unfold aI;split
 ·split
  ·exact mq (List.getElem_mem _)
  ·exact br t
 ·exact br t
theorem pN (t : Tm) : -9223372036854775808 <= (ce t).1 /\ (ce t).1 <= 9223372036854775807 := by
 unfold ce;split
 ·exact fL _
 ·decide
theorem rU (b : Bool) (ak u body p : Tm) (now : Int) (h0 : -9223372036854775808 <= now) (h1 : now <= 9223372036854775807) (hw : wt p <= 1000000000) :
  K b 141 [tv ak, tv u, tv body, tv p, iv now] (.pv (.int .i64 (eJ ak u body p now))) := by
 have hf := aE p hw;have hu := bD b chW 1 p (by decide) hf;unfold eJ;cases e : ao chW 1 p with
 | none =>
  rw [e] at hu;refine pcv { ps := psT [(4, [13])] } Tryz.func141 ?_;refine goM ?_;refine cC hu (goM ?_);exact LEP.refl _
 | some l =>
  rw [e] at hu;have hl := aY e;have hwl := bV e;have hw0 : wt (at_ l 0) <= 1000000000 := Nat.le_trans (dp hwl (br p) 0) hw;have hs := jS b (gf ak u) (at_ l 0) 54 (by decide) (by decide) (aE _ hw0);have hwx := Nat.le_trans (jV (k := gf ak u) (n := 54) (t := at_ l 0)) hw0;show K b _ _ (.pv (.int .i64 (if (aI (gf ak u) 54 (at_ l 0)).2 = 4 then 6 else if (aI (gf ak u) 54 (at_ l 0)).2 ≠ 0 then (aI (gf ak u) 54 (at_ l 0)).2 else match ao ju 2 (aI (gf ak u) 54 (at_ l 0)).1 with | none => 2 | some m => if (ce (at_ m 0)).2 = false then 2 else if at_ m 1 ≠ bN body then 6 else if 5 < jv (ce (at_ m 0)).1 now then 5 else 0)));revert hs hwx;generalize aI (gf ak u) 54 (at_ l 0) = y;obtain ⟨x, c⟩ := y;intro hs hwx;have hwx : wt x <= 1000000000 := hwx
  by_cases hc4 : c = 4
  ·subst hc4;refine pcv { ps := psT [(4, [13])] } Tryz.func141 ?_;refine goM ?_;refine cC hu (goM ?_);refine cC (lq b ak u) (goM ?_);refine ⟨_, ap (l := l) (i := 0) (by omega), rfl, rfl, goM ?_⟩;refine cC hs (goM ?_);exact LEP.refl _
  ·by_cases hc0 : c = 0
   ·subst hc0;have hu2 := bD b ju 2 x (by decide) (aE _ hwx);show K b _ _ (.pv (.int .i64 (match ao ju 2 x with | none => 2 | some m => if (ce (at_ m 0)).2 = false then 2 else if at_ m 1 ≠ bN body then 6 else if 5 < jv (ce (at_ m 0)).1 now then 5 else 0)));cases e2 : ao ju 2 x with
    | none =>
     rw [e2] at hu2;refine pcv { ps := psT [(4, [13])] } Tryz.func141 ?_;refine goM ?_;refine cC hu (goM ?_);refine cC (lq b ak u) (goM ?_);refine ⟨_, ap (l := l) (i := 0) (by omega), rfl, rfl, goM ?_⟩;refine cC hs (goM ?_);refine cC hu2 (goM ?_);exact LEP.refl _
    | some m =>
     rw [e2] at hu2;have hm := aY e2;have hwm := bV e2;have hwm0 := dp hwm (br x) 0;have hwm1 := dp hwm (br x) 1;have hn := tV b (at_ m 0) (by have := jU (at_ m 0); omega);have hb := pN (at_ m 0);have hsm := cy b (at_ m 1) (aE _ (by omega)) (bN body);show K b _ _ (.pv (.int .i64 (if (ce (at_ m 0)).2 = false then 2 else if at_ m 1 ≠ bN body then 6 else if 5 < jv (ce (at_ m 0)).1 now then 5 else 0)));revert hn hb;generalize ce (at_ m 0) = y;obtain ⟨n, q⟩ := y;intro hn hb;have hap := Bp b n now hb.1 hb.2 h0 h1;refine pcv { ps := psT [(4, [13])] } Tryz.func141 ?_;refine goM ?_;refine cC hu (goM ?_);refine cC (lq b ak u) (goM ?_);refine ⟨_, ap (l := l) (i := 0) (by omega), rfl, rfl, goM ?_⟩;refine cC hs (goM ?_);refine cC hu2 (goM ?_);refine ⟨_, ap (l := m) (i := 0) (by omega), rfl, rfl, goM ?_⟩;refine cC hn ?_;cases q with
     | false =>
      refine goM ?_;exact LEP.refl _
     | true =>
      refine goM ?_;refine ⟨_, ap (l := m) (i := 1) (by omega), rfl, rfl, goM ?_⟩;refine cC (fH b body) (goM ?_);refine cC hsm (goM ?_);refine aa ?_ ?_ <;> intro h3
      ·have h3 : at_ m 1 ≠ bN body := by simpa using h3
       rw [if_neg (by simp), if_pos h3];refine goM ?_;exact LEP.refl _
      ·have h3 : at_ m 1 = bN body := by simpa using h3
       rw [if_neg (by simp), if_neg (by simpa using h3)];refine goM ?_;refine cC hap (goM ?_);refine aa ?_ ?_ <;> intro h4
       ·have h4 : 5 < jv n now := of_decide_eq_true h4;rw [if_pos h4];refine goM ?_;exact LEP.refl _
       ·have h4 : ¬ 5 < jv n now := of_decide_eq_false h4;rw [if_neg h4];refine goM ?_;exact LEP.refl _
   ·rw [if_neg (show ¬ ((x, c).2 = 4) from hc4), if_pos (show (x, c).2 ≠ 0 from hc0)];refine pcv { ps := psT [(4, [13])] } Tryz.func141 ?_;refine goM ?_;refine cC hu (goM ?_);refine cC (lq b ak u) (goM ?_);refine ⟨_, ap (l := l) (i := 0) (by omega), rfl, rfl, goM ?_⟩;refine cC hs (goM ?_);refine aa ?_ ?_ <;> intro h3
    ·exact absurd (of_decide_eq_true h3) hc4
    ·refine goM ?_;refine aa ?_ ?_ <;> intro h4
     ·exact absurd (of_decide_eq_true h4) hc0
     ·refine goM ?_;exact LEP.refl _
end Go.Sl
namespace Go.Sl
open Go Go.Vc Go.Proofs Go.RowKit
def av (t : Tm) : Tm × Tm × Tm × Bool :=
 match ao tS 3 t with
 | none => (aD, aD, aD, false)
 | some l => (at_ l 0, at_ l 1, at_ l 2, true)
def IF (x : Tm × Tm × Tm × Bool) : Res := .tup [TV x.1, TV x.2.1, TV x.2.2.1, .bool x.2.2.2]
theorem Bq (b : Bool) (t : Tm) (hf : Fit t) : K b 80 [tv t] (IF (av t)) := by
 have h := bD b tS 3 t (by decide) hf;unfold av;cases e : ao tS 3 t with
 | none =>
  rw [e] at h;refine pcv { ps := psT [(3, [2, 3, 4]), (4, [2, 3, 4])] } Tryz.func80 ?_;refine goM ?_;refine cC h (goM ?_);exact ⟨aR 0 [], aR 0 [], aR 0 [], LEP.refl _, trivial⟩
 | some l =>
  rw [e] at h;have hl := aY e;refine pcv { ps := psT [(3, [2, 3, 4]), (4, [2, 3, 4])] } Tryz.func80 ?_;refine goM ?_;refine cC h (goM ?_);refine ⟨_, ap (l := l) (i := 0) (by omega), rfl, rfl, goM ?_⟩;refine ⟨_, ap (l := l) (i := 1) (by omega), rfl, rfl, goM ?_⟩;refine ⟨_, ap (l := l) (i := 2) (by omega), rfl, rfl, goM ?_⟩;exact ⟨LEP.refl _, LEP.refl _, LEP.refl _, LEP.refl _, trivial⟩
def v6 (l : List Bs) : Tm := kc (l.map cN)
theorem Br (b : Bool) (l : List Bs) (hl : l.length <= 1000000000) (hs : ∀ s ∈ l, s.length <= 9223372036854775800) : K b 100 [.p (.lst (aC l))] (.pv (TV (v6 l))) := by
 refine pcv { own := oO [3, 16], fz := fun r => cond (Nat.beq r 7) [3] [] } Tryz.func100 ?_;refine goM ?_;refine ⟨Rd l.length, fun i => S.of [(2, .ptr 2 0), (3, .slc 3), (6, .p (.lst (aC l))), (7, iv ((aC l).length : Int)), (8, iv (i.1 : Int))] [(2, .var true 26 (.p (.agg [.int .i64 0, .str [], .nilS]))), (3, .row 26 3 (af ((l.take i.1).map cN)))], fun i => l.length - i.1, Rd.zero _, ?_, ?_⟩
 ·exact Ge.go
 rintro ⟨i, hi⟩
 refine goM ?_;refine aa ?_ ?_ <;> intro h1
 ·have hlt : i < l.length := by have := of_decide_eq_true h1; rw [al] at this; exact Int.ofNat_lt.1 this
  have hrow : af ((l.take i).map cN) ++ [TV (cN l[i])] = af ((l.take (i + 1)).map cN) := by
   rw [List.take_succ_eq_append_getElem hlt, List.map_append, aO, List.map_cons, List.map_nil, dR]
  refine goM ?_;refine ⟨Int.natCast_nonneg _, .str l[i], by show (aC l)[i]? = _; simp [aC, hlt], rfl, rfl, goM ?_⟩;refine cC (fI b l[i] (hs _ (List.getElem_mem hlt))) (goM ?_);refine ⟨A0 (by simp only [ab, List.length_map, List.length_take, List.length_cons, List.length_nil]; omega), goM ?_⟩;refine ⟨_, aq (n := i + 1) rfl (by omega), goM ?_⟩;refine ⟨⟨i + 1, hlt⟩, ?_, by show l.length - (i + 1) < l.length - i; omega⟩;refine Ge.of rfl ?_ ?_
  ·repeat (conv => whnf); refine ⟨LE.of rfl, ?_⟩
   trivial
  ·conv => whnf
   refine ⟨OLE.of rfl, OLE.of (congrArg (AO.row 26 3) hrow), ?_⟩;trivial
 ·have hge : l.take i = l := by have h1 := of_decide_eq_false h1; rw [al] at h1; have h1 : ¬ (i : Int) < (l.length : Int) := h1; exact List.take_of_length_le (by omega)
  have hrow : af ((l.take i).map cN) = af (l.map cN) := by rw [hge]
  refine goM ?_;refine cC (jN b _ (l.map cN) hrow (by simp; omega)) (goM ?_);exact LEP.refl _
def qx (n : Tm) : Tm := ay cW [n]
theorem tW (b : Bool) (n : Tm) : K b 89 [tv n] (.pv (TV (qx n))) := by
 refine pcv {} Tryz.func89 ?_;refine goM ?_;refine cC (bh b cW _ [n] (dR n) (by simp)) (goM ?_);exact LEP.refl _
def dI (ak offer code : Tm) : Tm × Int :=
 match ao cW 1 offer with
 | none => (aD, 2)
 | some l => (ay cW [bf ak 45 (ay lp [at_ l 0, code])], 0)
theorem rV (b : Bool) (ak offer code : Tm) (hf : Fit offer) : K b 208 [tv ak, tv offer, tv code] (tmR (dI ak offer code)) := by
 have h := bD b cW 1 offer (by decide) hf;unfold dI;cases e : ao cW 1 offer with
 | none =>
  rw [e] at h;refine pcv {} Tryz.func208 ?_;refine goM ?_;refine cC h (goM ?_);exact ⟨aR 0 [], LEP.refl _, trivial⟩
 | some l =>
  rw [e] at h;have hl := aY e;refine pcv {} Tryz.func208 ?_;refine goM ?_;refine cC h (goM ?_);refine ⟨_, ap (l := l) (i := 0) (by omega), rfl, rfl, goM ?_⟩;refine cC (bh b lp _ [at_ l 0, code] (cK _ _) (by simp)) (goM ?_);refine cC (fK b ak _ 45 (by decide) (by decide)) (goM ?_);refine cC (bh b cW _ [bf ak 45 (ay lp [at_ l 0, code])] (dR _) (by simp)) (goM ?_);exact ⟨LEP.refl _, LEP.refl _, trivial⟩
def a7 (x u : Tm) : Tm := .mk 10 [] [.mk 8 [] [x], jp u gF]
theorem mr (b : Bool) (x u : Tm) : K b 136 [tv x, tv u] (.pv (TV (a7 x u))) := by
 refine pcv {} Tryz.func136 ?_;refine goM ?_;refine cC (Ej b x) (goM ?_);refine cC (kC b u) (goM ?_);refine cC (Bn b _ _) (goM ?_);exact LEP.refl _
def aF (t u : Tm) : Tm × Int :=
 if t.kind = 10 /\ t.kids.length = 2 then
  (if (at_ t.kids 0).kind = 8 /\ (at_ t.kids 0).kids.length = 1 then (if at_ t.kids 1 = jp u gF then (at_ (at_ t.kids 0).kids 0, 0) else (aD, 6)) else (aD, 2))
 else (aD, 2)
theorem nb (b : Bool) (t u : Tm) (hf : Fit t) : K b 186 [tv t, tv u] (tmR (aF t u)) := by
 unfold aF;refine pcv {} Tryz.func186 ?_;refine goM ?_;refine aa ?_ ?_ <;> intro h1
 ·have h1 : ¬ t.kind = 10 := of_decide_eq_true h1;rw [if_neg (fun h => h1 h.1)];refine goM ?_;exact ⟨aR 0 [], LEP.refl _, trivial⟩
 ·have h1 : t.kind = 10 := by simpa using h1
  refine goM ?_;refine aa ?_ ?_ <;> intro h2
  ·have h2 : ¬ t.kids.length = 2 := by have := of_decide_eq_true h2; rw [ab] at this; omega
   rw [if_neg (fun h => h2 h.2)];refine goM ?_;exact ⟨aR 0 [], LEP.refl _, trivial⟩
  ·have h2 : t.kids.length = 2 := by have := of_decide_eq_false h2; rw [ab] at this; omega
   rw [if_pos ⟨h1, h2⟩];have hk1 : at_ t.kids 1 ∈ t.kids := by simp [at_, h2]
   refine goM ?_;refine ⟨_, ap (l := t.kids) (i := 0) (by omega), rfl, rfl, goM ?_⟩;refine aa ?_ ?_ <;> intro h3
   ·have h3 : ¬ (at_ t.kids 0).kind = 8 := of_decide_eq_true h3;rw [if_neg (fun h => h3 h.1)];refine goM ?_;exact ⟨aR 0 [], LEP.refl _, trivial⟩
   ·have h3 : (at_ t.kids 0).kind = 8 := by simpa using h3
    refine goM ?_;refine aa ?_ ?_ <;> intro h4
    ·have h4 : ¬ (at_ t.kids 0).kids.length = 1 := by have := of_decide_eq_true h4; rw [ab] at this; omega
     rw [if_neg (fun h => h4 h.2)];refine goM ?_;exact ⟨aR 0 [], LEP.refl _, trivial⟩
    ·have h4 : (at_ t.kids 0).kids.length = 1 := by have := of_decide_eq_false h4; rw [ab] at this; omega
     rw [if_pos ⟨h3, h4⟩];refine goM ?_;refine ⟨_, ap (l := t.kids) (i := 1) (by omega), rfl, rfl, goM ?_⟩;refine cC (kC b u) (goM ?_);refine cC (cy b (at_ t.kids 1) (hf.kid hk1) _) (goM ?_);refine aa ?_ ?_ <;> intro h5
     ·have h5 : ¬ at_ t.kids 1 = jp u gF := by simpa using h5
      rw [if_neg h5];refine goM ?_;exact ⟨aR 0 [], LEP.refl _, trivial⟩
     ·have h5 : at_ t.kids 1 = jp u gF := by simpa using h5
      rw [if_pos h5];refine goM ?_;refine ⟨_, ap (l := (at_ t.kids 0).kids) (i := 0) (by omega), rfl, rfl, goM ?_⟩;exact ⟨LEP.refl _, LEP.refl _, trivial⟩
abbrev exV (x y u o a d : Tm) : SV := .p (.agg [.int .i64 x.kind, .str x.name, .lst (af x.kids), .int .i64 y.kind, .str y.name, .lst (af y.kids), .int .i64 u.kind, .str u.name, .lst (af u.kids), .int .i64 o.kind, .str o.name, .lst (af o.kids), .int .i64 a.kind, .str a.name, .lst (af a.kids), .int .i64 d.kind, .str d.name, .lst (af d.kids)])
def gg (x y u o a d : Tm) (n : Int) : Tm := nG (jq x y) (jp u gF) o a (bN d) n
theorem oP (x y u o a d : Tm) (n : Int) (h0 : -9223372036854775808 <= n) (h1 : n <= 9223372036854775807) (hx : wt x <= 1000000000) (hy : wt y <= 1000000000) : K true 188 [exV x y u o a d, iv n] (.pv (TV (gg x y u o a d n))) := by
 have fx := aE x hx;have fy := aE y hy;refine pcv {} Tryz.func188 ?_;refine goL ?_;refine cC (AX x y fx fy (fun _ => dn fx hx) (fun _ => dn fy hy)) (goL ?_);refine cC (kC true u) (goL ?_);refine cC (fH true d) (goL ?_);refine cC (v5 true (jq x y) (jp u gF) o a (bN d) n h0 h1) (goL ?_);exact LEP.refl _
def d8 (x y u o a d : Tm) : Tm := bf (gg x y u o a d 1) 60 (ay Bo [])
theorem qy (x y u o a d : Tm) (hx : wt x <= 1000000000) (hy : wt y <= 1000000000) : K true 187 [exV x y u o a d] (.pv (TV (d8 x y u o a d))) := by
 refine pcv {} Tryz.func187 ?_;refine goL ?_;refine cC (oP x y u o a d 1 (by decide) (by decide) hx hy) (goL ?_);refine ⟨_, ar.le (bh true Bo _ [] rfl (by simp)) ⟨LE.refl _, km, trivial⟩ rfl rfl, goL ?_⟩;refine cC (fK true _ _ 60 (by decide) (by decide)) (goL ?_);exact LEP.refl _
def nc (u y : Tm) : Tm := ay spW [a7 y u]
theorem pO (b : Bool) (u y : Tm) : K b 90 [tv u, tv y] (.pv (TV (nc u y))) := by
 refine pcv {} Tryz.func90 ?_;refine goM ?_;refine cC (mr b y u) (goM ?_);refine cC (bh b spW _ [a7 y u] (dR _) (by simp)) (goM ?_);exact LEP.refl _
end Go.Sl
