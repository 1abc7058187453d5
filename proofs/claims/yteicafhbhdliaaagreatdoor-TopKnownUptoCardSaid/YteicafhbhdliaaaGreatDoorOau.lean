/- Part 21 of the proof: Yv Ys Zc Op Oq Rw Rq Zr. -/
import Derived.Test.YteicafhbhdliaaaGreatDoorOat
import Derived.ProofKit
import Derived.ChangeArms
import Derived.DataReads
import Derived.Test.YteicafhbhdliaaaGreatDoorRows
import Derived.Test.YteicafhbhdliaaaGreatDoorCards
import Derived.Test.YteicafhbhdliaaaGreatDoorTie
import Derived.WalkKit
import Derived.OpenShut
import Derived.Deep.DeepHandedRow
import Derived.Lib.LaidTab
import Derived.SizedLaws
import Derived.Carry
import Derived.ChangeMaps5
set_option linter.constructorNameAsVariable false
set_option linter.unusedSimpArgs false
set_option linter.unusedVariables false
set_option maxHeartbeats 4000000
set_option maxRecDepth 100000
namespace Go.Sl
open Go Go.Vc Go.Proofs Go.RowKit
theorem HZ : qE [usT [97] [spW, cW]] :=
 {few := (by decide : 1 <= 32)
  right := fun u hu => by rw [List.mem_singleton.1 hu]; decide +kernel
  apart := fun i h => by
   have : i = 0 := by have : i < 1 := h; omega
   subst this;exact Nat.not_lt_zero _ }
theorem kH {W V : Wo} {s : Stp} {j : Nat} (hV : (doT W s).1 = V) (h : PM (cx true) 24 (woO W) [.ptr 2000 0, .p s.pv] (woO (doT W s).1) (.tupS [tv (doT W s).2.1, iv (doT W s).2.2]) /\ aM 1 j (doT W s).1) : DoK W s V /\ aM 1 j V := by
 rw [hV] at h;obtain ⟨c, hc⟩ := Cw h.2.len;exact ⟨⟨_, _, c, hc, h.1⟩, h.2⟩
theorem xO : aM 1 0 wk0 := zy (s0 := [spW, cW]) (room := 8) (by decide) (by decide) (fun s hs => by
 rcases List.mem_cons.1 hs with rfl | hs
 ·decide
 ·rw [List.mem_singleton.1 hs]; decide) (by decide) (by decide)
theorem CU : (DoK wk0 st1 wk1 /\ aM 1 3 wk1) /\ (DoK wk1 (st2 (0 : Nat)) wk2 /\ aM 1 6 wk2) /\ (DoK wk2 (st3 (1 : Nat)) wk3 /\ aM 1 9 wk3) /\ (DoK wk3 (st2 (2 : Nat)) wk4 /\ aM 1 12 wk4) /\ (DoK wk4 (st3 (3 : Nat)) wk5 /\ aM 1 15 wk5) /\ (DoK wk5 (st2 (4 : Nat)) wk6 /\ aM 1 18 wk6) /\ (DoK wk6 (st3 (5 : Nat)) wk7 /\ aM 1 21 wk7) := by
 obtain ⟨_, _, p1, p2, p3, p4, p5, p6⟩ := xN;have i0 := xO;have s1 : DoK wk0 st1 wk1 /\ aM 1 3 wk1 := kH (IT i0.len) (zi wk0 i0 (by omega) 0 0 aD (by decide));have s2 : DoK wk1 (st2 (0 : Nat)) wk2 /\ aM 1 6 wk2 := kH (GN (by omega)) (mJ wk1 s1.2 (by omega) 0 _ aD (by decide));have s3 : DoK wk2 (st3 (1 : Nat)) wk3 /\ aM 1 9 wk3 := kH (GO s2.2.len (by omega)) (mK wk2 s2.2 (by omega) 0 _ aD (by decide));have s4 : DoK wk3 (st2 (2 : Nat)) wk4 /\ aM 1 12 wk4 := kH (GN (by omega)) (mJ wk3 s3.2 (by omega) 0 _ aD (by decide));have s5 : DoK wk4 (st3 (3 : Nat)) wk5 /\ aM 1 15 wk5 := kH (GO s4.2.len (by omega)) (mK wk4 s4.2 (by omega) 0 _ aD (by decide));have s6 : DoK wk5 (st2 (4 : Nat)) wk6 /\ aM 1 18 wk6 := kH (GN (by omega)) (mJ wk5 s5.2 (by omega) 0 _ aD (by decide));have s7 : DoK wk6 (st3 (5 : Nat)) wk7 /\ aM 1 21 wk7 := kH (GO s6.2.len (by omega)) (mK wk6 s6.2 (by omega) 0 _ aD (by decide));exact ⟨s1, s2, s3, s4, s5, s6, s7⟩
def wkS : Nat -> Wo
 | 0 => wk1
 | 1 => wk3
 | 2 => wk5
 | _ => wk7
theorem wkD : (wk7.k.iss.all fun x => decide (x.done.length <= 1000000000)) = true := by decide +kernel
theorem CV : K true 5 [] (.pv (.bool true)) := by
 obtain ⟨hs, hi, _⟩ := xN;obtain ⟨s1, s2, s3, s4, s5, s6, s7⟩ := CU;obtain ⟨c0, h0⟩ := Cw xO.len;refine CT (V0 := wk0) (Vs := wkS) (c0 := c0) h0 (Cq [spW, cW] 8 HZ (by decide) (by decide) (by decide)) s1.1 (fun i hi => ?_) hs hi (fun x hx => of_decide_eq_true (List.all_eq_true.1 wkD x hx))
 match i, hi with
 | 0, _ => exact ⟨wk2, s2.1, s3.1⟩
 | 1, _ => exact ⟨wk4, s4.1, s5.1⟩
 | 2, _ => exact ⟨wk6, s6.1, s7.1⟩
end Go.Sl
namespace Go.Sl
open Go Go.Vc Go.Proofs Go.RowKit
def gS (l : List Stp) : List PV := l.map Stp.pv
theorem jF (l : List Stp) : (gS l).length = l.length := List.length_map _
theorem CW {l : List Stp} {i : Nat} (h : i < l.length) : (gS l)[i]? = some (l[i]).pv := by
 rw [gS, List.getElem?_map, List.getElem?_eq_getElem h];rfl
def e1T : Tm := cI [101, 32, 49]
def sy (W : Wo) (p : Int) : Int := if p < 0 /\ -(W.pool.length : Int) <= p then W.pool.length + p else p
def pS (t : Tm) : Tm := if 60 < t.size then e1T else t
def ij (W : Wo) (x : Stp) : Stp := ⟨x.kind, x.who, sy W x.pos, pS x.t⟩
noncomputable def pt (W : Wo) (x : Stp) : Wo := (doT W (ij W x)).1
noncomputable def kI (W : Wo) (l : List Stp) : Wo := l.foldl pt W
theorem zA (W : Wo) {l : List Stp} {i : Nat} (h : i < l.length) : kI W (l.take (i + 1)) = pt (kI W (l.take i)) l[i] := by
 unfold kI;rw [List.take_succ_eq_append_getElem h, List.foldl_append];rfl
structure qO (x : Stp) : Prop where
 p0 : -9223372036854775808 <= x.pos
 p1 : x.pos <= 9223372036854775807
 wt : wt x.t <= 1200000
theorem EY {t : Tm} (h : wt t <= 1200000) : (pS t).size <= 60 /\ wt (pS t) <= 1200000 := by
 unfold pS;split
 ·exact ⟨by decide, by decide⟩
 ·exact ⟨by omega, h⟩
theorem uO {j : Nat} {W : Wo} (h : aM 2 j W) (hj : j <= 250) {x : Stp} (hx : qO x) : PM (cx true) 24 (woO W) [.ptr 2000 0, .p (ij W x).pv] (woO (pt W x)) (.tupS [tv (doT W (ij W x)).2.1, iv (doT W (ij W x)).2.2]) /\ aM 2 (j + 3) (pt W x) := by
 obtain ⟨h1, h2⟩ := EY hx.wt;have hp : sy W x.pos <= 9223372036854775807 := by
  unfold sy;split
  ·rename_i hc;have := h.plen;have := hc.1;omega
  ·exact hx.p1
 exact CC W h hj (ij W x) hp h1 h2
theorem pu {j : Nat} {W : Wo} (h : aM 2 j W) : ∀ (l : List Stp), (∀ x ∈ l, qO x) -> j + 3 * l.length <= 250 -> aM 2 (j + 3 * l.length) (kI W l) := by
 intro l
 induction l generalizing j W with
 | nil => intro _ _; exact h
 | cons x l ih =>
  intro hx hj;rw [List.length_cons] at hj ⊢;have h1 := (uO h (by omega) (hx x (List.mem_cons_self ..))).2;have h2 := ih h1 (fun y hy => hx y (List.mem_cons_of_mem _ hy)) (by omega);rw [show j + 3 * (l.length + 1) = j + 3 + 3 * l.length by omega];exact h2
theorem wJ (W : Wo) : ∀ (l : List Stp), (kI W l).given = W.given /\ (∃ m, (kI W l).pool = W.pool ++ m) /\ ∃ m, (kI W l).told = W.told ++ m := by
 intro l
 induction l generalizing W with
 | nil => exact ⟨rfl, ⟨[], by simp [kI]⟩, ⟨[], by simp [kI]⟩⟩
 | cons x l ih =>
  obtain ⟨a1, ⟨m1, a2⟩, ⟨m2, a3⟩⟩ := zu W (ij W x);obtain ⟨b1, ⟨m3, b2⟩, ⟨m4, b3⟩⟩ := ih (pt W x);have e : kI W (x :: l) = kI (pt W x) l := rfl;rw [e, b1, b2, b3];exact ⟨a1, ⟨m1 ++ m3, by show (doT W (ij W x)).1.pool ++ m3 = _; rw [a2, List.append_assoc]⟩, ⟨m2 ++ m4, by show (doT W (ij W x)).1.told ++ m4 = _; rw [a3, List.append_assoc]⟩⟩
theorem iQ (b : Bool) (s : Bs) : K b 6 [sv s] (.pv (TV (cI s))) := by
 refine pcv {} Tryz.func6 ?_;refine goL ?_;refine cC (yl b s) (goL ?_);exact LEP.refl _
theorem qP (t : Tm) (h : wt t <= 1200000) : K true 16 [tv t] (.pv (.int .i64 (t.size : Nat))) := by
 have hs : t.size <= wt t := xj t;have := AP true t (aE t (by omega));rw [show IntKind.i64.wrap (t.size : Nat) = ((t.size : Nat) : Int) from aq (n := t.size) rfl (by omega)] at this;exact this
structure H0 (W : Wo) (j : Nat) (l : List Stp) (most i : Nat) (V : Wo) (c d : Cln) : Prop where
 il : i <= l.length
 im : i <= most
 cs : V.cs = [c, d]
 eq : V = kI W (l.take i)
 inv : aM 2 (j + 3 * i) V
set_option maxHeartbeats 8000000 in
theorem CX {j : Nat} (W : Wo) (h : aM 2 j W) (l : List Stp) (most : Nat) (hj : j + 3 * most <= 250) (hl : ∀ x ∈ l, qO x) (hll : l.length <= 1000000000) :
  PM (cx true) 17 (woO W) [.ptr 2000 0, .p (.lst (gS l)), iv (most : Int)] (woO (kI W (l.take most))) (.tupS []) := by
 have hend := pu h (l.take most) (fun x hx => hl x (List.mem_of_mem_take hx)) (by rw [List.length_take]; omega);obtain ⟨c0, d0, h0⟩ := j9 h.len;obtain ⟨V, hV⟩ : ∃ V, V = kI W (l.take most) := ⟨_, rfl⟩
 rw [<- hV] at hend ⊢;obtain ⟨c1, d1, h1⟩ := j9 hend.len;have hW : W = { W with cs := [c0, d0] } := by rw [<- h0]
 have hVc : V = { V with cs := [c1, d1] } := by rw [<- h1]
 rw [hW, hVc];rw [<- hW, <- hVc];obtain ⟨k0, cs0, names0, pool0, given0, told0, bad0, lost0, now0, n0⟩ := W;simp only at h0;subst h0;obtain ⟨k1, cs1, names1, pool1, given1, told1, bad1, lost1, now1, n1⟩ := V;simp only at h1;subst h1;obtain ⟨W0, hW0⟩ : ∃ W0 : Wo, W0 = ⟨k0, [c0, d0], names0, pool0, given0, told0, bad0, lost0, now0, n0⟩ := ⟨_, rfl⟩
 refine pmv { own := oO [100025, 100058], kp := kpT [(9, [0, 1, 2, 6, 7], [7, 2000, 2001, 1001, 2006, 1003, 2005, 2010, 2011, 2013, 1012, 1014, 1010, 2020, 1020, 2030, 1030])] } Tryz.func17 ?_;refine goL ?_;refine ⟨{ x : Nat × Wo × Cln × Cln // H0 W0 j l most x.1 x.2.1 x.2.2.1 x.2.2.2 }, fun x => S.of [(0, .ptr 2000 0), (1, .p (.lst (gS l))), (2, iv (most : Int)), (6, iv (x.1.1 : Int))] (woO { x.1.2.1 with cs := [x.1.2.2.1, x.1.2.2.2] }), fun x => l.length - x.1.1, ⟨(0, W0, c0, d0), ?_⟩, ?_, ?_⟩
 ·exact ⟨Nat.zero_le _, Nat.zero_le _, by rw [hW0], rfl, by rw [hW0]; exact h⟩
 ·subst hW0;exact Ge.go
 rintro ⟨⟨i, V, c, d⟩, hI⟩
 obtain ⟨il, im, hcs, heq, hinv⟩ := hI;simp only at il im hcs heq hinv;obtain ⟨k, cs, names, pool, given, told, bad, lost, now, n⟩ := V;simp only at hcs;subst hcs;have hpl := hinv.plen;simp only at hpl;have hP := pa ⟨k, [c, d], names, pool, given, told, bad, lost, now, n⟩ c d rfl (by show pool.length <= 100000; omega);refine goL ?_;refine aa ?_ ?_ <;> intro h1
 ·have hlt : i < l.length := by have q : (i : Int) < ((gS l).length : Int) := of_decide_eq_true h1; rw [jF] at q; omega
  refine goL ?_;refine aa ?_ ?_ <;> intro h2
  ·have hltm : i < most := by have q : (i : Int) < (most : Int) := of_decide_eq_true h2; omega
   have hx := hl l[i] (List.getElem_mem hlt);have hget := CW hlt;have hnext := zA W0 hlt;rw [<- heq] at hnext;obtain ⟨hdo, hinv2⟩ := uO hinv (by omega) hx;revert hx hget hnext hdo hinv2;generalize l[i] = X;obtain ⟨kind, who, pos, t⟩ := X;intro hx hget hnext hdo hinv2;have hct := qP t hx.wt;obtain ⟨c2, d2, h22⟩ := j9 hinv2.len;revert hnext hdo hinv2 h22;generalize pt ⟨k, [c, d], names, pool, given, told, bad, lost, now, n⟩ ⟨kind, who, pos, t⟩ = V2;obtain ⟨k2, cs2, gk, pool2, given2, told2, pk, lost2, now2, n2⟩ := V2;intro hnext hdo hinv2 h22;simp only at h22;subst h22;have hfin : H0 W0 j l most (i + 1) ⟨k2, [c2, d2], gk, pool2, given2, told2, pk, lost2, now2, n2⟩ c2 d2 := ⟨hlt, hltm, rfl, hnext.symm, by rw [show j + 3 * (i + 1) = j + 3 * i + 3 by omega]; exact hinv2⟩
   refine goL ?_;refine ⟨Int.natCast_nonneg _, _, hget, rfl, rfl, goL ?_⟩;refine ac.go (gn [(1100, 25), (2101, 1001), (2103, 1003), (2110, 1010), (2120, 1020), (2130, 1030), (2112, 1012), (2114, 1014)]) hP (goL ?_);refine aa ?_ ?_ <;> intro h3
   ·have h3 : pos < 0 := of_decide_eq_true h3;refine goL ?_;refine ⟨-(pool.length : Int), aS (k := 0 - ((af pool).length : Int)) (by rw [ab]; omega) (by omega) (by rw [ab]; omega), goL ?_⟩;refine aa ?_ ?_ <;> intro h4
    ·have h4 : -(pool.length : Int) <= pos := of_decide_eq_true h4;refine goL ?_;refine ⟨(pool.length : Int) + pos, aS (k := ((af pool).length : Int) + pos) (by omega) (by rw [ab]; omega) (by rw [ab]), goL ?_⟩;refine cC hct (goL ?_);refine aa ?_ ?_ <;> intro h5
     ·have h5 : 60 < t.size := by have q : (60 : Int) < ((t.size : Nat) : Int) := of_decide_eq_true h5; omega
      refine goL ?_;refine cC (iQ true [101, 32, 49]) (goL ?_);have e : ij ⟨k, [c, d], names, pool, given, told, bad, lost, now, n⟩ ⟨kind, who, pos, t⟩ = ⟨kind, who, (pool.length : Int) + pos, e1T⟩ := by
       unfold ij sy pS;simp only;rw [if_pos ⟨h3, h4⟩, if_pos h5]
      rw [e] at hdo;refine ac.go gI hdo (goL ?_);refine ⟨_, aq (n := i + 1) rfl (by omega), goL ?_⟩;refine ⟨⟨(i + 1, ⟨k2, [c2, d2], gk, pool2, given2, told2, pk, lost2, now2, n2⟩, c2, d2), hfin⟩, ?_, by show l.length - (i + 1) < l.length - i; omega⟩;exact Ge.go
     ·have h5 : ¬ 60 < t.size := by have q : ¬ (60 : Int) < ((t.size : Nat) : Int) := of_decide_eq_false h5; omega
      refine goL ?_;have e : ij ⟨k, [c, d], names, pool, given, told, bad, lost, now, n⟩ ⟨kind, who, pos, t⟩ = ⟨kind, who, (pool.length : Int) + pos, t⟩ := by
       unfold ij sy pS;simp only;rw [if_pos ⟨h3, h4⟩, if_neg h5]
      rw [e] at hdo;refine ac.go gI hdo (goL ?_);refine ⟨_, aq (n := i + 1) rfl (by omega), goL ?_⟩;refine ⟨⟨(i + 1, ⟨k2, [c2, d2], gk, pool2, given2, told2, pk, lost2, now2, n2⟩, c2, d2), hfin⟩, ?_, by show l.length - (i + 1) < l.length - i; omega⟩;exact Ge.go
    ·have h4 : ¬ -(pool.length : Int) <= pos := of_decide_eq_false h4;refine goL ?_;refine cC hct (goL ?_);refine aa ?_ ?_ <;> intro h5
     ·have h5 : 60 < t.size := by have q : (60 : Int) < ((t.size : Nat) : Int) := of_decide_eq_true h5; omega
      refine goL ?_;refine cC (iQ true [101, 32, 49]) (goL ?_);have e : ij ⟨k, [c, d], names, pool, given, told, bad, lost, now, n⟩ ⟨kind, who, pos, t⟩ = ⟨kind, who, pos, e1T⟩ := by
       unfold ij sy pS;simp only;rw [if_neg (fun hc => h4 hc.2), if_pos h5]
      rw [e] at hdo;refine ac.go gI hdo (goL ?_);refine ⟨_, aq (n := i + 1) rfl (by omega), goL ?_⟩;refine ⟨⟨(i + 1, ⟨k2, [c2, d2], gk, pool2, given2, told2, pk, lost2, now2, n2⟩, c2, d2), hfin⟩, ?_, by show l.length - (i + 1) < l.length - i; omega⟩;exact Ge.go
     ·have h5 : ¬ 60 < t.size := by have q : ¬ (60 : Int) < ((t.size : Nat) : Int) := of_decide_eq_false h5; omega
      refine goL ?_;have e : ij ⟨k, [c, d], names, pool, given, told, bad, lost, now, n⟩ ⟨kind, who, pos, t⟩ = ⟨kind, who, pos, t⟩ := by
       unfold ij sy pS;simp only;rw [if_neg (fun hc => h4 hc.2), if_neg h5]
      rw [e] at hdo;refine ac.go gI hdo (goL ?_);refine ⟨_, aq (n := i + 1) rfl (by omega), goL ?_⟩;refine ⟨⟨(i + 1, ⟨k2, [c2, d2], gk, pool2, given2, told2, pk, lost2, now2, n2⟩, c2, d2), hfin⟩, ?_, by show l.length - (i + 1) < l.length - i; omega⟩;exact Ge.go
   ·have h3 : ¬ pos < 0 := of_decide_eq_false h3;refine goL ?_;refine cC hct (goL ?_);refine aa ?_ ?_ <;> intro h5
    ·have h5 : 60 < t.size := by have q : (60 : Int) < ((t.size : Nat) : Int) := of_decide_eq_true h5; omega
     refine goL ?_;refine cC (iQ true [101, 32, 49]) (goL ?_);have e : ij ⟨k, [c, d], names, pool, given, told, bad, lost, now, n⟩ ⟨kind, who, pos, t⟩ = ⟨kind, who, pos, e1T⟩ := by
      unfold ij sy pS;simp only;rw [if_neg (fun hc => h3 hc.1), if_pos h5]
     rw [e] at hdo;refine ac.go gI hdo (goL ?_);refine ⟨_, aq (n := i + 1) rfl (by omega), goL ?_⟩;refine ⟨⟨(i + 1, ⟨k2, [c2, d2], gk, pool2, given2, told2, pk, lost2, now2, n2⟩, c2, d2), hfin⟩, ?_, by show l.length - (i + 1) < l.length - i; omega⟩;exact Ge.go
    ·have h5 : ¬ 60 < t.size := by have q : ¬ (60 : Int) < ((t.size : Nat) : Int) := of_decide_eq_false h5; omega
     refine goL ?_;have e : ij ⟨k, [c, d], names, pool, given, told, bad, lost, now, n⟩ ⟨kind, who, pos, t⟩ = ⟨kind, who, pos, t⟩ := by
      unfold ij sy pS;simp only;rw [if_neg (fun hc => h3 hc.1), if_neg h5]
     rw [e] at hdo;refine ac.go gI hdo (goL ?_);refine ⟨_, aq (n := i + 1) rfl (by omega), goL ?_⟩;refine ⟨⟨(i + 1, ⟨k2, [c2, d2], gk, pool2, given2, told2, pk, lost2, now2, n2⟩, c2, d2), hfin⟩, ?_, by show l.length - (i + 1) < l.length - i; omega⟩;exact Ge.go
  ·have hge : most <= i := by have q : ¬ (i : Int) < (most : Int) := of_decide_eq_false h2; omega
   have hVe : (⟨k, [c, d], names, pool, given, told, bad, lost, now, n⟩ : Wo) = ⟨k1, [c1, d1], names1, pool1, given1, told1, bad1, lost1, now1, n1⟩ := by
    rw [heq, hV, hW0];exact congrArg _ (by rw [show i = most by omega])
   cases hVe;refine goL ?_;refine ⟨gI, rfl, ?_, rfl, rfl⟩
   repeat ((conv => whnf); refine ⟨.inr (.inl rfl), ?_⟩)
   trivial
 ·have hge : l.length <= i := by have q : ¬ (i : Int) < ((gS l).length : Int) := of_decide_eq_false h1; rw [jF] at q; omega
  have hVe : (⟨k, [c, d], names, pool, given, told, bad, lost, now, n⟩ : Wo) = ⟨k1, [c1, d1], names1, pool1, given1, told1, bad1, lost1, now1, n1⟩ := by
   rw [heq, hV, hW0];exact congrArg _ (by rw [List.take_of_length_le hge, List.take_of_length_le (by omega)])
  cases hVe;refine goL ?_;refine ⟨gI, rfl, ?_, rfl, rfl⟩
  repeat ((conv => whnf); refine ⟨.inr (.inl rfl), ?_⟩)
  trivial
end Go.Sl
namespace Go.Sl
open Go Go.Vc Go.Proofs Go.RowKit
theorem CY (l : List Stp) (a b : Nat) : cut (gS l) a b = gS (cut l a b) := by
 unfold cut gS;rw [List.map_take, List.map_drop]
theorem sA : ∀ (l : List Stp), gm (true, 6) (gS l)
 | [] => trivial
 | s :: l => ⟨rfl, sA l⟩
theorem sB {l : List Stp} {a b : Nat} {x : Stp} (h : x ∈ cut l a b) : x ∈ l := List.mem_of_mem_drop (List.mem_of_mem_take h)
theorem CZ (l : List Stp) (a b : Nat) : (cut l a b).length <= l.length := by
 unfold cut;rw [List.length_take, List.length_drop];omega
theorem H1 : qE [usT [97] [chW], usT [98] [spW, cW]] :=
 {few := (by decide : 2 <= 32)
  right := fun u hu => by
   rcases List.mem_cons.1 hu with rfl | hu
   ·decide +kernel
   ·rw [List.mem_singleton.1 hu]; decide +kernel
  apart := fun i h => by
   have : i = 0 \/ i = 1 := by have : i < 2 := h; omega
   rcases this with rfl | rfl
   ·exact Nat.not_lt_zero _
   ·show ¬ uix [98] [usT [97] [chW]] < 1
    decide +kernel }
abbrev gV : Nat -> Nat := fun k => cond (Nat.ble 2000 k) (k - 400) k
abbrev gVQ (n : Nat) : Nat -> Nat := fun k => cond (Nat.ble 2100 k) (k - 1100) (cond (Nat.ble 2000 k) (k - 400) (cond (Nat.beq k 1100) n k))
theorem zB {b : Bool} {A B : Prop} {G ok : Tm -> Prop} (h2 : b = false -> (∀ T, ok T -> G T) -> B) (h1 : b = true -> (∀ T, ok T -> G T) -> A) (main : ∀ T, ok T -> G T) : Bool.rec (motive := fun _ => Prop) B A b := by
 cases b with
 | true => exact h1 rfl main
 | false => exact h2 rfl main
theorem H2 {l : List (Nat × SV)} {o : List (Nat × AO)} {Q : Prop} (h : okS l o = true) (q : Q) : okS l o = true /\ Q := ⟨h, q⟩
theorem goK {P Q : Prop} (h : Q) (e : Q -> P := by (intro h; (repeat (conv => whnf); first|refine H2 (by kernel_rfl) ?_|refine k7 (by kernel_rfl) ?_|refine rz (by kernel_rfl) ?_|refine ⟨rfl,?_⟩|refine And.intro (by first|decide|exact trivial|exact ⟨rfl,trivial⟩|exact Nat.le_of_ble_eq_true rfl|exact ⟨_,rfl,rfl⟩|exact ⟨rfl,rfl,trivial⟩) ?_); (conv => whnf); exact h)) : P := e h
set_option maxHeartbeats 8000000 in
theorem C0 (l : List Stp) (t : Tm) {h : Nat} (hh : h = l.length / 2) (hll : l.length <= 1000000000) {W0 W1 W2 : Wo} {j1 j2 : Nat} (i0 : aM 2 0 W0) (i1 : aM 2 j1 W1) (i2 : aM 2 j2 W2) (hj1 : j1 <= 90) (hj2 : j2 <= 180)
  (hn : PM (cx true) 15 [] [.p (.lst [.lst (aC [chW]), .lst (aC [spW, cW])]), iv 16] (woO W0) (.tupS [.ptr 2000 0, iv 0]))
  (r1 : PM (cx true) 17 (woO W0) [.ptr 2000 0, .p (.lst (cut (gS l) 0 h)), iv 30] (woO W1) (.tupS []))
  (r2 : PM (cx true) 17 (woO W1) [.ptr 2000 0, .p (.lst (cut (gS l) h (gS l).length)), iv 30] (woO W2) (.tupS []))
  (hg : W1.pool.length <= W2.pool.length) (hm : ∀ T, knT (frT W1) T = true -> knT (frT W2) T = true) (hw : wt t <= 1200000) : K true 4 [.p (.lst (gS l)), tv t] (.pv (.bool true)) := by
 have hK1 : ∀ T, wt T <= 1000000000 -> K true 18 [lv (frT W1), tv T] (.pv (.bool (knT (frT W1) T))) := j4 (i1.frame (by omega));have hK2 : ∀ T, wt T <= 1000000000 -> K true 18 [lv (frT W2), tv T] (.pv (.bool (knT (frT W2) T))) := j4 (i2.frame (by omega));have hP : ∀ p ∈ W2.pool, knT (frT W2) p = true /\ K true 21 [tv p] (.pv (.bool false)) /\ wt p <= 1000000000 := fun p hp => by
  have hpo := i2.pool p hp;have hwp : wt p <= 1000000000 := by have := hpo.g.wt; omega
  have hno := eI true p (aE p hwp);rw [show (ao dS 0 p).isSome = false from hpo.nn] at hno;refine ⟨wy ?_ hpo, hno, hwp⟩;unfold frT;exact List.mem_append_left _ (List.mem_append_right _ hp)
 have hct := qP t hw;obtain ⟨c0, d0, h0⟩ := j9 i0.len;obtain ⟨c1, d1, h1⟩ := j9 i1.len;obtain ⟨c2, d2, h2⟩ := j9 i2.len;have fl1 : (frT W1).length <= 100000000 := by have h1 := (i1.frame (by omega)).sz; have h2 := fU (frT W1); omega
 have fl2 : (frT W2).length <= 100000000 := by have h1 := (i2.frame (by omega)).sz; have h2 := fU (frT W2); omega
 have hF1 := j5 W1 c1 d1 h1 (by rw [i1.given]; decide) fl1;have hF2 := j5 W2 c2 d2 h2 (by rw [i2.given]; decide) fl2;have hQ1 := pa W1 c1 d1 h1 (by have := i1.plen; omega);have hQ2 := pa W2 c2 d2 h2 (by have := i2.plen; omega);have hpl : W2.pool.length <= 180 := Nat.le_trans i2.plen hj2;clear i0 i1 i2 fl1 fl2;revert hF1 hF2 hK1 hK2 hm hP;generalize frT W1 = F1;generalize frT W2 = F2;intro hm hK1 hK2 hP hF1 hF2;obtain ⟨k0, cs0, names0, pool0, given0, told0, bad0, lost0, now0, n0⟩ := W0;simp only at h0;subst h0;obtain ⟨k1, cs1, names1, pool1, given1, told1, bad1, lost1, now1, n1⟩ := W1;simp only at h1;subst h1;obtain ⟨k2, cs2, gk, pool2, given2, told2, pk, lost2, now2, n2⟩ := W2;simp only at h2;subst h2;simp only at hg hP hpl;have hsl := jF l;refine pcv { own := oO [100019, 100043, 100045, 700045, 900045, 100049, 100055, 100057, 100059], fz := fun r => cond (Nat.beq r 14) [1200, 1400] [], kp := kpT [(7, [0, 3, 4, 6], [3, 1600, 1601, 1001, 1606, 1003, 1605, 1610, 1611, 1613, 1012, 1014, 1010, 1620, 1020, 1630, 1030]), (9, [0, 3, 4, 6, 8], [3, 1600, 1601, 1001, 1606, 1003, 1605, 1610, 1611, 1613, 1012, 1014, 1010, 1620, 1020, 1630, 1030]), (10, [0, 3, 4, 6, 8, 9], [3, 1600, 1601, 1001, 1606, 1003, 1605, 1610, 1611, 1613, 1012, 1014, 1010, 1620, 1020, 1630, 1030]), (11, [0, 3, 4, 6, 8, 9, 10], [3, 1600, 1601, 1001, 1606, 1003, 1605, 1610, 1611, 1613, 1012, 1014, 1010, 1620, 1020, 1630, 1030]), (12, [3, 4, 6, 9, 10], [3, 1600, 1601, 1001, 1606, 1003, 1605, 1610, 1611, 1613, 1012, 1014, 1010, 1620, 1020, 1630, 1030]), (13, [3, 4, 6, 9, 10, 11], [3, 1600, 1601, 1001, 1606, 1003, 1605, 1610, 1611, 1613, 1012, 1014, 1010, 1620, 1020, 1630, 1030, 1200]), (14, [3, 4, 9, 10, 11, 12], [3, 1200, 1400])], tr := trT [(9, [0, 1, 0, 7, 15], .pin 2 (qQ [0, 1, 3, 4] .fin))] } Tryz.func4 ?_
 refine goK ?_;refine cC CV (goK ?_);refine ac.go gV hn ?_ (hc := by kernel_rfl);refine goK ?_;refine cC hct (goK ?_)
 apply zB (ok := fun T => wt T <= 1200000)
 ·intro _ m;refine goK ?_;generalize e : t = T;exact m T (e ▸ hw)
 ·intro _ m;refine goK ?_;refine cC (iQ true [101, 32, 49]) (goK ?_);exact m e1T (by decide)
 clear hct hw t;intro t hw;refine ⟨(h : Int), by rw [hsl, hh]; exact aq (n := l.length / 2) rfl (by omega), goK ?_⟩;refine ⟨⟨_, rfl, sA l⟩, goK ?_⟩;refine ⟨Int.natCast_nonneg _, goK ?_⟩;refine ⟨by show h <= (gS l).length; rw [hsl]; omega, goK ?_⟩;refine ⟨Nat.le_refl _, goK ?_⟩;refine ac.go gV r1 ?_ (hc := by kernel_rfl);refine goK ?_;refine ⟨_, cH.pr (gVQ 1945) hF1 ⟨LE.of rfl, trivial⟩ (by (conv => whnf); exact ⟨.inr (.inl rfl), .inr (.inl rfl), .inr (.inl rfl), .inr (.inl rfl), .inr (.inl rfl), .inr (.inl rfl), .inr (.inl rfl), .inr (.inl rfl), .inr (.inl rfl), .inr (.inl rfl), .inr (.inl rfl), .inr (.inl rfl), .inr (.inl rfl), .inr (.inl rfl), .inr (.inl rfl), .inr (.inl rfl), trivial⟩) (by kernel_rfl) (by kernel_rfl) (by kernel_rfl), goK ?_⟩;have hk1 := hK1 t (by omega);have hk2 := hK2 t (by omega);have hmt := hm t;revert hk1 hk2 hmt;generalize knT F1 t = a;generalize knT F2 t = b;intro hk1 hk2 hmt
 refine cC hk1 (goK ?_);refine ac.go (gVQ 1300) hQ1 ?_ (hc := by kernel_rfl);refine goK ?_;refine ⟨⟨_, rfl, sA l⟩, goK ?_⟩;refine ⟨Int.natCast_nonneg _, goK ?_⟩;refine ⟨by show h <= (gS l).length; rw [hsl]; omega, goK ?_⟩;refine ⟨Nat.le_refl _, Nat.le_refl _, goK ?_⟩;refine ac.go gV r2 ?_ (hc := by kernel_rfl);refine goK ?_;refine ac.go (gVQ 1200) hF2 ?_ (hc := by kernel_rfl);refine goK ?_;refine ac.go (gVQ 1400) hQ2 ?_ (hc := by kernel_rfl);refine goK ?_;clear hQ1 hQ2 hF1 hF2 hn r1 r2;refine ⟨Rd pool2.length, fun i => S.of [(3, .ptr 3 0), (4, .p (.bool false)), (9, .p (.bool a)), (10, iv ((af pool1).length : Int)), (11, lv F2), (12, lv pool2), (13, iv (i.1 : Int))] [(3, .var true 26 (tv t))], fun i => pool2.length - i.1, Rd.zero _, ?_, ?_⟩
 ·exact Ge.go
 rintro ⟨i, hi⟩
 refine goK ?_;refine aa ?_ ?_ <;> intro h1
 ·have hlt : i < pool2.length := by have q := of_decide_eq_true h1; rw [ab] at q; exact Int.ofNat_lt.1 q
  obtain ⟨q1, q2, q3⟩ := hP pool2[i] (List.getElem_mem hlt);have hget := dm hlt;have hkp := hK2 pool2[i] q3;rw [q1] at hkp;revert hget hkp q2;generalize pool2[i] = p;intro q2 hget hkp;refine goK ?_;refine ⟨Int.natCast_nonneg _, _, hget, rfl, rfl, goK ?_⟩;refine cC hkp (goK ?_);refine ⟨Int.natCast_nonneg _, _, hget, rfl, rfl, goK ?_⟩;refine cC q2 (goK ?_);refine ⟨_, aq (n := i + 1) rfl (by omega), goK ?_⟩;refine ⟨⟨i + 1, hlt⟩, ?_, by show pool2.length - (i + 1) < pool2.length - i; omega⟩;exact Ge.go
 ·refine goK ?_;refine aa ?_ ?_ <;> intro h2
  ·refine goK ?_;cases a with
   | false =>
    refine goK ?_;exact LEP.refl _
   | true =>
    obtain rfl : b = true := hmt rfl;refine goK ?_;refine cC hk2 (goK ?_);exact LEP.refl _
  ·have h2 := of_decide_eq_false h2;rw [ab, ab] at h2;exact absurd (by omega) h2
theorem qR {l : List Stp} (h : ∀ s ∈ l, qO s) (a b n : Nat) : ∀ s ∈ (cut l a b).take n, qO s := fun s hs => h s (sB (List.mem_of_mem_take hs))
theorem uP (l : List Stp) (t : Tm) (hl : ∀ s ∈ l, qO s) (hll : l.length <= 1048576) (ft : Fit t) (hw : wt t <= 1048576) : K true 4 [.p (.lst (gS l)), tv t] (.pv (.bool true)) := by
 have i0 : aM 2 0 (wC [[chW], [spW, cW]] 16) := zz (by decide) (by decide) (by decide) (by decide) (by decide) (by decide) (by decide) (by decide);have hn := Cr [chW] [spW, cW] 16 H1 (by decide) (by decide) (by decide) (by decide);obtain ⟨W0, hW0⟩ : ∃ W, W = wC [[chW], [spW, cW]] 16 := ⟨_, rfl⟩
 rw [<- hW0] at i0 hn;have l1 : ((cut l 0 (l.length / 2)).take 30).length <= 30 := by rw [List.length_take]; omega
 have l2 : ((cut l (l.length / 2) l.length).take 30).length <= 30 := by rw [List.length_take]; omega
 have i1 := pu i0 ((cut l 0 (l.length / 2)).take 30) (qR hl _ _ _) (by omega);have i2 := pu i1 ((cut l (l.length / 2) l.length).take 30) (qR hl _ _ _) (by omega);have c1 := CZ l 0 (l.length / 2);have c2 := CZ l (l.length / 2) l.length;have r1 := CX W0 i0 (cut l 0 (l.length / 2)) 30 (by omega) (fun s hs => hl s (sB hs)) (by omega);have r2 := CX _ i1 (cut l (l.length / 2) l.length) 30 (by omega) (fun s hs => hl s (sB hs)) (by omega);obtain ⟨g1, ⟨m1, g2⟩, ⟨m2, g3⟩⟩ := wJ (kI W0 ((cut l 0 (l.length / 2)).take 30)) ((cut l (l.length / 2) l.length).take 30);rw [<- CY] at r1 r2;refine C0 l t rfl (by omega) i0 i1 i2 (by omega) (by omega) hn r1 (by rw [jF]; exact r2) (by rw [g2, List.length_append]; omega) (fun T hT => BV (fun u hu => ?_) hT) (by omega);unfold frT at hu ⊢;rw [g1, g2, g3];simp only [List.mem_append] at hu ⊢;rcases hu with (hu | hu) | hu
 ·exact .inl (.inl hu)
 ·exact .inl (.inr (.inl hu))
 ·exact .inr (.inl hu)
end Go.Sl
namespace Go.Sl
open Go Go.Vc Go.Proofs Go.RowKit
theorem mN : Tryz.prog.cellsOf 26 = 3 := by kernel_rfl
theorem jG : Tryz.prog.cellsOf 3 = 1 := by kernel_rfl
theorem uQ : Tryz.prog.cellsOf 9 = 1 := by kernel_rfl
theorem wK : Tryz.prog.cellsOf 24 = 1 := by kernel_rfl
theorem C1 : Tryz.prog.underlying 24 = some (.slice 26) := Tryz.underlying24
theorem px : Tryz.prog.underlying 3 = some (.int .i64) := Tryz.underlying3
theorem C2 : Tryz.prog.underlying 9 = some .string := Tryz.underlying9
theorem wL : ∃ fs : Array Field, Tryz.prog.underlying 26 = some (.struct fs) /\ fs.toList.map (fun f => (f.offset, f.type)) = [(0, 3), (1, 9), (2, 24)] := ⟨_, Tryz.underlying26, by kernel_rfl⟩
abbrev okW (W : World) : Nat -> Prop := fun b => b < W.heap.size
theorem jH {α : Type} {Q : Nat -> α -> Prop} : ∀ {n : Nat}, (∀ i, i < n -> ∃ x, Q i x) -> ∃ l : List α, l.length = n /\ ∀ i x, l[i]? = some x -> Q i x
 | 0, _ => ⟨[], rfl, fun i x h => by simp at h⟩
 | n + 1, h => by
  obtain ⟨l, hl, hq⟩ := jH (n := n) fun i hi => h i (by omega)
  obtain ⟨x, hx⟩ := h n (by omega);refine ⟨l ++ [x], by simp [hl], fun i y hy => ?_⟩
  by_cases hi : i < l.length
  ·rw [List.getElem?_append_left hi] at hy;exact hq i y hy
  ·rw [List.getElem?_append_right (by omega)] at hy;have : i - l.length = 0 := by
    rcases Nat.eq_zero_or_pos (i - l.length) with h0 | h0
    ·exact h0
    ·rw [List.getElem?_eq_none (by simp only [List.length_singleton]; omega)] at hy; cases hy
   rw [this] at hy;simp at hy;subst hy
   rwa [show i = n by omega]
theorem GQ {α : Type} : ∀ {l : List α}, l.length = 3 -> ∃ a b c, l = [a, b, c]
 | [a, b, c], _ => ⟨a, b, c, rfl⟩
section
variable {H : Type} {enc : TypeId × Value -> H} {W : World} {sp : Nat -> Bool} {held : Bool}
theorem EZ {l : List Tm} (h : ∀ (i : Nat) t, l[i]? = some t -> Fit t) : ∀ t ∈ l, Fit t := fun t ht => by
 obtain ⟨i, hi, rfl⟩ := List.mem_iff_getElem.1 ht;exact h i _ (List.getElem?_eq_getElem hi)
end
end Go.Sl
namespace Go.Sl
open Go Go.Vc Go.Proofs Go.RowKit
open Go.Proofs.YteicafhbhdliaaaGreatDoor
section
variable {H : Type} {enc : TypeId × Value -> H} {W : World} {sp : Nat -> Bool} {held : Bool}
theorem uR : ∀ (l : List Tm) (elems : List (DataW H × List MemPlace)), l.length = elems.length -> (∀ (i : Nat) (t : Tm), l[i]? = some t -> ∃ y : DataW H × List MemPlace, elems[i]? = some y /\ wt t <= Rows.uptoBulk y.1) -> wts l <= Rows.uptoBulkAll (elems.map (·.1))
 | [], _, _, _ => Nat.zero_le _
 | t :: l, [], h, _ => by simp at h
 | t :: l, y :: elems, h, hl => by
  obtain ⟨z, h1, h2⟩ := hl 0 t rfl;simp at h1;subst h1;have := uR l elems (by simpa using h) fun i u hu => by
   obtain ⟨z, h1, h2⟩ := hl (i + 1) u (by simpa using hu);exact ⟨z, by simpa using h1, h2⟩
  simp only [List.map_cons, wts, Rows.uptoBulkAll];omega
theorem mO : ∀ fuel : Nat,
  (∀ (cs : List Value) x, DataW.trod enc Tryz.prog W 0 sp held fuel 26 cs = some x -> ∃ t : Tm, Fit t /\ RP (okW W) W (TV t) (.agg cs.toArray) /\ cs.length = 3 /\ wt t <= Rows.uptoBulk x.1) /\
  (∀ (v : Value) x, DataW.trod enc Tryz.prog W 0 sp held fuel 24 [v] = some x -> ∃ l : List Tm, (∀ t ∈ l, Fit t) /\ RP (okW W) W (.lst (af l)) v /\ l.length <= maxLen /\ wts l <= Rows.uptoBulk x.1)
 | 0 => ⟨fun cs x h => by simp [DataW.trod] at h, fun v x h => by simp [DataW.trod] at h⟩
 | n + 1 => by
  obtain ⟨ihT, ihL⟩ := mO n;refine ⟨fun cs x h => ?_, fun v x h => ?_⟩
  ·obtain ⟨fs, hu, hfs⟩ := wL;obtain ⟨xs, m, hm, hxe, hlen, hxl, hget⟩ := DataW.trod_struct hu h;rw [mN] at hlen;obtain rfl : n = m := by omega
   obtain ⟨c0, c1, c2, rfl⟩ := GQ hlen;have hfl : fs.toList.length = 3 := by have := congrArg List.length hfs; simpa using this
   have hf3 : fs.size = 3 := (Array.length_toList (xs := fs)).symm.trans hfl;have hfi : ∀ i (hi : i < 3) , ∃ f, fs[i]? = some f /\ [(0, 3), (1, 9), (2, 24)][i]? = some (f.offset, f.type) := by
    intro i hi;have : (fs.toList.map (fun f => (f.offset, f.type)))[i]? = _ := congrArg (·[i]?) hfs;rw [List.getElem?_map] at this;have hlt : i < fs.toList.length := by omega
    rw [List.getElem?_eq_getElem hlt] at this;exact ⟨fs.toList[i], by simp, this.symm⟩
   have hx : ∀ i, i < 3 -> ∃ y, xs[i]? = some y := fun i hi => ⟨xs[i]'(by rw [hxl, hf3]; exact hi), List.getElem?_eq_getElem _⟩
   obtain ⟨f0, g0, e0⟩ := hfi 0 (by omega);obtain ⟨f1, g1, e1⟩ := hfi 1 (by omega);obtain ⟨f2, g2, e2⟩ := hfi 2 (by omega);simp at e0 e1 e2;obtain ⟨y0, k0⟩ := hx 0 (by omega);obtain ⟨y1, k1⟩ := hx 1 (by omega);obtain ⟨y2, k2⟩ := hx 2 (by omega);have q0 := (hget 0 f0 g0).trans k0;have q1 := (hget 1 f1 g1).trans k1;have q2 := (hget 2 f2 g2).trans k2;rw [<- e0.1, <- e0.2, jG] at q0;rw [<- e1.1, <- e1.2, uQ] at q1;rw [<- e2.1, <- e2.2, wK] at q2;obtain ⟨k, hk, hy0, _⟩ := DataW.trod_int px q0;obtain ⟨s, hs, hy1, hsz⟩ := DataW.trod_string C2 q1;obtain ⟨l, hl, hr, hll, hw⟩ := ihL c2 _ q2;simp at hk hs;subst hk hs;refine ⟨.mk k s.data.toList l, .mk hll (Nat.le_trans (Nat.le_of_eq (Array.length_toList (xs := s.data))) hsz) hl, ?_, rfl, ?_⟩
   rotate_left
   ·have hx3 : xs = [y0, y1, y2] := by
     obtain ⟨z0, z1, z2, rfl⟩ := GQ (hxl.trans hf3);simp at k0 k1 k2;rw [k0, k1, k2]
    rw [hxe, hx3, hy0, hy1];simp only [List.map_cons, List.map_nil, Rows.uptoBulk, Rows.uptoBulkAll, wt];omega
   rw [TV, RP];refine ⟨[.int .i64 k, .string s, c2], rfl, ?_, ?_⟩
   ·intro u hu;simp at hu;rcases hu with rfl | rfl | rfl
    ·rfl
    ·rfl
    ·rw [RP] at hr;obtain ⟨A, cap, sz, rfl, _⟩ := hr;rfl
   ·refine ⟨by rw [RP]; rfl, ?_, hr, trivial⟩;rw [RP];rfl
  ·rcases DataW.trod_slice C1 h with ⟨hv, _⟩ | ⟨a, len, cap, elems, rest, m, hm, hv, hxe, _, hlc, hcm, hel, hget, _⟩
   ·simp at hv;subst hv;refine ⟨[], by simp, ?_, Nat.zero_le _, Nat.zero_le _⟩;rw [RP];exact ⟨none, 0, 3, rfl, Nat.le_refl _, by simp [maxLen], trivial⟩
   ·simp at hv;subst hv;obtain rfl : n = m := by omega
    have hex : ∀ i, i < len -> ∃ t : Tm, Fit t /\ a.block < W.heap.size /\ ∃ c, RP (okW W) W (TV t) c /\ c.cells.size = 3 /\ (∀ j u, c.cells[j]? = some u -> W.cell? (a.add (i * 3 + j)) = some u) /\ ∃ y, elems[i]? = some y /\ wt t <= Rows.uptoBulk y.1 := by
     intro i hi;have h1 := hget i hi;rw [mN, List.getElem?_eq_getElem (by omega)] at h1;obtain ⟨cs, hcs, ht⟩ := Option.bind_eq_some_iff.1 h1;obtain ⟨t, hf, hr, h3, hw⟩ := ihT cs _ ht;have hb := World.cells?_block hcs (by omega);obtain ⟨_, _, hc⟩ := World.cells?_some hcs;refine ⟨t, hf, by rwa [dM] at hb, .agg cs.toArray, hr, by simp [Value.cells, h3], fun j u hu => ?_, _, List.getElem?_eq_getElem (by omega), hw⟩;simp only [Value.cells, List.getElem?_toArray] at hu;have hj : j < 3 := by
      have := (List.getElem?_eq_some_iff.1 hu).1;omega
     rw [<- gu, hc j hj, hu]
    obtain ⟨l, hll, hl⟩ := jH hex;refine ⟨l, EZ fun i t ht => (hl i t ht).1, ?_, by omega, ?_⟩
    rotate_left
    ·rw [hxe];have hsum : wts l <= Rows.uptoBulkAll (elems.map (·.1)) := uR l elems (by omega) fun i t ht => by
      obtain ⟨_, _, _, _, _, _, y, h1, h2⟩ := hl i t ht;exact ⟨y, h1, h2⟩
     simp only [Rows.uptoBulk];omega
    rw [RP, ab, hll];refine ⟨some a, cap, 3, rfl, hlc, hcm, iY fun i x hx => ?_⟩;rw [cw, List.getElem?_map] at hx;obtain ⟨t, ht, rfl⟩ := Option.map_eq_some_iff.1 hx;obtain ⟨_, hb, c, h1, h2, h3, _⟩ := hl i t ht;exact ⟨a, c, rfl, hb, h1, h2, by simpa using h3⟩
end
end Go.Sl
namespace Go.Sl
open Go Go.Vc Go.Proofs Go.RowKit Go.ChangeShapes Go.WideShapes Go.ChangeAt
open Go.Proofs.YteicafhbhdliaaaGreatDoor
theorem own : ownKnob Tryz.prog.godebug = none := by kernel_rfl
theorem E0 : laidOutB Tryz.prog = true := by kernel_rfl
theorem xP : Tryz.prog.underlying 4 = some .bool := Tryz.underlying4
theorem b9 {P : Program} {W : World} {x : String × DataW Unit} {l : List (String × DataW Unit)} (h : laidMet P (x :: l) W) : laidMet P l W := by
 obtain ⟨n, d⟩ := x;obtain ⟨ps, ⟨g, t, cs, fuel, p, q, _, _, _, _, hr, e⟩, hn, hc⟩ := h;subst e;rw [List.nodup_append] at hn;exact ⟨q, hr, hn.2.1, fun b off hm => hc b off (List.mem_append_right _ hm)⟩
theorem IU : Tryz.prog.globalNamed "internal/strconv.uint64pow10" = some 3 := by kernel_rfl
theorem zC {H : Type} {enc : TypeId × Value -> H} {W W' : World} (hb : Below W.heap.size W W') {ts : List TypeId} : ∀ {vs : List Value} {ds : List (DataW H)} {ps : List MemPlace},
  (ts.all fun t => Tryz.prog.readableRec t && decide (t < Tryz.prog.types.size)) = true -> DataW.TrodAll enc Tryz.prog W 0 (fun _ => true) true ts vs ds ps ->
   (∀ x ∈ ps, x.block < W.heap.size) -> DataW.TrodAll enc Tryz.prog W' 0 (fun b => decide (b < W.heap.size)) true ts vs ds ps := by
 induction ts with
 | nil =>
  intro vs ds ps _ h _;obtain ⟨rfl, rfl, rfl⟩ := trodAll_nil h;rfl
 | cons t ts ih =>
  intro vs ds ps hts h hlt;obtain ⟨v, vs', d, ds', p, q, rfl, rfl, rfl, h1, h2⟩ := trodAll_cons h;rw [List.all_cons, Bool.and_eq_true, Bool.and_eq_true] at hts;exact ⟨p, q, Below.trod E0 hts.1.1 (of_decide_eq_true hts.1.2) h1 hb fun x hx => hlt x (List.mem_append_left _ hx), ih hts.2 h2 fun x hx => hlt x (List.mem_append_right _ hx), rfl⟩
theorem zD {H : Type} {enc : TypeId × Value -> H} {fn : Func} {s : ChangeSpec} {W W' : World} {args : Array Value} {ds gs : List (DataW H)} {before : List MemPlace}
  (hres : fn.resultTypes = #[4]) (hv : s.vars = []) (hts : (fn.params.toList.all fun t => Tryz.prog.readableRec t && decide (t < Tryz.prog.types.size)) = true)
  (hs : s.fn H (ds ++ gs) = { results := [.lit (.bool true)], args := ds }) (hW : DataW.Whole enc Tryz.prog fn.params.toList s.vars false W args.toList ds gs before) (hb : Below W.heap.size W W') :
  s.post enc Tryz.prog fn false true false false W args (.bool true) W' := by
 have hlt : ∀ x ∈ before, x.block < W.heap.size := fun x hx => by simpa using hW.lt x hx
 have hW' := hW;obtain ⟨p, q, hA, hV, rfl, _, _⟩ := hW;rw [hv] at hV;obtain ⟨rfl, rfl⟩ := trodVars_none hV;refine ⟨ds, [], p ++ [], [], p, [], hW', ?_, ?_, ?_, hb.frame _, fun h => by cases h⟩
 ·rw [hs, hres];exact trodAll_cons_mk (shut_bool xP _) trodAll_mk0
 ·rw [hs];exact zC hb hts hA fun x hx => hlt x (by simpa using hx)
 ·rw [hs, hv];rfl
theorem GR {v : Value} (h : v.cells.size = 3) : v = .agg v.cells := by
 cases v <;> first | rfl | (simp [Value.cells] at h; done)
def qS (cs : Array Value) : Obj -> Obj
 | .cells _ t fr => .cells cs t fr
 | o => o
theorem E1 : ∃ fs : Array Field, Tryz.prog.underlying 246 = some (.struct fs) /\ fs.toList.map (fun f => (f.offset, f.type)) = [(0, 9), (1, 3), (2, 4)] := ⟨_, Tryz.underlying246, by kernel_rfl⟩
theorem qT : Tryz.prog.cellsOf 246 = 3 := by kernel_rfl
theorem zE : Tryz.prog.cellsOf 4 = 1 := by kernel_rfl
theorem C3 {enc : TypeId × Value -> Unit} {W : World} {sp : Nat -> Bool} {held : Bool} {m : Nat} {cs : List Value} {l : List UInt8} {n : Int} {b : Bool} {p : List MemPlace}
  (h : DataW.trod enc Tryz.prog W 0 sp held m 246 cs = some (.agg [.lit (.string l), .lit (.int .i64 n), .lit (.bool b)], p)) : cs = [.string ⟨l.toArray⟩, .int .i64 n, .bool b] := by
 obtain ⟨fs, hu, hfs⟩ := E1;obtain ⟨xs, m', hm, hx, hlen, hxl, hget⟩ := DataW.trod_struct hu h;rw [qT] at hlen;obtain ⟨c0, c1, c2, rfl⟩ := GQ hlen;have hfl : fs.toList.length = 3 := by have := congrArg List.length hfs; simpa using this
 have hf3 : fs.size = 3 := (Array.length_toList (xs := fs)).symm.trans hfl;have hfi : ∀ i (hi : i < 3) , ∃ f, fs[i]? = some f /\ [(0, 9), (1, 3), (2, 4)][i]? = some (f.offset, f.type) := by
  intro i hi;have : (fs.toList.map (fun f => (f.offset, f.type)))[i]? = _ := congrArg (·[i]?) hfs;rw [List.getElem?_map] at this;have hlt : i < fs.toList.length := by omega
  rw [List.getElem?_eq_getElem hlt] at this;exact ⟨fs.toList[i], by simp, this.symm⟩
 have hxs : xs.map (·.1) = [.lit (.string l), .lit (.int .i64 n), .lit (.bool b)] := by
  simp only [Prod.mk.injEq, DataW.agg.injEq] at hx;exact hx.1.symm
 have hxi : ∀ (i : Nat) (d : DataW Unit), [DataW.lit (H := Unit) (.string l), .lit (.int .i64 n), .lit (.bool b)][i]? = some d -> ∃ y : List MemPlace, xs[i]? = some (d, y) := by
  intro i d hd;rw [<- hxs, List.getElem?_map] at hd;obtain ⟨z, hz, rfl⟩ := Option.map_eq_some_iff.1 hd;exact ⟨z.2, hz⟩
 obtain ⟨f0, g0, e0⟩ := hfi 0 (by omega);obtain ⟨f1, g1, e1⟩ := hfi 1 (by omega);obtain ⟨f2, g2, e2⟩ := hfi 2 (by omega);simp at e0 e1 e2;obtain ⟨y0, k0⟩ := hxi 0 _ rfl;obtain ⟨y1, k1⟩ := hxi 1 _ rfl;obtain ⟨y2, k2⟩ := hxi 2 _ rfl;have q0 := (hget 0 f0 g0).trans k0;have q1 := (hget 1 f1 g1).trans k1;have q2 := (hget 2 f2 g2).trans k2;rw [<- e0.1, <- e0.2, uQ] at q0;rw [<- e1.1, <- e1.2, jG] at q1;rw [<- e2.1, <- e2.2, zE] at q2;obtain ⟨s, hs, hd0, _⟩ := DataW.trod_string C2 q0;obtain ⟨k, hk, hd1, _⟩ := DataW.trod_int px q1;obtain ⟨b', hb, hd2⟩ := DataW.trod_bool xP q2;simp at hs hk hb hd0 hd1 hd2;rw [hs, hk, hb, <- hd1.1, <- hd2.1];have : l = s.data.toList := hd0.1;rw [this]
theorem C4 {W : World} (h : laidMet Tryz.prog [("sluiceway/term.kinds", Rows.laid_sluiceway_term_kinds)] W) : RPE (okW W) W 3 ou (some ⟨0, 0, none⟩) 0 := by
 obtain ⟨ps, ⟨g', t', cs, fuel, p, q, hg', ht', hvar, hd, _, _⟩, _⟩ := h;have hg : Tryz.prog.globalNamed "sluiceway/term.kinds" = some 0 := by kernel_rfl
 have ht : (Tryz.prog.globals[0]?).map (·.type) = some 247 := by kernel_rfl
 obtain rfl := Option.some.inj (hg.symm.trans hg');obtain rfl := Option.some.inj (ht.symm.trans ht');have hu : Tryz.prog.underlying 247 = some (.array 11 246) := Tryz.underlying247;obtain ⟨xs, m, hm, hx, hlen, hxl, hget⟩ := DataW.trod_array hu hd;rw [show Tryz.prog.cellsOf 247 = 33 by kernel_rfl] at hlen;rw [qT] at hget;have hxs : DataW.agg (xs.map (·.1)) = Rows.laid_sluiceway_term_kinds (H := Unit) := by
  simp only [Prod.mk.injEq] at hx;exact hx.1.symm
 refine iY fun i x hi => ?_
 have hi11 : i < 11 := (List.getElem?_eq_some_iff.1 hi).1;have key : ∀ (l : List UInt8) (n : Int) (b : Bool), x = kd l n b -> (xs.map (·.1))[i]? = some (.agg [.lit (.string l), .lit (.int .i64 n), .lit (.bool b)]) -> (cs.toList.drop (i * 3)).take 3 = [.string ⟨l.toArray⟩, .int .i64 n, .bool b] := by
  intro l n b _ h;rw [List.getElem?_map] at h;obtain ⟨z, hz, e⟩ := Option.map_eq_some_iff.1 h;have h1 := hget i hi11;rw [hz, show z = (z.1, z.2) from rfl, e] at h1;exact C3 h1
 have fin : ∀ (l : List UInt8) (n : Int) (b : Bool), x = kd l n b -> (xs.map (·.1))[i]? = some (.agg [.lit (.string l), .lit (.int .i64 n), .lit (.bool b)]) -> ∃ ad c, some (⟨0, 0, none⟩ : Addr) = some ad /\ okW W ad.block /\ RP (okW W) W x c /\ c.cells.size = 3 /\ ∀ j u, c.cells[j]? = some u -> W.cell? (ad.add ((0 + i) * 3 + j)) = some u := by
  intro l n b hx h;have hc := key l n b hx h;subst hx;have hcell : ∀ j u, [Value.string ⟨l.toArray⟩, .int .i64 n, .bool b][j]? = some u -> W.cell? ⟨0, i * 3 + j, none⟩ = some u := by
   intro j u hj;rw [<- hc] at hj;have h5 := bZ hj;have := World.var?_cell hg hvar (i * 3 + j);rw [this];simpa using h5
  refine ⟨_, .agg #[.string ⟨l.toArray⟩, .int .i64 n, .bool b], rfl, ?_, ?_, rfl, fun j u hj => ?_⟩
  ·exact World.block_lt_of_cell? W ⟨0, i * 3 + 0, none⟩ (hcell 0 _ rfl)
  ·rw [kd, RP];refine ⟨_, rfl, ?_, by rw [RP], by rw [RP], by rw [RP], trivial⟩;intro u hu;simp at hu;rcases hu with rfl | rfl | rfl <;> rfl
  ·rw [Vc.bd, Nat.zero_add, Nat.zero_add];exact hcell j u (by simpa [Value.cells] using hj)
 have hxs' : xs.map (·.1) = _ := DataW.agg.inj hxs;rw [hxs'] at fin
 match i, hi11, hi with
 | 0, _, hi => cases hi; exact fin _ _ _ rfl rfl
 | 1, _, hi => cases hi; exact fin _ _ _ rfl rfl
 | 2, _, hi => cases hi; exact fin _ _ _ rfl rfl
 | 3, _, hi => cases hi; exact fin _ _ _ rfl rfl
 | 4, _, hi => cases hi; exact fin _ _ _ rfl rfl
 | 5, _, hi => cases hi; exact fin _ _ _ rfl rfl
 | 6, _, hi => cases hi; exact fin _ _ _ rfl rfl
 | 7, _, hi => cases hi; exact fin _ _ _ rfl rfl
 | 8, _, hi => cases hi; exact fin _ _ _ rfl rfl
 | 9, _, hi => cases hi; exact fin _ _ _ rfl rfl
 | 10, _, hi => cases hi; exact fin _ _ _ rfl rfl
theorem zF {W : World} (hk : RPE (okW W) W 3 ou (some ⟨0, 0, none⟩) 0) (g : Nat) (L : List PV) (e : (cx true).tab g = some L) : ∃ sz, RPE (okW W) W sz L (some ⟨g, 0, none⟩) 0 := by
 have e : (if g = 0 then some ou else none) = some L := by rw [<- ai]; exact e
 split at e
 ·rename_i hgg;subst hgg;cases e;exact ⟨3, hk⟩
 ·cases e
end Go.Sl
namespace Go.Sl
open Go Go.Vc Go.Proofs Go.RowKit Go.ChangeShapes Go.WideShapes Go.ChangeAt
open Go.Proofs.YteicafhbhdliaaaGreatDoor
theorem wM {H : Type} {enc : TypeId × Value -> H} {W : World} {base : Nat} {v : Value} {d : DataW H} {p : List MemPlace} (hval : Value.okWide Tryz.prog W .any base 26 v) (h : DataW.Trod enc Tryz.prog W 0 (fun _ => true) true 26 v d p) :
  ∃ t : Tm, Fit t /\ RP (okW W) W (TV t) v /\ wt t <= Rows.uptoBulk d := by
 obtain ⟨fuel, hf⟩ := h;obtain ⟨t, ht, hr, h3, hw⟩ := (mO fuel).1 _ _ hf;refine ⟨t, ht, ?_, hw⟩;rw [GR (v := v) (by simpa using h3)];simpa using hr
end Go.Sl
namespace Go.Sl
open Go Go.Vc Go.Proofs Go.RowKit Go.ChangeShapes Go.WideShapes Go.ChangeAt
open Go.Proofs.YteicafhbhdliaaaGreatDoor
theorem GS : ∃ ms : Array (String × TypeId), Tryz.prog.underlying 168 = some (.interface ms) := ⟨_, Tryz.underlying168⟩
theorem C5 {W : World} {n nm : String} {d : DataW Unit} {rest : List (String × DataW Unit)} {g : Nat} (hg : Tryz.prog.globalNamed n = some g) (ht : (Tryz.prog.globals[g]?).map (·.type) = some 168) (h : laidMet Tryz.prog ((n, .iface nm d) :: rest) W) : m6 W n := by
 obtain ⟨ps, ⟨g', t', cs, fuel, p, q, hg', ht', hvar, hd, _, _⟩, _⟩ := h;obtain rfl := Option.some.inj (hg.symm.trans hg');obtain rfl := Option.some.inj (ht.symm.trans ht');obtain ⟨ms, hu⟩ := GS;obtain ⟨f, u, v, hcs, _, _⟩ := iface_of_trod hu hd;refine ⟨u, v, ?_⟩;rw [hvar]
 congr 1
 exact Array.toList_inj.1 hcs
theorem H3 : (Tryz.prog.globals[2]?).map (·.type) = some 168 := by kernel_rfl
theorem H4 : (Tryz.prog.globals[1]?).map (·.type) = some 168 := by kernel_rfl
abbrev H5 : List (String × DataW Unit) := [("math/bits.deBruijn32tab", Rows.laid_math_bits_deBruijn32tab), ("math/bits.deBruijn64tab", Rows.laid_math_bits_deBruijn64tab), ("internal/strconv.uint64pow10", Rows.laid_internal_strconv_uint64pow10), ("strconv.ErrRange", Rows.laid_strconv_ErrRange), ("strconv.ErrSyntax", Rows.laid_strconv_ErrSyntax), ("sluiceway/term.kinds", Rows.laid_sluiceway_term_kinds)]
theorem H6 {W : World} (h : laidMet Tryz.prog H5 W) : GX (cx true) (okW W) W := by
 have hx : X10 W := Lib.tabIs_of_head (rest := [("strconv.ErrRange", Rows.laid_strconv_ErrRange), ("strconv.ErrSyntax", Rows.laid_strconv_ErrSyntax), ("sluiceway/term.kinds", Rows.laid_sluiceway_term_kinds)]) IU (t := 289) (e := 258) (n := 20) (by kernel_rfl) Tryz.underlying289 Tryz.underlying258 (by kernel_rfl) (by kernel_rfl) (b9 (b9 h));have h3 := b9 (b9 (b9 h));have hR : m6 W "strconv.ErrRange" := C5 gXR H3 h3;have hS : m6 W "strconv.ErrSyntax" := C5 gXS H4 (b9 h3);have hk := C4 (b9 (b9 h3));exact ⟨⟨hx, FY hx, ⟨hS, tg gXS hS⟩, hR, tg gXR hR⟩, zF hk⟩
theorem C6 {f : FuncId} {args : List SV} {vs : List Value} {W : World} (h : K true f args (.pv (.bool true))) (hx : GX (cx true) (okW W) W) (hr : RL (okW W) (fun _ => undef) W args vs) (hkk : SV.keysL args = []) :
  Calls Tryz.prog f vs.toArray W fun e W' => e = .returned (.bool true) /\ Below W.heap.size W W' := by
 refine (h.run (okW W) (fun _ => undef) W vs hx (fun b hb => hb) hr (fun κ => trivial) (fun κ hκ => by rw [hkk] at hκ; cases hκ) (fun κ κ' hκ => by cases hκ) (fun _ => rfl)).mono ?_
 rintro e W' ⟨v, rfl, hv, hb⟩
 rw [RES, RP] at hv;exact ⟨by rw [hv], hb⟩
noncomputable def H7 : Nat := (World.holding Tryz.prog default ⟨#[], #[], []⟩).heap.size
abbrev GT : ByteArray := { data := #[118, 97, 108, 117, 101, 32, 111, 117, 116, 32, 111, 102, 32, 114, 97, 110, 103, 101] }
abbrev E2 : ByteArray := { data := #[105, 110, 118, 97, 108, 105, 100, 32, 115, 121, 110, 116, 97, 120] }
noncomputable def kJ (os : Os) : World :=
 let w0 := World.holding Tryz.prog os ⟨#[.cells #[.string GT] 308, .cells #[.string E2] 308], #[], []⟩
 {w0 with heap := (((((w0.heap.modify 4 (qS ([0, 1, 28, 2, 29, 14, 24, 3, 30, 22, 20, 15, 25, 17, 4, 8, 31, 27, 13, 23, 21, 19, 16, 7, 26, 12, 18, 6, 11, 5, 10, 9].map (Value.int .u8)).toArray)).modify 5 (qS ([0, 1, 56, 2, 57, 49, 28, 3, 61, 58, 42, 50, 38, 29, 17, 4, 62, 47, 59, 36, 45, 43, 51, 22, 53, 39, 33, 30, 24, 18, 12, 5, 63, 55, 48, 27, 60, 41, 37, 16, 46, 35, 44, 21, 52, 32, 23, 11, 54, 26, 40, 15, 34, 20, 31, 10, 25, 14, 19, 9, 13, 8, 7, 6].map (Value.int .u8)).toArray)).modify 3 (qS (Lib.pow10Tab.map (Value.int .u64)).toArray)).modify 2 (qS #[.iface 306 (.pointer (some ⟨H7, 0, none⟩))])).modify 1 (qS #[.iface 306 (.pointer (some ⟨H7 + 1, 0, none⟩))])).modify 0 (qS #[.string ⟨#[]⟩, .int .i64 0, .bool false, .string ⟨#[100]⟩, .int .i64 0, .bool true, .string ⟨#[97]⟩, .int .i64 0, .bool true, .string ⟨#[112]⟩, .int .i64 (-1), .bool false, .string ⟨#[101]⟩, .int .i64 2, .bool false, .string ⟨#[109]⟩, .int .i64 2, .bool false, .string ⟨#[104]⟩, .int .i64 1, .bool false, .string ⟨#[107]⟩, .int .i64 1, .bool true, .string ⟨#[117]⟩, .int .i64 1, .bool false, .string ⟨#[115]⟩, .int .i64 2, .bool false, .string ⟨#[120]⟩, .int .i64 2, .bool false]) }
end Go.Sl
