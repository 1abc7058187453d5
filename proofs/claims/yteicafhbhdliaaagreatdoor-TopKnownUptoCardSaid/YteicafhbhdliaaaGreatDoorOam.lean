/- Part 13 of the proof: Iu Iv Iw Ix Iy. -/
import Derived.Test.YteicafhbhdliaaaGreatDoorOal
set_option linter.unusedSimpArgs false
set_option linter.unusedVariables false
set_option maxHeartbeats 4000000
namespace Go.Sl
open Go Go.Vc Go.Proofs Go.RowKit
def ta0 : Ta := ⟨ck0, aD, aD, aD, us0, 0⟩
def aK (k : Kd) (m : Tm) (now : Int) : Ta × Int :=
 if (av m).2.2.2 = false then (ta0, 2) else
 if (bB (av m).1).2.2 = false then (ta0, 2) else
 if (cV k.key (av m).2.1).2 ≠ 0 then (ta0, (cV k.key (av m).2.1).2) else
 if (bT (cV k.key (av m).2.1).1 (av m).1 (av m).2.2.1).2.2 ≠ 0 then (ta0, (bT (cV k.key (av m).2.1).1 (av m).1 (av m).2.2.1).2.2) else
 if (lz (bB (av m).1).1 k.us).2 = false then (ta0, 3) else
 if b7 (bT (cV k.key (av m).2.1).1 (av m).1 (av m).2.2.1).2.1 = true then
  (⟨⟨(bB (av m).1).1, (bB (av m).1).2.1, [], aw, 0⟩, (cV k.key (av m).2.1).1, (av m).1, (bT (cV k.key (av m).2.1).1 (av m).1 (av m).2.2.1).1, (lz (bB (av m).1).1 k.us).1, now⟩, if iK (bB (av m).1).1 k.us = true then 7 else 0)
 else
  (⟨(dw k.cookies (bT (cV k.key (av m).2.1).1 (av m).1 (av m).2.2.1).2.1 now).1, (cV k.key (av m).2.1).1, (av m).1, (bT (cV k.key (av m).2.1).1 (av m).1 (av m).2.2.1).1, (lz (bB (av m).1).1 k.us).1, now⟩,
   let c := dw k.cookies (bT (cV k.key (av m).2.1).1 (av m).1 (av m).2.2.1).2.1 now
   if c.2 ≠ 0 then c.2 else
   if c.1.client ≠ (bB (av m).1).1 \/ c.1.nonce ≠ (bB (av m).1).2.1 \/ (lz (bB (av m).1).1 k.us).1.set.length <= c.1.done.length \/ c.1.done ≠ (lz (bB (av m).1).1 k.us).1.set.take c.1.done.length then 11 else
   if iK (bB (av m).1).1 k.us = true then 7 else 0)
abbrev taV (x : Ta × Int) : SV := .tupS [.p x.1.pv, iv x.2]
theorem ul (m : Tm) : wt (av m).1 <= wt m /\ wt (av m).2.1 <= wt m /\ wt (av m).2.2.1 <= wt m := by
 unfold av;cases e : ao tS 3 m with
 | none => exact ⟨br m, br m, br m⟩
 | some l =>
  have h := bV e;exact ⟨dp h (br m) 0, dp h (br m) 1, dp h (br m) 2⟩
theorem mA (k : Tm) (n : Int) (t : Tm) (tag : Bs) (c : Nat) : ∀ u ∈ (ax k n t tag c).1, wt u <= wt t := by
 unfold ax;intro u hu;split at hu
 ·cases hu
 ·split at hu
  ·cases hu
  ·rename_i l e;exact Nat.le_trans (bV e u hu) jV
theorem um (k x t : Tm) : wt (bT k x t).1 <= wt t /\ wt (bT k x t).2.1 <= wt t := by
 unfold bT;split
 ·exact ⟨br t, br t⟩
 ·split
  ·exact ⟨br t, br t⟩
  ·exact ⟨dp (mA _ _ _ _ _) (br t) 1, dp (mA _ _ _ _ _) (br t) 2⟩
theorem oT : LE (.p (.agg [.str [], .str [], .nilS, .int .i64 0, .str [], .nilS, .int .i64 0, .int .i64 0, .str [], .nilS, .int .i64 0, .str [], .nilS, .int .i64 0, .str [], .nilS,
 .str [], .int .i64 0, .str [], .nilS, .nilS, .int .i64 0, .str [], .nilS, .int .i64 0, .int .i64 0, .int .i64 0, .int .i64 0, .int .i64 0, .int .i64 0, .int .i64 0, .int .i64 0])) (.p ta0.pv) :=
 gO ⟨LEP.refl _, LEP.refl _, bm, LEP.refl _, LEP.refl _, bm, LEP.refl _, LEP.refl _, LEP.refl _, bm, LEP.refl _, LEP.refl _, bm, LEP.refl _, LEP.refl _, bm,
  LEP.refl _, LEP.refl _, LEP.refl _, bm, bm, LEP.refl _, LEP.refl _, bm, LEP.refl _, LEP.refl _, LEP.refl _, LEP.refl _, LEP.refl _, LEP.refl _, LEP.refl _, LEP.refl _, trivial⟩
theorem BO {c n a2 b2 c2 u1 u3 u6 s2 : Bs} {k1 k2 k3 k4 k5 k6 z1 z2 z3 z4 z5 z6 z7 z8 z9 : Int} {l2 l3 l4 l5 l6 l7 l8 : List PV} : LE (.p (.agg [.str c, .str n, .nilS, .int .i64 k1, .str a2, .lst l2, .int .i64 k2, .int .i64 k3, .str b2, .lst l3, .int .i64 k4, .str c2, .lst l4, .int .i64 k5, .str u1, .lst l5,
 .str u3, .int .i64 k6, .str u6, .lst l6, .lst l7, .int .i64 z1, .str s2, .lst l8, .int .i64 z2, .int .i64 z3, .int .i64 z4, .int .i64 z5, .int .i64 z6, .int .i64 z7, .int .i64 z8, .int .i64 z9]))
 (.p (.agg [.str c, .str n, .lst [], .int .i64 k1, .str a2, .lst l2, .int .i64 k2, .int .i64 k3, .str b2, .lst l3, .int .i64 k4, .str c2, .lst l4, .int .i64 k5, .str u1, .lst l5,
 .str u3, .int .i64 k6, .str u6, .lst l6, .lst l7, .int .i64 z1, .str s2, .lst l8, .int .i64 z2, .int .i64 z3, .int .i64 z4, .int .i64 z5, .int .i64 z6, .int .i64 z7, .int .i64 z8, .int .i64 z9])) :=
 gO ⟨LEP.refl _, LEP.refl _, bm, LEP.refl _, LEP.refl _, LEP.refl _, LEP.refl _, LEP.refl _, LEP.refl _, LEP.refl _, LEP.refl _, LEP.refl _, LEP.refl _, LEP.refl _, LEP.refl _, LEP.refl _,
  LEP.refl _, LEP.refl _, LEP.refl _, LEP.refl _, LEP.refl _, LEP.refl _, LEP.refl _, LEP.refl _, LEP.refl _, LEP.refl _, LEP.refl _, LEP.refl _, LEP.refl _, LEP.refl _, LEP.refl _, LEP.refl _, trivial⟩
theorem oU (key t : Tm) (now : Int) (hw : wt t <= 1000000000) : (dw key t now).1.ok := by
 have h0 : Ck.ok ck0 := ⟨by decide, by decide, by decide, fun s hs => (by cases hs), by decide, by decide, by decide⟩
 unfold dw;split
 ·split
  ·split
   ·split
    ·split
     ·exact h0
     ·exact qz _ (Nat.le_trans (mu t 1) hw)
    ·exact h0
   ·exact h0
  ·exact h0
 ·exact h0
theorem r8 (key t : Tm) (now : Int) (hw : wt t <= 1000000000) : (dw key t now).1.done.length <= 1000000000 := (oU key t now hw).done
theorem lE {a b : Int} {k : PV -> Prop} (h : ∀ r, decide (a ≠ b) = r -> k (.bool r)) : dc .neq .i64 a b k := h _ rfl
theorem Ew {a b : Int} {k : PV -> Prop} (h : ∀ r, decide (a = b) = r -> k (.bool r)) : dc .eql .i64 a b k := h _ rfl
theorem xD {a b : Int} {k : PV -> Prop} (h : ∀ r, decide (b <= a) = r -> k (.bool r)) : dc .geq .i64 a b k := h _ rfl
theorem lF {a b : Bs} {k : PV -> Prop} (h : ∀ r, decide (a ≠ b) = r -> k (.bool r)) : iZ .neq a b k := h _ rfl
attribute [local irreducible] dc iZ
theorem BP (k : Kd) (m : Tm) (now : Int) (hk : wm k) (hm : wt m <= 1000000000) : PM (cx true) 39 (kdO k) [.ptr 2010 0, tv m, iv now] (kdO k) (taV (aK k m now)) := by
 have hl : k.us.length <= 1000000 := by have := hk.few; omega
 have hsets : ∀ u ∈ k.us, u.set.length <= 1000000000 := fun u hu => by have := hk.sets u hu; omega
 obtain ⟨X, hX⟩ : ∃ X, X = aK k m now := ⟨_, rfl⟩
 rw [<- hX];unfold aK at hX;have h1 := Bq true m (aE m hm);obtain ⟨w1, w2, w3⟩ := ul m;revert h1 w1 w2 w3 hX;generalize av m = a;obtain ⟨body, wrap, sealed, q1⟩ := a;intro hX h1 w1 w2 w3;simp only at hX w1 w2 w3;have h2 := yC true body (aE _ (by omega));have h3 := Eh true k.key wrap (aE _ (by omega));revert h2 h3 hX;generalize bB body = y;obtain ⟨cl, nn, q2⟩ := y;generalize cV k.key wrap = z;obtain ⟨ak, e3⟩ := z;intro hX h2 h3;simp only at hX;have h4 := Bl true ak body sealed (aE _ (by omega));obtain ⟨w4, w5⟩ := um ak body sealed;have h5 := BG k.us cl hl hsets;have h6 := qD k.us cl hl;revert h4 h5 h6 w4 w5 hX;generalize bT ak body sealed = r;obtain ⟨pd, kept, e4⟩ := r;generalize lz cl k.us = g;obtain ⟨u, q5⟩ := g;generalize iK cl k.us = lk;intro hX h4 w4 w5 h5 h6;simp only at hX w4 w5;have h7 := eI true kept (aE _ (by omega));have h8 := yE k.cookies kept now hk.cookies (by omega);have hdl := r8 k.cookies kept now (by omega)
 rw [b7] at hX;revert h7 h8 hdl hX;generalize (ao dS 0 kept).isSome = q7;generalize dw k.cookies kept now = c;obtain ⟨ck, e8⟩ := c;intro hX h7 h8 hdl;simp only at hX hdl;refine pmv { own := oO [100068, 100144], ps := psT [(7, [14])], kp := kpT [(18, [0, 2, 6, 7, 12, 13, 16, 17], [6, 16, 17, 2010, 2011, 2013, 2012, 2014, 1010]), (19, [0, 2, 6, 7, 12, 13, 17], [6, 17, 2010, 2011, 2013, 2012, 2014, 1010]), (21, [0, 6, 7, 12, 13, 17], [6, 17, 2010, 2011, 2013, 2012, 2014, 1010]), (23, [0, 6, 7, 12], [6, 2010, 2011, 2013, 2012, 2014, 1010])], tr := trT [(18, [0, 1, 3, 7, 0, 0, 63, 127, 255, 255, 511, 1535, 4095], qQ [0, 1, 2, 3, 4, 5, 6, 7, 8, 10] (.alt (qQ [9, 11, 12] .fin) (qQ [11, 9, 12] .fin)))] } Tryz.func39 ?_;refine goL ?_;refine cC h1 ?_;cases q1 with
 | false =>
  have hX : X = (ta0, 2) := by rw [hX]; simp
  subst hX;refine goL ?_;exact rR gI ⟨rfl, oT, rfl, LE.of rfl, trivial⟩
 | true =>
 refine goL ?_;refine cC h2 ?_;cases q2 with
 | false =>
  have hX : X = (ta0, 2) := by rw [hX]; simp
  subst hX;refine goL ?_;exact rR gI ⟨rfl, oT, rfl, LE.of rfl, trivial⟩
 | true =>
 refine goL ?_;refine cC h3 (goL ?_);refine lE fun r hr => ?_
 cases r with
 | true =>
  have g1 : ¬ e3 = 0 := of_decide_eq_true hr;have hX : X = (ta0, e3) := by rw [hX]; simp [g1]
  subst hX;refine goL ?_;exact rR gI ⟨rfl, oT, rfl, LE.of rfl, trivial⟩
 | false =>
 have g1 : e3 = 0 := by simpa using hr
 subst g1;refine goL ?_;refine cC h4 (goL ?_);refine lE fun r hr => ?_
 cases r with
 | true =>
  have g1 : ¬ e4 = 0 := of_decide_eq_true hr;have hX : X = (ta0, e4) := by rw [hX]; simp [g1]
  subst hX;refine goL ?_;exact rR gI ⟨rfl, oT, rfl, LE.of rfl, trivial⟩
 | false =>
 have g1 : e4 = 0 := by simpa using hr
 subst g1;refine goL ?_;refine ac.go gI h5 ?_;cases q5 with
 | false =>
  have hX : X = (ta0, 3) := by rw [hX]; simp
  subst hX;refine goL ?_;exact rR gI ⟨rfl, oT, rfl, LE.of rfl, trivial⟩
 | true =>
 refine goL ?_;refine cC (bq true) (goL ?_);refine cC h7 ?_;cases q7 with
 | true =>
  have hX : X = (⟨⟨cl, nn, [], aw, 0⟩, ak, body, pd, u, now⟩, if lk = true then 7 else 0) := by rw [hX]; simp
  subst hX;refine goL ?_;refine ac.go gI h6 ?_;cases lk with
  | true =>
   refine goL ?_;exact rR gI ⟨rfl, BO, rfl, LE.of rfl, trivial⟩
  | false =>
   refine goL ?_;exact rR gI ⟨rfl, BO, rfl, LE.of rfl, trivial⟩
 | false =>
 refine goL ?_;refine cC h8 (goL ?_);refine aQ ?_ ?_
 all_goals
  refine goL ?_
 ·refine lE fun r hr => ?_
  cases r with
  | true =>
   have g2 : ¬ e8 = 0 := of_decide_eq_true hr;have hX : X = (⟨ck, ak, body, pd, u, now⟩, e8) := by rw [hX]; simp [g2]
   subst hX;refine goL ?_;exact rR gI ⟨rfl, LE.of rfl, rfl, LE.of rfl, trivial⟩
  | false =>
  have g2 : e8 = 0 := by simpa using hr
  subst g2;refine goL ?_;refine lF fun r hr2 => ?_
  cases r with
  | true =>
   have g3 : ¬ ck.client = cl := of_decide_eq_true hr2;have hX : X = (⟨ck, ak, body, pd, u, now⟩, 11) := by rw [hX]; simp [g3]
   subst hX;refine goL ?_;exact rR gI ⟨rfl, LE.of rfl, rfl, LE.of rfl, trivial⟩
  | false =>
  have g3 : ck.client = cl := by simpa using hr2
  refine goL ?_;refine lF fun r hr3 => ?_
  cases r with
  | true =>
   have g4 : ¬ ck.nonce = nn := of_decide_eq_true hr3;have hX : X = (⟨ck, ak, body, pd, u, now⟩, 11) := by rw [hX]; simp [g4]
   subst hX;refine goL ?_;exact rR gI ⟨rfl, LE.of rfl, rfl, LE.of rfl, trivial⟩
  | false =>
  have g4 : ck.nonce = nn := by simpa using hr3
  refine goL ?_;refine xD fun r hr4 => ?_
  cases r with
  | true =>
   have g5 : u.set.length <= ck.done.length := by have := of_decide_eq_true hr4; rw [al, al] at this; exact Int.ofNat_le.1 this
   have hX : X = (⟨ck, ak, body, pd, u, now⟩, 11) := by rw [hX]; simp [g5]
   subst hX;refine goL ?_;exact rR gI ⟨rfl, LE.of rfl, rfl, LE.of rfl, trivial⟩
  | false =>
  have g5 : ¬ u.set.length <= ck.done.length := by have := of_decide_eq_false hr4; rw [al, al] at this; exact fun h => this (Int.ofNat_le.2 h)
  refine goL ?_;refine ⟨⟨_, rfl, rD _⟩, goL ?_⟩;refine ⟨Int.natCast_nonneg _, goL ?_⟩;refine ⟨by show ((aC ck.done).length : Int).toNat <= (aC u.set).length; rw [al, al, Int.toNat_natCast]; omega, Nat.le_refl _, goL ?_⟩;have hsl : cut (aC u.set) 0 ((aC ck.done).length : Int).toNat = aC (u.set.take ck.done.length) := by
   rw [al, Int.toNat_natCast, cut, aC, aC, List.map_take];rfl
  have heq := qG ck.done (u.set.take ck.done.length) hdl
  by_cases g6 : ck.done = u.set.take ck.done.length
  ·rw [decide_eq_true g6] at heq;refine ⟨_, ar.le heq ⟨LE.refl _, LE.of (congrArg (fun l => SV.p (.lst l)) hsl), trivial⟩ rfl rfl, goL ?_⟩;refine ac.go gI h6 ?_;cases lk with
   | true =>
    have hX : X = (⟨ck, ak, body, pd, u, now⟩, 7) := by rw [hX]; simp [g3, g4, g5, <- g6]
    subst hX;refine goL ?_;exact rR gI ⟨rfl, LE.of rfl, rfl, LE.of rfl, trivial⟩
   | false =>
    have hX : X = (⟨ck, ak, body, pd, u, now⟩, 0) := by rw [hX]; simp [g3, g4, g5, <- g6]
    subst hX;refine goL ?_;exact rR gI ⟨rfl, LE.of rfl, rfl, LE.of rfl, trivial⟩
  ·rw [decide_eq_false g6] at heq;refine ⟨_, ar.le heq ⟨LE.refl _, LE.of (congrArg (fun l => SV.p (.lst l)) hsl), trivial⟩ rfl rfl, ?_⟩;have hX : X = (⟨ck, ak, body, pd, u, now⟩, 11) := by rw [hX]; simp [g6]
   subst hX;refine goL ?_;exact rR gI ⟨rfl, LE.of rfl, rfl, LE.of rfl, trivial⟩
 ·refine lE fun r hr => ?_
  cases r with
  | true =>
   have g2 : ¬ e8 = 0 := of_decide_eq_true hr;have hX : X = (⟨ck, ak, body, pd, u, now⟩, e8) := by rw [hX]; simp [g2]
   subst hX;refine goL ?_;exact rR gI ⟨rfl, LE.of rfl, rfl, LE.of rfl, trivial⟩
  | false =>
  have g2 : e8 = 0 := by simpa using hr
  subst g2;refine goL ?_;refine lF fun r hr2 => ?_
  cases r with
  | true =>
   have g3 : ¬ ck.client = cl := of_decide_eq_true hr2;have hX : X = (⟨ck, ak, body, pd, u, now⟩, 11) := by rw [hX]; simp [g3]
   subst hX;refine goL ?_;exact rR gI ⟨rfl, LE.of rfl, rfl, LE.of rfl, trivial⟩
  | false =>
  have g3 : ck.client = cl := by simpa using hr2
  refine goL ?_;refine lF fun r hr3 => ?_
  cases r with
  | true =>
   have g4 : ¬ ck.nonce = nn := of_decide_eq_true hr3;have hX : X = (⟨ck, ak, body, pd, u, now⟩, 11) := by rw [hX]; simp [g4]
   subst hX;refine goL ?_;exact rR gI ⟨rfl, LE.of rfl, rfl, LE.of rfl, trivial⟩
  | false =>
  have g4 : ck.nonce = nn := by simpa using hr3
  refine goL ?_;refine xD fun r hr4 => ?_
  cases r with
  | true =>
   have g5 : u.set.length <= ck.done.length := by have := of_decide_eq_true hr4; rw [al, al] at this; exact Int.ofNat_le.1 this
   have hX : X = (⟨ck, ak, body, pd, u, now⟩, 11) := by rw [hX]; simp [g5]
   subst hX;refine goL ?_;exact rR gI ⟨rfl, LE.of rfl, rfl, LE.of rfl, trivial⟩
  | false =>
  have g5 : ¬ u.set.length <= ck.done.length := by have := of_decide_eq_false hr4; rw [al, al] at this; exact fun h => this (Int.ofNat_le.2 h)
  refine goL ?_;refine ⟨⟨_, rfl, rD _⟩, goL ?_⟩;refine ⟨Int.natCast_nonneg _, goL ?_⟩;refine ⟨by show ((aC ck.done).length : Int).toNat <= (aC u.set).length; rw [al, al, Int.toNat_natCast]; omega, Nat.le_refl _, goL ?_⟩;have hsl : cut (aC u.set) 0 ((aC ck.done).length : Int).toNat = aC (u.set.take ck.done.length) := by
   rw [al, Int.toNat_natCast, cut, aC, aC, List.map_take];rfl
  have heq := qG ck.done (u.set.take ck.done.length) hdl
  by_cases g6 : ck.done = u.set.take ck.done.length
  ·rw [decide_eq_true g6] at heq;refine ⟨_, ar.le heq ⟨LE.refl _, LE.of (congrArg (fun l => SV.p (.lst l)) hsl), trivial⟩ rfl rfl, goL ?_⟩;refine ac.go gI h6 ?_;cases lk with
   | true =>
    have hX : X = (⟨ck, ak, body, pd, u, now⟩, 7) := by rw [hX]; simp [g3, g4, g5, <- g6]
    subst hX;refine goL ?_;exact rR gI ⟨rfl, LE.of rfl, rfl, LE.of rfl, trivial⟩
   | false =>
    have hX : X = (⟨ck, ak, body, pd, u, now⟩, 0) := by rw [hX]; simp [g3, g4, g5, <- g6]
    subst hX;refine goL ?_;exact rR gI ⟨rfl, LE.of rfl, rfl, LE.of rfl, trivial⟩
  ·rw [decide_eq_false g6] at heq;refine ⟨_, ar.le heq ⟨LE.refl _, LE.of (congrArg (fun l => SV.p (.lst l)) hsl), trivial⟩ rfl rfl, ?_⟩;have hX : X = (⟨ck, ak, body, pd, u, now⟩, 11) := by rw [hX]; simp [g6]
   subst hX;refine goL ?_;exact rR gI ⟨rfl, LE.of rfl, rfl, LE.of rfl, trivial⟩
end Go.Sl
namespace Go.Sl
open Go Go.Vc Go.Proofs Go.RowKit
theorem up {name : Bs} {l : List Us} (h : (lz name l).2 = true) : (lz name l).1 ∈ l := by
 unfold lz at h ⊢;split
 ·exact List.getElem_mem _
 ·rename_i e;rw [dif_neg e] at h;cases h
theorem oV (t : Tm) : (aT t).1.length <= wt t := Nat.le_trans (na t) (jU t)
theorem ng (t : Tm) : (bB t).1.length <= wt t /\ (bB t).2.1.length <= wt t := by
 unfold bB;cases e : ao m9 2 t with
 | none => exact ⟨Nat.zero_le _, Nat.zero_le _⟩
 | some l =>
  have h := fun i => dp (bV e) (br t) i
  simp only;split
  ·exact ⟨Nat.le_trans (oV _) (h 0), Nat.le_trans (oV _) (h 1)⟩
  ·exact ⟨Nat.zero_le _, Nat.zero_le _⟩
theorem yU (k : Kd) (m : Tm) (now : Int) (hk : wm k) (hm : wt m <= 1000000000) (hn0 : -1000000000000 <= now) (hn1 : now <= 1000000000000) (h : (aK k m now).2 = 0) : Gp (aK k m now).1 := by
 obtain ⟨w1, w2, w3⟩ := ul m;obtain ⟨w4, w5⟩ := um (cV k.key (av m).2.1).1 (av m).1 (av m).2.2.1;obtain ⟨w6, w7⟩ := ng (av m).1;unfold aK at h ⊢;split at h
 ·cases h
 rename_i c1;rw [if_neg c1];split at h
 ·cases h
 rename_i c2;rw [if_neg c2];split at h
 ·rename_i c3; exact absurd h c3
 rename_i c3;rw [if_neg c3];split at h
 ·rename_i c4; exact absurd h c4
 rename_i c4;rw [if_neg c4];split at h
 ·cases h
 rename_i c5;rw [if_neg c5];have hu := up (name := (bB (av m).1).1) (l := k.us) (by simpa using c5);have hs := hk.sets _ hu;split at h
 ·rename_i c6;rw [if_pos c6];exact ⟨⟨by show (bB (av m).1).1.length <= _; omega, by show (bB (av m).1).2.1.length <= _; omega, Nat.zero_le _, (fun s hs => by cases hs), (by show wt aw <= _; decide), (by show _ <= (0 : Int); decide), by show (0 : Int) <= _; decide⟩, hs.1, hs.2, hk.words _ hu, by show wt (bT _ _ _).1 <= _; omega, hn0, hn1⟩
 ·rename_i c6;rw [if_neg c6];simp only at h;split at h
  ·rename_i c7; exact absurd h c7
  split at h
  ·cases h
  rename_i c8;simp only [not_or] at c8;exact ⟨oU _ _ _ (by omega), by have := c8.2.2.1; show (dw _ _ _).1.done.length < (lz _ _).1.set.length; omega, hs.2, hk.words _ hu, by show wt (bT _ _ _).1 <= _; omega, hn0, hn1⟩
def bE (t : Ta) : Ta := { t with ck := { t.ck with done := t.ck.done ++ [bF t] } }
def bg (k : Kd) (m : Tm) (now : Int) : Kd × Tm :=
 if (aK k m now).2 ≠ 0 then (k, tU (aK k m now).2) else
 if b7 (aK k m now).1.pd = true then fv k (aK k m now).1 else
 if (bJ k (aK k m now).1).2.2.2 ≠ 0 then ((bJ k (aK k m now).1).1, tU (bJ k (aK k m now).1).2.2.2) else
 if (bE (aK k m now).1).ck.done.length = (bE (aK k m now).1).u.set.length then (lD (bJ k (aK k m now).1).1 (bE (aK k m now).1), jZ (bJ k (aK k m now).1).1 (bE (aK k m now).1) (bJ k (aK k m now).1).2.1) else
 fv (bJ k (aK k m now).1).1 (bE (aK k m now).1)
theorem uq (n : Bs) (l : List Us) (g : Int -> Int) : (setU n l g).length = l.length := by
 unfold setU;split
 ·exact List.length_set
 ·rfl
theorem qH (n : Bs) (l : List Us) (h : List Int) : (codeU n l h).1.length = l.length := by
 unfold codeU;split
 ·split
  ·rfl
  ·exact List.length_set
 ·rfl
theorem ur (k : Kd) (t : Ta) : (bJ k t).1.key = k.key /\ (bJ k t).1.cookies = k.cookies /\ (bJ k t).1.drawn = k.drawn /\ (bJ k t).1.iss = k.iss /\ (bJ k t).1.us.length = k.us.length := by
 unfold bJ;split
 ·exact ⟨rfl, rfl, rfl, rfl, rfl⟩
 split
 ·exact ⟨rfl, rfl, rfl, rfl, uq t.ck.client k.us (· + 1)⟩
 split
 ·exact ⟨rfl, rfl, rfl, rfl, rfl⟩
 split
 ·exact ⟨rfl, rfl, rfl, rfl, rfl⟩
 split
 ·exact ⟨rfl, rfl, rfl, rfl, qH t.ck.client k.us (aU t).2.1⟩
 ·exact ⟨rfl, rfl, rfl, rfl, rfl⟩
theorem mB (l : List Bs) (s : Bs) : aC l ++ [.str s] = aC (l ++ [s]) := by
 rw [aC, aC, List.map_append];rfl
theorem qI {t : Ta} (h : t.ck.done.length < t.u.set.length) : bF t ∈ t.u.set := by
 rw [bF, List.getD_eq_getElem?_getD, List.getElem?_eq_getElem h];exact List.getElem_mem h
theorem qJ {t : Ta} (ht : Gp t) : (bE t).ck.ok := by
 have hd := ht.done;have hs := ht.set;refine ⟨ht.ck.client, ht.ck.nonce, ?_, fun s h => ?_, ht.ck.secret, ht.ck.til0, ht.ck.til1⟩
 ·show (t.ck.done ++ [bF t]).length <= _;rw [List.length_append, List.length_singleton];omega
 ·rcases List.mem_append.1 (show s ∈ t.ck.done ++ [bF t] from h) with h | h
  ·exact ht.ck.dones s h
  ·rw [List.mem_singleton] at h;subst h;exact ht.words _ (qI ht.done)
theorem xE (t : Ta) : LE (.p (.agg [.str t.ck.client, .str t.ck.nonce, .lst (aC t.ck.done ++ [.str (bF t)]), .int .i64 t.ck.secret.kind, .str t.ck.secret.name, .lst (af t.ck.secret.kids), .int .i64 t.ck.til,
 .int .i64 t.ak.kind, .str t.ak.name, .lst (af t.ak.kids), .int .i64 t.body.kind, .str t.body.name, .lst (af t.body.kids), .int .i64 t.pd.kind, .str t.pd.name, .lst (af t.pd.kids),
 .str t.u.name, .int .i64 t.u.key.kind, .str t.u.key.name, .lst (af t.u.key.kids), .lst (aC t.u.set), .int .i64 t.u.seed.kind, .str t.u.seed.name, .lst (af t.u.seed.kids), .int .i64 t.u.tok.counter, .int .i64 t.u.tok.look, .int .i64 t.u.tok.sync, .int .i64 t.u.tok.pending, .int .i64 t.u.tok.fails, .int .i64 t.u.tok.limit, .int .i64 t.u.fails, .int .i64 t.now])) (.p (bE t).pv) :=
 gO ⟨LEP.refl _, LEP.refl _, LEP.of (congrArg PV.lst (mB _ _)), LEP.refl _, LEP.refl _, LEP.refl _, LEP.refl _, LEP.refl _, LEP.refl _, LEP.refl _, LEP.refl _, LEP.refl _, LEP.refl _, LEP.refl _, LEP.refl _, LEP.refl _,
  LEP.refl _, LEP.refl _, LEP.refl _, LEP.refl _, LEP.refl _, LEP.refl _, LEP.refl _, LEP.refl _, LEP.refl _, LEP.refl _, LEP.refl _, LEP.refl _, LEP.refl _, LEP.refl _, LEP.refl _, LEP.refl _, trivial⟩
abbrev cX (e : Int) : Prop := 0 <= e /\ e <= 12
theorem SmD {e : Int} (h : decide (0 <= e) = true) (h' : decide (e <= 12) = true) : cX e := ⟨of_decide_eq_true h, of_decide_eq_true h'⟩
theorem jz (k : Tm) (n : Int) (t : Tm) : cX (aI k n t).2 := by
 unfold aI;split
 ·split <;> exact SmD rfl rfl
 ·exact SmD rfl rfl
theorem jA (k : Tm) (n : Int) (t : Tm) (tag : Bs) (m : Nat) : cX (ax k n t tag m).2 := by
 unfold ax;split
 ·exact jz _ _ _
 ·split <;> exact SmD rfl rfl
theorem yV (k t : Tm) : cX (cV k t).2 := by
 unfold cV;split
 ·exact SmD rfl rfl
 ·split
  ·exact jA _ _ _ _ _
  ·split
   ·exact jA _ _ _ _ _
   ·exact SmD rfl rfl
theorem wo (k x t : Tm) : cX (bT k x t).2.2 := by
 unfold bT;split
 ·exact jA _ _ _ _ _
 ·split <;> exact SmD rfl rfl
theorem ut (k t : Tm) (now : Int) : cX (dw k t now).2 := by
 unfold dw;split
 ·split
  ·split
   ·split
    ·split <;> exact SmD rfl rfl
    ·exact SmD rfl rfl
   ·exact SmD rfl rfl
  ·exact SmD rfl rfl
 ·exact SmD rfl rfl
theorem oW (k : Kd) (m : Tm) (now : Int) : cX (aK k m now).2 := by
 unfold aK;split
 ·exact SmD rfl rfl
 split
 ·exact SmD rfl rfl
 split
 ·exact yV _ _
 split
 ·exact wo _ _ _
 split
 ·exact SmD rfl rfl
 split
 ·simp only;split <;> exact SmD rfl rfl
 ·simp only;split
  ·exact ut _ _ _
  ·split
   ·exact SmD rfl rfl
   ·split <;> exact SmD rfl rfl
theorem yW (ak nonce p seed : Tm) (t : Tok) : cX (jx ak nonce p seed t).2 := by
 unfold jx;split
 ·exact SmD rfl rfl
 ·split
  ·split
   ·exact SmD rfl rfl
   ·split
    ·split <;> exact SmD rfl rfl
    ·exact SmD rfl rfl
  ·exact jz _ _ _
theorem pR (t u : Tm) : cX (aF t u).2 := by
 unfold aF;split
 ·split
  ·split <;> exact SmD rfl rfl
  ·exact SmD rfl rfl
 ·exact SmD rfl rfl
theorem nv (u b y p : Tm) : cX (bx u b y p).2 := by
 unfold bx;split
 ·exact SmD rfl rfl
 ·split
  ·exact pR _ _
  ·split <;> exact SmD rfl rfl
theorem oX (ak u b p : Tm) (now : Int) : cX (eJ ak u b p now) := by
 unfold eJ;split
 ·exact SmD rfl rfl
 ·split
  ·exact SmD rfl rfl
  ·split
   ·exact jz _ _ _
   ·split
    ·exact SmD rfl rfl
    ·split
     ·exact SmD rfl rfl
     ·split
      ·exact SmD rfl rfl
      ·split <;> exact SmD rfl rfl
theorem uw (t : Ta) : cX (aU t).2.2 := by
 unfold aU;split
 ·exact yW _ _ _ _ _
 ·split
  ·exact nv _ _ _ _
  ·exact oX _ _ _ _ _
theorem yX (r : Int) (c : Ca) (id : Bs) (til now : Int) : cX (dV r c id til now).2 := by
 unfold dV;split
 ·exact SmD rfl rfl
 ·split
  ·exact SmD rfl rfl
  ·split <;> exact SmD rfl rfl
theorem uy (t : Tok) (h : List Int) : cX (fM t h).2.2 := by
 unfold fM;split
 ·exact SmD rfl rfl
 ·split
  ·exact SmD rfl rfl
  ·split
   ·exact SmD rfl rfl
   ·split <;> exact SmD rfl rfl
theorem yY (n : Bs) (l : List Us) (h : List Int) : cX (codeU n l h).2.2 := by
 unfold codeU;split
 ·split
  ·exact SmD rfl rfl
  ·exact uy _ _
 ·exact SmD rfl rfl
theorem oY (k : Kd) (t : Ta) : cX (bJ k t).2.2.2 := by
 unfold bJ;split
 ·exact SmD rfl rfl
 split
 ·exact SmD rfl rfl
 split
 ·exact uw _
 split
 ·exact yX _ _ _ _ _
 split
 ·exact yY _ _ _
 ·exact SmD rfl rfl
attribute [local irreducible] dc
theorem kg {a b : Int} {k : PV -> Prop} (h : ∀ r, decide (a ≠ b) = r -> k (.bool r)) : dc .neq .i64 a b k := lE h
theorem Fl {a b : Int} {k : PV -> Prop} (h : ∀ r, decide (a = b) = r -> k (.bool r)) : dc .eql .i64 a b k := Ew h
theorem oZ (k : Kd) (m : Tm) (now : Int) (hk : wm k) (hm : wt m <= 1000000000) (hn0 : -1000000000000 <= now) (hn1 : now <= 1000000000000) :
  PM (cx true) 11 (kdO k) [.ptr 2010 0, tv m, iv now] (kdO (bg k m now).1) (.p (TV (bg k m now).2)) := by
 have ho := BP k m now hk hm;have hot := yU k m now hk hm hn0 hn1;have d1 := hk.d1;have hoe := oW k m now;unfold bg;revert ho hot hoe;generalize aK k m now = y;obtain ⟨t, e⟩ := y;intro ho hot hoe;simp only at hoe ⊢
 by_cases he : e = 0
 ·subst he;rw [if_neg (by decide)];have ht := hot rfl;have hnn := eI true t.pd (aE _ ht.pd)
  by_cases hnp : b7 t.pd = true
  ·rw [if_pos hnp];rw [show (ao dS 0 t.pd).isSome = true from hnp] at hnn;have hf := ui k t ht.done ht.ck hk.cookies hk.d0 (by omega) ht.n0 ht.n1;refine pmv { own := oO [100014, 100026] } Tryz.func11 ?_;refine goL ?_;refine ac.go gI ho (goL ?_);refine kg fun r hr => ?_
   cases r with
   | true => exact absurd rfl (of_decide_eq_true hr)
   | false =>
   refine goL ?_;refine cC hnn (goL ?_);refine ac.go gI hf (goL ?_);exact rR gI
  ·rw [if_neg hnp];have hnp' : b7 t.pd = false := by simpa using hnp
   rw [show (ao dS 0 t.pd).isSome = false from hnp'] at hnn;have htk := BN k t hk ht;have hte := oY k t;obtain ⟨s1, s2, s3, s4, s5⟩ := ur k t;revert htk hte s1 s2 s3 s4 s5;generalize bJ k t = z;obtain ⟨k2, b, h, e2⟩ := z;intro htk hte s1 s2 s3 s4 s5;simp only at hte s1 s2 s3 s4 s5 ⊢;have hts : t.u.set.length <= 3 := ht.set;have htd : t.ck.done.length < t.u.set.length := ht.done
   by_cases h2 : e2 = 0
   ·subst h2;rw [if_neg (by decide)];have hd2 : (bE t).u.set.length = t.u.set.length := rfl;have hd1 : (bE t).ck.done.length = t.ck.done.length + 1 := by
     show (t.ck.done ++ [bF t]).length = _;rw [List.length_append, List.length_singleton]
    by_cases h3 : (bE t).ck.done.length = (bE t).u.set.length
    ·rw [if_pos h3];have hkt := wn k2 (bE t) b (by rw [s5]; have := hk.few; omega) (by rw [s3]; exact hk.d0) (by rw [s3]; exact hk.d1) (by rw [s4]; exact hk.iss) (qJ ht) (by omega) ht.n0 ht.n1;refine pmv { own := oO [100014, 100030, 40, 44, 100060, 100063], fz := fun r => cond (Nat.beq r 10) [40] [] } Tryz.func11 ?_;refine goL ?_;refine ac.go gI ho (goL ?_);refine kg fun r hr => ?_
     cases r with
     | true => exact absurd rfl (of_decide_eq_true hr)
     | false =>
     refine goL ?_;refine cC hnn (goL ?_);refine ac.go gI htk (goL ?_);refine kg fun r hr2 => ?_
     cases r with
     | true => exact absurd rfl (of_decide_eq_true hr2)
     | false =>
     refine goL ?_;refine cC (dU true t.ck.done (by have := ht.ck.done; omega)) (goL ?_);refine cC (lC t ht.done) (goL ?_);refine ⟨by show ((aC t.ck.done).length + 1) * 16 <= _; rw [al]; omega, goL ?_⟩;refine Fl fun r hr3 => ?_
     have hr3 : r = decide ((bE t).ck.done.length = (bE t).u.set.length) := by
      rw [<- hr3];refine decide_eq_decide.2 ?_;show ((aC t.ck.done ++ [PV.str (bF t)]).length : Int) = ((aC t.u.set).length : Int) ↔ (t.ck.done ++ [bF t]).length = t.u.set.length;rw [mB, al, al, Int.ofNat_inj]
     rw [decide_eq_true h3] at hr3;subst hr3;refine goL ?_;refine ac.go gI hkt ?_ (hle := ⟨LE.of rfl, xE t, LE.of rfl, trivial⟩);refine goL ?_;exact rR gI
    ·rw [if_neg h3];have hof := ui k2 (bE t) (by show (bE t).ck.done.length < t.u.set.length; have h3 : ¬ (bE t).ck.done.length = t.u.set.length := h3; omega) (qJ ht) (by rw [s2]; exact hk.cookies) (by rw [s3]; exact hk.d0) (by rw [s3]; omega) ht.n0 ht.n1;refine pmv { own := oO [100014, 100030, 40, 44, 100060, 100063], fz := fun r => cond (Nat.beq r 10) [40] [] } Tryz.func11 ?_;refine goL ?_;refine ac.go gI ho (goL ?_);refine kg fun r hr => ?_
     cases r with
     | true => exact absurd rfl (of_decide_eq_true hr)
     | false =>
     refine goL ?_;refine cC hnn (goL ?_);refine ac.go gI htk (goL ?_);refine kg fun r hr2 => ?_
     cases r with
     | true => exact absurd rfl (of_decide_eq_true hr2)
     | false =>
     refine goL ?_;refine cC (dU true t.ck.done (by have := ht.ck.done; omega)) (goL ?_);refine cC (lC t ht.done) (goL ?_);refine ⟨by show ((aC t.ck.done).length + 1) * 16 <= _; rw [al]; omega, goL ?_⟩;refine Fl fun r hr3 => ?_
     have hr3 : r = decide ((bE t).ck.done.length = (bE t).u.set.length) := by
      rw [<- hr3];refine decide_eq_decide.2 ?_;show ((aC t.ck.done ++ [PV.str (bF t)]).length : Int) = ((aC t.u.set).length : Int) ↔ (t.ck.done ++ [bF t]).length = t.u.set.length;rw [mB, al, al, Int.ofNat_inj]
     rw [decide_eq_false h3] at hr3;subst hr3;refine goL ?_;refine ac.go gI hof ?_ (hle := ⟨LE.of rfl, xE t, trivial⟩);refine goL ?_;exact rR gI
   ·rw [if_pos h2];refine pmv { own := oO [100014, 100030, 40, 44, 100060, 100063], fz := fun r => cond (Nat.beq r 10) [40] [] } Tryz.func11 ?_;refine goL ?_;refine ac.go gI ho (goL ?_);refine kg fun r hr => ?_
    cases r with
    | true => exact absurd rfl (of_decide_eq_true hr)
    | false =>
    refine goL ?_;refine cC hnn (goL ?_);refine ac.go gI htk (goL ?_);refine kg fun r hr2 => ?_
    cases r with
    | false => exact absurd (by simpa using hr2) h2
    | true =>
    refine goL ?_;refine cC (qw true e2 (by omega) (by omega)) (goL ?_);exact rR gI
 ·rw [if_pos he];refine pmv { own := oO [100014] } Tryz.func11 ?_;refine goL ?_;refine ac.go gI ho (goL ?_);refine kg fun r hr => ?_
  cases r with
  | false => exact absurd (by simpa using hr) he
  | true =>
  refine goL ?_;refine cC (qw true e (by omega) (by omega)) (goL ?_);exact rR gI
end Go.Sl
namespace Go.Sl
open Go Go.Vc Go.Proofs Go.RowKit
structure Cln where
 on : Bool
 done : Bool
 ended : Bool
 nonce : Bs
 body : Tm
 wrap : Tm
 ak : Tm
 base : Tm
 sess : Tm
 name : Bs
 pw : Tm
 seed : Tm
 ctr : Int
 tick : Tm
 host : Tm
 key : Tm
 marks : List (Bs × Bs)
abbrev bv (b : Bool) : SV := .p (.bool b)
abbrev clV (c : Cln) (m : SV) : SV := .mix [bv c.on, bv c.done, bv c.ended, sv c.nonce, iv c.body.kind, sv c.body.name, lv c.body.kids, iv c.wrap.kind, sv c.wrap.name, lv c.wrap.kids, iv c.ak.kind, sv c.ak.name, lv c.ak.kids, iv c.base.kind, sv c.base.name, lv c.base.kids, iv c.sess.kind, sv c.sess.name, lv c.sess.kids,
 sv c.name, iv c.pw.kind, sv c.pw.name, lv c.pw.kids, iv c.seed.kind, sv c.seed.name, lv c.seed.kids, iv c.ctr, iv c.tick.kind, sv c.tick.name, lv c.tick.kids, iv c.host.kind, sv c.host.name, lv c.host.kids, iv c.key.kind, sv c.key.name, lv c.key.kids, m]
def mkL (l : List (Bs × Bs)) : List PV := l.map fun x => .agg [.str x.1, .str x.2]
theorem Ex (l : List (Bs × Bs)) : (mkL l).length = l.length := List.length_map _
theorem Ey (l : List (Bs × Bs)) (x : Bs × Bs) : mkL l ++ [.agg [.str x.1, .str x.2]] = mkL (l ++ [x]) := by
 rw [mkL, mkL, List.map_append];rfl
abbrev clO (c : Cln) : List (Nat × AO) := [(2020, .var true 85 (clV c (.slc 1020))), (1020, .row 227 2 (mkL c.marks))]
structure Cf where
 name : Bs
 pw : Tm
 seed : Tm
 ctr : Int
 tick : Tm
 host : Tm
abbrev Cf.pv (c : Cf) : PV := .agg [.str c.name, .int .i64 c.pw.kind, .str c.pw.name, .lst (af c.pw.kids), .int .i64 c.seed.kind, .str c.seed.name, .lst (af c.seed.kids), .int .i64 c.ctr, .int .i64 c.tick.kind, .str c.tick.name, .lst (af c.tick.kids), .int .i64 c.host.kind, .str c.host.name, .lst (af c.host.kids)]
def jB (f : Cf) : Cln := ⟨false, false, false, [], aD, aD, aD, aD, aD, f.name, f.pw, f.seed, f.ctr, f.tick, f.host, jp f.pw (oL ++ f.name), []⟩
theorem r9 (f : Cf) (hn : f.name.length <= 1000000000) : PM (cx true) 8 [] [.p f.pv] [(2020, .var true 85 (clV (jB f) (.p .nilS)))] (.ptr 2020 0) := by
 refine pmv {} Tryz.func8 ?_;refine goL ?_;refine cC (iF true f.pw f.name hn) (goL ?_);exact rR (gn [(2020, 10)]) (b := ⟨.inr (.inr (.inl ⟨true, _, _, _, rfl, rfl, Bt (by repeat (first | exact trivial | refine And.intro (by first | exact LE.refl _ | exact km | exact uh _) ?_))⟩)), trivial⟩)
def eF (c : Cln) (p k : Tm) : Tm := iH c.body c.wrap (oJ c.ak c.body p k)
theorem xF (c : Cln) (p k : Tm) : PM (cx true) 37 (clO c) [.ptr 2020 0, tv p, tv k] (clO c) (.p (TV (eF c p k))) := by
 refine pmv {} Tryz.func37 ?_;refine goL ?_;refine cC (F4 true c.ak c.body p k) (goL ?_);refine cC (F5 true c.body c.wrap _) (goL ?_);exact rR gI
def dg (c : Cln) (n : Bs) (sub : Tm) : Cln := { c with on := true, done := false, ended := false, nonce := n, body := Fk c.name n, wrap := Bk c.tick c.host sub, ak := db sub c.host mh hY, base := aD, sess := aD }
theorem o0 (c : Cln) (n : Bs) (sub : Tm) (hc : c.name.length <= 1000000000) (hn : n.length <= 1000000000) : PM (cx true) 10 (clO c) [.ptr 2020 0, sv n, tv sub] (clO (dg c n sub)) (.p (TV (eF (dg c n sub) aw aw))) := by
 have hs := xF (dg c n sub) aw aw;refine pmv { own := oO [100043] } Tryz.func10 ?_;refine goL ?_;refine cC (Ei true c.name n hc hn) (goL ?_);refine cC (Eg true c.tick c.host sub) (goL ?_);refine cC (tP true sub c.host) (goL ?_);refine cC (bq true) (goL ?_);refine cC (bq true) (goL ?_);refine ⟨_, ac.pr gI hs ⟨LE.of rfl, LE.of rfl, LE.of rfl, trivial⟩ (by (conv => whnf); exact ⟨.inr (.inr (.inl ⟨true, _, _, _, rfl, rfl, xB (by repeat (first | exact trivial | refine And.intro (by first | exact LE.refl _ | exact km | exact uh _) ?_))⟩)), .inr (.inl rfl), trivial⟩) rfl, ?_⟩;refine goL ?_;exact rR gI
def o1 (c : Cln) : Tm × Bs × Bool := if c.ended = true then (c.sess, c.nonce, true) else (aD, [], false)
theorem wq (c : Cln) : PM (cx true) 25 (clO c) [.ptr 2020 0] (clO c) (.tupS [tv (o1 c).1, sv (o1 c).2.1, bv (o1 c).2.2]) := by
 obtain ⟨on, done, ended, nonce, body, wrap, ak, base, sess, name, pw, seed, ctr, tick, host, key, marks⟩ := c;cases ended with
 | true =>
  refine pmv { ps := psT [(3, [2])] } Tryz.func25 ?_;refine goL ?_;exact rR gI ⟨rfl, LE.of rfl, rfl, LE.of rfl, rfl, LE.of rfl, trivial⟩
 | false =>
  refine pmv { ps := psT [(3, [2])] } Tryz.func25 ?_;refine goL ?_;exact rR gI ⟨rfl, gO ⟨LEP.refl _, LEP.refl _, bm, trivial⟩, rfl, LE.of rfl, rfl, LE.of rfl, trivial⟩
def ba (x : Tm) (e : Int) (tag : Bs) (n : Nat) : List Tm × Int :=
 if e ≠ 0 then ([], e) else match ao tag n x with
  | none => ([], 2)
  | some l => (l, 0)
def II (x : List Tm × Int) : Res := .tup [.lst (af x.1), .int .i64 x.2]
theorem mC (x : Tm) (e : Int) (tag : Bs) (n : Nat) (hn : n <= 1000) (hx : Fit x) : K true 164 [tv x, iv e, sv tag, iv (n : Int)] (II (ba x e tag n)) := by
 have hu := bD true tag n x hn hx;unfold ba
 by_cases he : e = 0
 ·subst he;rw [if_neg (by decide)];cases e : ao tag n x with
  | none =>
   rw [e] at hu;refine pcv {} Tryz.func164 ?_;refine goL ?_;refine cC hu (goL ?_);exact ⟨LEP.refl _, LEP.refl _, trivial⟩
  | some l =>
   rw [e] at hu;refine pcv {} Tryz.func164 ?_;refine goL ?_;refine cC hu (goL ?_);exact ⟨LEP.refl _, LEP.refl _, trivial⟩
 ·rw [if_pos he];refine pcv {} Tryz.func164 ?_;refine goL ?_;refine aa ?_ ?_ <;> intro h1
  ·refine goL ?_;exact ⟨LEP.refl _, LEP.refl _, trivial⟩
  ·exact absurd (by simpa using h1) he
end Go.Sl
namespace Go.Sl
open Go Go.Vc Go.Proofs Go.RowKit
theorem iM {x : Tm} {e : Int} {tag : Bs} {n : Nat} (h : (ba x e tag n).2 = 0) : (ba x e tag n).1.length = n /\ ∀ u ∈ (ba x e tag n).1, wt u <= wt x := by
 unfold ba at h ⊢;split at h
 ·rename_i he; exact absurd h he
 ·rename_i he;rw [if_neg he];split at h
  ·cases h
  ·rename_i l el;simp only [el];exact ⟨aY el, bV el⟩
theorem uz (k : Tm) (n : Bs) (t : Tm) : wt (bn k n t).1 <= wt t := by
 unfold bn;split
 ·exact br t
 ·split
  ·exact br t
  ·exact dp (mA _ _ _ _ _) (br t) 1
def nh (c : Cln) (ticket enc fin : Tm) : Cln × Int :=
 if c.done = false then (c, 11) else
 if (ba (bn c.ak c.nonce fin).1 (bn c.ak c.nonce fin).2 dy 2).2 ≠ 0 then (c, (ba (bn c.ak c.nonce fin).1 (bn c.ak c.nonce fin).2 dy 2).2) else
 if at_ (ba (bn c.ak c.nonce fin).1 (bn c.ak c.nonce fin).2 dy 2).1 1 ≠ bN ticket then (c, 6) else
 let u := aI (db (at_ (ba (bn c.ak c.nonce fin).1 (bn c.ak c.nonce fin).2 dy 2).1 0) c.base rQ rS) 3 enc
 if (ba u.1 u.2 nt 3).2 ≠ 0 then (c, (ba u.1 u.2 nt 3).2) else
 if at_ (ba u.1 u.2 nt 3).1 1 ≠ cN c.nonce \/ at_ (ba u.1 u.2 nt 3).1 2 ≠ bN ticket then (c, 6) else
 ({ c with sess := at_ (ba u.1 u.2 nt 3).1 0, ended := true, on := false }, 0)
attribute [local irreducible] dc
theorem Ez (c : Cln) (ticket enc fin : Tm) (hn : c.nonce.length <= 1000000000) (h1 : wt enc <= 1000000000) (h2 : wt fin <= 1000000000) :
  PM (cx true) 162 (clO c) [.ptr 2020 0, tv ticket, tv enc, tv fin] (clO (nh c ticket enc fin).1) (iv (nh c ticket enc fin).2) := by
 obtain ⟨X, hX⟩ : ∃ X, X = nh c ticket enc fin := ⟨_, rfl⟩
 rw [<- hX];unfold nh at hX;have ha := tQ true c.ak fin c.nonce (by omega) (aE _ h2);have w1 := uz c.ak c.nonce fin;revert ha w1 hX;generalize bn c.ak c.nonce fin = a;obtain ⟨x1, e1⟩ := a;intro hX ha w1;simp only at hX w1;have hf := mC x1 e1 dy 2 (by decide) (aE _ (by omega));have sf := @iM x1 e1 dy 2;revert hf sf hX;generalize ba x1 e1 dy 2 = f;obtain ⟨f, e2⟩ := f;intro hX hf sf;simp only at hX sf;have hu := jS true (db (at_ f 0) c.base rQ rS) enc 3 (by decide) (by decide) (aE _ h1);have w2 := @jV (db (at_ f 0) c.base rQ rS) 3 enc;revert hu w2 hX;generalize aI (db (at_ f 0) c.base rQ rS) 3 enc = u;obtain ⟨x2, e3⟩ := u;intro hX hu w2;simp only at hX w2;have hl := mC x2 e3 nt 3 (by decide) (aE _ (by omega));have sl := @iM x2 e3 nt 3;revert hl sl hX;generalize ba x2 e3 nt 3 = l;obtain ⟨l, e4⟩ := l;intro hX hl sl;simp only at hX sl;obtain ⟨on, done, ended, nonce, body, wrap, ak, base, sess, name, pw, seed, ctr, tick, host, key, marks⟩ := c
 simp only at *;refine pmv { ps := psT [(3, [9]), (10, [9])] } Tryz.func162 ?_;cases done with
 | false =>
  rw [if_pos rfl] at hX;subst hX;refine goL ?_;exact rR gI
 | true =>
 rw [if_neg (by decide)] at hX;refine goL ?_;refine cC ha (goL ?_);refine cC hf (goL ?_);refine cC (fH true ticket) (goL ?_);refine kg fun r hr => ?_
 cases r with
 | true =>
  have g : ¬ e2 = 0 := of_decide_eq_true hr;rw [if_pos g] at hX;subst hX;refine goL ?_;exact rR gI
 | false =>
 have g : e2 = 0 := by simpa using hr
 subst g;rw [if_neg (by decide)] at hX;obtain ⟨hfl, hfw⟩ := sf rfl;have hfw' : ∀ i, wt (at_ f i) <= 1000000000 := fun i => dp (fun u hu => Nat.le_trans (hfw u hu) (by omega)) (by decide) i
 refine goL ?_;refine ⟨_, ap (l := f) (i := 1) (by omega), rfl, rfl, goL ?_⟩;have hs1 := cy true (at_ f 1) (aE _ (hfw' 1)) (bN ticket)
 by_cases g1 : at_ f 1 = bN ticket
 ·rw [if_neg (fun h => h g1)] at hX;rw [decide_eq_true g1] at hs1;refine cC hs1 (goL ?_);refine ⟨_, ap (l := f) (i := 0) (by omega), rfl, rfl, goL ?_⟩;refine cC (tR true (at_ f 0) base) (goL ?_);refine cC hu (goL ?_);refine cC hl (goL ?_);refine kg fun r hr2 => ?_
  cases r with
  | true =>
   have g : ¬ e4 = 0 := of_decide_eq_true hr2;rw [if_pos g] at hX;subst hX;refine goL ?_;exact rR gI
  | false =>
  have g : e4 = 0 := by simpa using hr2
  subst g;rw [if_neg (by decide)] at hX;obtain ⟨hll, hlw⟩ := sl rfl;have hlw' : ∀ i, wt (at_ l i) <= 1000000000 := fun i => dp (fun u hu => Nat.le_trans (hlw u hu) (by omega)) (by decide) i
  refine goL ?_;refine ⟨_, ap (l := l) (i := 1) (by omega), rfl, rfl, goL ?_⟩;refine cC (fI true nonce (by omega)) (goL ?_);have hs2 := cy true (at_ l 1) (aE _ (hlw' 1)) (cN nonce)
  by_cases g2 : at_ l 1 = cN nonce
  ·rw [decide_eq_true g2] at hs2;refine cC hs2 (goL ?_);refine ⟨_, ap (l := l) (i := 2) (by omega), rfl, rfl, goL ?_⟩;have hs3 := cy true (at_ l 2) (aE _ (hlw' 2)) (bN ticket)
   by_cases g3 : at_ l 2 = bN ticket
   ·rw [decide_eq_true g3] at hs3;rw [if_neg (fun h => h.elim (fun h => h g2) fun h => h g3)] at hX;subst hX;refine cC hs3 (goL ?_);refine ⟨_, ap (l := l) (i := 0) (by omega), rfl, rfl, goL ?_⟩;exact rR gI
   ·rw [decide_eq_false g3] at hs3;rw [if_pos (.inr g3)] at hX;subst hX;refine cC hs3 (goL ?_);exact rR gI
  ·rw [decide_eq_false g2] at hs2;rw [if_pos (.inl g2)] at hX;subst hX;refine cC hs2 (goL ?_);exact rR gI
 ·rw [if_pos g1] at hX;subst hX;rw [decide_eq_false g1] at hs1;refine cC hs1 (goL ?_);exact rR gI
end Go.Sl
namespace Go.Sl
open Go Go.Vc Go.Proofs Go.RowKit
def dr (c : Cln) (offer : Tm) (now : Int) (x : Tm) : Cln × Tm × Tm × Int :=
 if fq offer = chW then (c, oN c.ak c.key c.body now, c.key, 0) else
 if fq offer = cW then ((if (dI c.ak offer (er c.seed kB c.ctr)).2 = 0 then { c with ctr := c.ctr + 1 } else c), (dI c.ak offer (er c.seed kB c.ctr)).1, er c.ak mg 46, (dI c.ak offer (er c.seed kB c.ctr)).2) else
 if fq offer = spW then (c, (cA c.key c.body offer x).1, (cA c.key c.body offer x).2.1, (cA c.key c.body offer x).2.2) else
 (c, aD, aD, 2)
abbrev doV (x : Cln × Tm × Tm × Int) : SV := .tupS [tv x.2.1, tv x.2.2.1, iv x.2.2.2]
theorem EA (c : Cln) (offer : Tm) (now : Int) (x : Tm) (hw : wt offer <= 1000000000) (hx : wt x <= 1000000000) (h0 : 0 <= c.ctr) (h1 : c.ctr <= 1000000000000) (n0 : -1000000000000 <= now) (n1 : now <= 1000000000000) :
  PM (cx true) 165 (clO c) [.ptr 2020 0, tv offer, iv now, tv x] (clO (dr c offer now x).1) (doV (dr c offer now x)) := by
 have ht := rO true offer;unfold dr
 by_cases g1 : fq offer = chW
 ·rw [if_pos g1];refine pmv { ps := psT [(3, [8, 9]), (5, [8]), (8, [8, 9]), (11, [8, 9])] } Tryz.func165 ?_;refine goL ?_;refine cC ht (goL ?_);refine aa ?_ ?_ <;> intro hr
  rotate_left
  ·exact absurd g1 (of_decide_eq_false hr)
  refine goL ?_;refine cC (rT true c.ak c.key c.body now (by omega) (by omega)) (goL ?_);exact rR gI ⟨rfl, LE.of rfl, rfl, LE.of rfl, rfl, LE.of rfl, trivial⟩
 ·rw [if_neg g1]
  by_cases g2 : fq offer = cW
  ·rw [if_pos g2];have ha := rV true c.ak offer (er c.seed kB c.ctr) (aE _ hw);revert ha;generalize dI c.ak offer (er c.seed kB c.ctr) = a;obtain ⟨a, e⟩ := a;intro ha
   by_cases he : e = 0
   ·subst he;simp only;rw [if_pos trivial];refine pmv { ps := psT [(3, [8, 9]), (5, [8]), (8, [8, 9]), (11, [8, 9])] } Tryz.func165 ?_;refine goL ?_;refine cC ht (goL ?_);refine aa ?_ ?_ <;> intro hr
    ·exact absurd (of_decide_eq_true hr) g1
    refine goL ?_;refine aa ?_ ?_ <;> intro hr
    rotate_left
    ·exact absurd g2 (of_decide_eq_false hr)
    refine goL ?_;refine cC (mm true c.seed c.ctr (by omega) (by omega)) (goL ?_);refine cC ha (goL ?_);refine ⟨c.ctr + 1, aS (k := c.ctr + 1) (by omega) (by omega) rfl, goL ?_⟩;refine cC (mj true c.ak 46 (by decide) (by decide)) (goL ?_);exact rR gI ⟨rfl, LE.of rfl, rfl, LE.of rfl, rfl, LE.of rfl, trivial⟩
   ·simp only;rw [if_neg he];refine pmv { ps := psT [(3, [8, 9]), (5, [8]), (8, [8, 9]), (11, [8, 9])] } Tryz.func165 ?_;refine goL ?_;refine cC ht (goL ?_);refine aa ?_ ?_ <;> intro hr
    ·exact absurd (of_decide_eq_true hr) g1
    refine goL ?_;refine aa ?_ ?_ <;> intro hr
    rotate_left
    ·exact absurd g2 (of_decide_eq_false hr)
    refine goL ?_;refine cC (mm true c.seed c.ctr (by omega) (by omega)) (goL ?_);refine cC ha (goL ?_);refine aa ?_ ?_ <;> intro hr
    ·exact absurd (of_decide_eq_true hr) he
    refine goL ?_;refine cC (mj true c.ak 46 (by decide) (by decide)) (goL ?_);exact rR gI ⟨rfl, LE.of rfl, rfl, LE.of rfl, rfl, LE.of rfl, trivial⟩
  ·rw [if_neg g2]
   by_cases g3 : fq offer = spW
   ·rw [if_pos g3];have ha := oQ c.key c.body offer x hw hx;revert ha;generalize cA c.key c.body offer x = a;obtain ⟨a, b, e⟩ := a;intro ha;refine pmv { ps := psT [(3, [8, 9]), (5, [8]), (8, [8, 9]), (11, [8, 9])] } Tryz.func165 ?_;refine goL ?_;refine cC ht (goL ?_);refine aa ?_ ?_ <;> intro hr
    ·exact absurd (of_decide_eq_true hr) g1
    refine goL ?_;refine aa ?_ ?_ <;> intro hr
    ·exact absurd (of_decide_eq_true hr) g2
    refine goL ?_;refine aa ?_ ?_ <;> intro hr
    rotate_left
    ·exact absurd g3 (of_decide_eq_false hr)
    refine goL ?_;refine cC ha (goL ?_);exact rR gI ⟨rfl, LE.of rfl, rfl, LE.of rfl, rfl, LE.of rfl, trivial⟩
   ·rw [if_neg g3];refine pmv { ps := psT [(3, [8, 9]), (5, [8]), (8, [8, 9]), (11, [8, 9])] } Tryz.func165 ?_;refine goL ?_;refine cC ht (goL ?_);refine aa ?_ ?_ <;> intro hr
    ·exact absurd (of_decide_eq_true hr) g1
    refine goL ?_;refine aa ?_ ?_ <;> intro hr
    ·exact absurd (of_decide_eq_true hr) g2
    refine goL ?_;refine aa ?_ ?_ <;> intro hr
    ·exact absurd (of_decide_eq_true hr) g3
    refine goL ?_;exact rR gI ⟨rfl, gO ⟨LEP.refl _, LEP.refl _, bm, trivial⟩, rfl, gO ⟨LEP.refl _, LEP.refl _, bm, trivial⟩, rfl, LE.of rfl, trivial⟩
end Go.Sl
