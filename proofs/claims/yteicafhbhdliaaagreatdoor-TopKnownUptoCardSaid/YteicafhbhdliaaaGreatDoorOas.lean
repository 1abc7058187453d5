/- Part 19 of the proof: Yr Ba Bb Bc. -/
import Derived.Test.YteicafhbhdliaaaGreatDoorOar
import Derived.Test.YteicafhbhdliaaaGreatDoorProg
import Derived.Test.YteicafhbhdliaaaGreatDoorSh
import Derived.KernelRfl
import Derived.Lib.LaidTab
import Derived.Lib.ItoaNum
import Derived.Laws.BitsAllLaws
set_option linter.unusedSimpArgs false
set_option linter.unusedVariables false
set_option maxHeartbeats 4000000
namespace Go.Sl
open Go Go.Vc Go.Proofs Go.RowKit
theorem Cw {l : List Cln} (h : l.length = 1) : ∃ c, l = [c] := by
 match l, h with
 | [c], _ => exact ⟨c, rfl⟩
theorem j9 {l : List Cln} (h : l.length = 2) : ∃ c d, l = [c, d] := by
 match l, h with
 | [c, d], _ => exact ⟨c, d, rfl⟩
theorem gk {l : List Bs} (h : l.length = 2) : ∃ x0 x1, l = [x0, x1] := by
 match l, h with
 | [c, d], _ => exact ⟨c, d, rfl⟩
theorem pk {l : List Bool} (h : l.length = 2) : ∃ x0 x1, l = [x0, x1] := by
 match l, h with
 | [c, d], _ => exact ⟨c, d, rfl⟩
theorem mI {W : Wo} {s : Stp} (h : s.kind = 1 \/ s.kind = 7 \/ s.kind = 3 \/ s.kind = 5) (hM : a8 W s = 0) : 0 <= s.who /\ s.who < (W.cs.length : Int) := Classical.byContradiction fun hc => by
 rw [iP h hc] at hM;cases hM
theorem so {W : Wo} {s : Stp} (h : s.kind = 2 \/ s.kind = 3) (hM : a8 W s = 0) : 0 <= s.pos /\ s.pos < (W.pool.length : Int) := Classical.byContradiction fun hc => by
 rw [fN h hc] at hM;cases hM
theorem Cy {W : Wo} {s : Stp} (h : s.kind = 4 \/ s.kind = 5) (hw : s.kind = 5 -> 0 <= s.who /\ s.who < (W.cs.length : Int)) (hM : a8 W s = 0) : cd s.t = true /\ knT (frT W) s.t = true := Classical.byContradiction fun hc => by
 rw [lI h hw hc] at hM;cases hM
theorem EM {W : Wo} {s : Stp} (hM : a8 W s = 0) : 1 <= s.kind /\ s.kind <= 9 := Classical.byContradiction fun hc => by
 rw [mF (by omega)] at hM;cases hM
theorem gL {W : Wo} {N j : Nat} (h : aM N j W) {i : Nat} (hi : i < W.pool.length) : cY (at_ W.pool i) := by
 refine h.pool _ ?_;rw [at_, List.getD_eq_getElem?_getD, List.getElem?_eq_getElem hi];exact List.getElem_mem hi
theorem nj {t : Tm} (h : cd t = true) (hs : t.size <= 60) (hw : wt t <= 1200000) : mD t := by
 unfold cd at h;rw [Bool.and_eq_true] at h;exact ⟨cU t 60 h.1, hs, hw⟩
theorem EN : wt aw <= 1000000000 := by decide
theorem jD {t : Tm} (h : t = aw \/ cY t) : wt t <= 1000000000 := by
 rcases h with rfl | h
 ·exact EN
 ·have := h.g.wt; omega
theorem eQ {W : Wo} {s : Stp} (h : a8 W s ≠ 0) : doT W s = (W, aw, a8 W s) := by
 unfold doT;rw [if_pos h]
theorem Cz {W : Wo} {who pos : Int} {t : Tm} (hM : a8 W ⟨1, who, pos, t⟩ = 0) : doT W ⟨1, who, pos, t⟩ = bU W who.toNat (W.cs.getD who.toNat cl0) := by
 unfold doT;rw [if_neg (fun h => h hM), if_pos rfl]
theorem CA {W : Wo} {who pos : Int} {t : Tm} (hM : a8 W ⟨2, who, pos, t⟩ = 0) : doT W ⟨2, who, pos, t⟩ = bA W (at_ W.pool pos.toNat) := by
 unfold doT;rw [if_neg (fun h => h hM), if_neg (by decide : ¬ (2 : Int) = 1), if_pos rfl]
theorem HG {W : Wo} {who pos : Int} {t : Tm} (hM : a8 W ⟨4, who, pos, t⟩ = 0) : doT W ⟨4, who, pos, t⟩ = bA W t := by
 unfold doT;rw [if_neg (fun h => h hM), if_neg (by decide : ¬ (4 : Int) = 1), if_neg (by decide : ¬ (4 : Int) = 2), if_pos rfl]
theorem CB {W : Wo} {who pos : Int} {t : Tm} (hM : a8 W ⟨3, who, pos, t⟩ = 0) : doT W ⟨3, who, pos, t⟩ = au W who.toNat (W.cs.getD who.toNat cl0) (at_ W.pool pos.toNat) := by
 unfold doT;rw [if_neg (fun h => h hM), if_neg (by decide : ¬ (3 : Int) = 1), if_neg (by decide : ¬ (3 : Int) = 2), if_neg (by decide : ¬ (3 : Int) = 4), if_pos rfl]
theorem HH {W : Wo} {who pos : Int} {t : Tm} (hM : a8 W ⟨5, who, pos, t⟩ = 0) : doT W ⟨5, who, pos, t⟩ = au W who.toNat (W.cs.getD who.toNat cl0) t := by
 unfold doT;rw [if_neg (fun h => h hM), if_neg (by decide : ¬ (5 : Int) = 1), if_neg (by decide : ¬ (5 : Int) = 2), if_neg (by decide : ¬ (5 : Int) = 4), if_neg (by decide : ¬ (5 : Int) = 3), if_pos rfl]
theorem HI {W : Wo} {who pos : Int} {t : Tm} (hM : a8 W ⟨6, who, pos, t⟩ = 0) : doT W ⟨6, who, pos, t⟩ = (pb W pos, aw, 0) := by
 unfold doT;rw [if_neg (fun h => h hM), if_neg (by decide : ¬ (6 : Int) = 1), if_neg (by decide : ¬ (6 : Int) = 2), if_neg (by decide : ¬ (6 : Int) = 4), if_neg (by decide : ¬ (6 : Int) = 3), if_neg (by decide : ¬ (6 : Int) = 5), if_pos rfl]
theorem HJ {W : Wo} {who pos : Int} {t : Tm} (hM : a8 W ⟨7, who, pos, t⟩ = 0) : doT W ⟨7, who, pos, t⟩ = (aZ W who.toNat, aw, 0) := by
 unfold doT;rw [if_neg (fun h => h hM), if_neg (by decide : ¬ (7 : Int) = 1), if_neg (by decide : ¬ (7 : Int) = 2), if_neg (by decide : ¬ (7 : Int) = 4), if_neg (by decide : ¬ (7 : Int) = 3), if_neg (by decide : ¬ (7 : Int) = 5), if_neg (by decide : ¬ (7 : Int) = 6), if_pos rfl]
theorem HK {W : Wo} {who pos : Int} {t : Tm} (hM : a8 W ⟨8, who, pos, t⟩ = 0) : doT W ⟨8, who, pos, t⟩ = (gK W, aw, 0) := by
 unfold doT;rw [if_neg (fun h => h hM), if_neg (by decide : ¬ (8 : Int) = 1), if_neg (by decide : ¬ (8 : Int) = 2), if_neg (by decide : ¬ (8 : Int) = 4), if_neg (by decide : ¬ (8 : Int) = 3), if_neg (by decide : ¬ (8 : Int) = 5), if_neg (by decide : ¬ (8 : Int) = 6), if_neg (by decide : ¬ (8 : Int) = 7), if_pos rfl]
theorem HL {W : Wo} {who pos : Int} {t : Tm} (hM : a8 W ⟨9, who, pos, t⟩ = 0) : doT W ⟨9, who, pos, t⟩ = (gj W, aw, 0) := by
 unfold doT;rw [if_neg (fun h => h hM), if_neg (by decide : ¬ (9 : Int) = 1), if_neg (by decide : ¬ (9 : Int) = 2), if_neg (by decide : ¬ (9 : Int) = 4), if_neg (by decide : ¬ (9 : Int) = 3), if_neg (by decide : ¬ (9 : Int) = 5), if_neg (by decide : ¬ (9 : Int) = 6), if_neg (by decide : ¬ (9 : Int) = 7), if_neg (by decide : ¬ (9 : Int) = 8)]
theorem zi {j : Nat} (W : Wo) (h : aM 1 j W) (hj : j <= 250) (who pos : Int) (t : Tm) (hp : pos <= 9223372036854775807) : PM (cx true) 24 (woO W) [.ptr 2000 0, .p (Stp.pv ⟨1, who, pos, t⟩)] (woO (doT W ⟨1, who, pos, t⟩).1) (.tupS [tv (doT W ⟨1, who, pos, t⟩).2.1, iv (doT W ⟨1, who, pos, t⟩).2.2]) /\ aM 1 (j + 3) (doT W ⟨1, who, pos, t⟩).1 := by
 obtain ⟨c, hcs⟩ := Cw h.len;have hm := BY W c hcs who pos t
 by_cases hM : a8 W ⟨1, who, pos, t⟩ = 0
 rotate_left
 ·rw [eQ hM];exact ⟨sm W c hcs _ _ hM hm, h.mono (by omega)⟩
 rw [hM] at hm;rw [Cz hM];have hwho := mI (s := ⟨1, who, pos, t⟩) (by simp) hM;rw [hcs] at hwho;have w0 : 0 <= who := hwho.1;have w1 : who < 1 := hwho.2;have t0 := h.t0;have t1 := h.t1;have n0 := h.n0;have n1 := h.n1;have pl := h.plen;have tl := h.tlen;obtain rfl : who = 0 := by omega
 have hx : W.cs.getD 0 cl0 = c := by rw [hcs]; rfl
 have hci : dZ j c := h.cs _ (by rw [hcs]; simp);rw [show (0 : Int).toNat = 0 from rfl, hx];have hg := (hci.start h.n0 (by omega)).g (j := j) (by omega) rfl;exact ⟨Cd W c hcs pos t hm n0 (by omega) (by have := hci.name; omega) (jD (.inr (iN hg))) (by omega), h.start (by omega) hci⟩
theorem mJ {j : Nat} (W : Wo) (h : aM 1 j W) (hj : j <= 250) (who pos : Int) (t : Tm) (hp : pos <= 9223372036854775807) : PM (cx true) 24 (woO W) [.ptr 2000 0, .p (Stp.pv ⟨2, who, pos, t⟩)] (woO (doT W ⟨2, who, pos, t⟩).1) (.tupS [tv (doT W ⟨2, who, pos, t⟩).2.1, iv (doT W ⟨2, who, pos, t⟩).2.2]) /\ aM 1 (j + 3) (doT W ⟨2, who, pos, t⟩).1 := by
 obtain ⟨c, hcs⟩ := Cw h.len;have hm := BZ W c hcs who pos t
 by_cases hM : a8 W ⟨2, who, pos, t⟩ = 0
 rotate_left
 ·rw [eQ hM];exact ⟨sm W c hcs _ _ hM hm, h.mono (by omega)⟩
 rw [hM] at hm;rw [CA hM];have hpos := so (s := ⟨2, who, pos, t⟩) (by simp) hM;have p0 : 0 <= pos := hpos.1;have p1 : pos.toNat < W.pool.length := by have q : pos < (W.pool.length : Int) := hpos.2; omega
 have hin : lG (at_ W.pool pos.toNat) := .inr (gL h p1);have hwt : wt (at_ W.pool pos.toNat) <= 1000000000 := by have := (gL h p1).g.wt; omega
 have t0 := h.t0;have t1 := h.t1;have n0 := h.n0;have n1 := h.n1;have pl := h.plen;have tl := h.tlen;obtain ⟨hi, hpo⟩ := h.asks (by omega) hin;have ha := BW W c hcs _ hwt (h.k.ok (by omega)) (by omega) (by omega) (jD (.inr hpo)) (by omega);exact ⟨EF W c hcs who pos t hm ha p0 p1, hi⟩
theorem mK {j : Nat} (W : Wo) (h : aM 1 j W) (hj : j <= 250) (who pos : Int) (t : Tm) (hp : pos <= 9223372036854775807) : PM (cx true) 24 (woO W) [.ptr 2000 0, .p (Stp.pv ⟨3, who, pos, t⟩)] (woO (doT W ⟨3, who, pos, t⟩).1) (.tupS [tv (doT W ⟨3, who, pos, t⟩).2.1, iv (doT W ⟨3, who, pos, t⟩).2.2]) /\ aM 1 (j + 3) (doT W ⟨3, who, pos, t⟩).1 := by
 obtain ⟨c, hcs⟩ := Cw h.len;have hm := B1 W c hcs who pos t
 by_cases hM : a8 W ⟨3, who, pos, t⟩ = 0
 rotate_left
 ·rw [eQ hM];exact ⟨sm W c hcs _ _ hM hm, h.mono (by omega)⟩
 rw [hM] at hm;rw [CB hM];have hwho := mI (s := ⟨3, who, pos, t⟩) (by simp) hM;rw [hcs] at hwho;have w0 : 0 <= who := hwho.1;have w1 : who < 1 := hwho.2;have hpos := so (s := ⟨3, who, pos, t⟩) (by simp) hM;have p0 : 0 <= pos := hpos.1;have p1 : pos.toNat < W.pool.length := by have q : pos < (W.pool.length : Int) := hpos.2; omega
 have hin : lG (at_ W.pool pos.toNat) := .inr (gL h p1);have hwt : wt (at_ W.pool pos.toNat) <= 1000000000 := by have := (gL h p1).g.wt; omega
 have t0 := h.t0;have t1 := h.t1;have n0 := h.n0;have n1 := h.n1;have pl := h.plen;have tl := h.tlen;obtain rfl : who = 0 := by omega
 have hx : W.cs.getD 0 cl0 = c := by rw [hcs]; rfl
 have hci : dZ j c := h.cs _ (by rw [hcs]; simp);rw [show (0 : Int).toNat = 0 from rfl, hx];obtain ⟨hi, hpo⟩ := h.takes (i := 0) (by omega) hci hin;have ha := wA W c hcs _ hwt n0 (by omega) (hci.ok (by omega)) (by omega) (by omega) (jD hpo) (by omega);exact ⟨Ch W c hcs pos t hm ha p0 p1, hi⟩
theorem zj {j : Nat} (W : Wo) (h : aM 2 j W) (hj : j <= 250) (who pos : Int) (t : Tm) (hp : pos <= 9223372036854775807) : PM (cx true) 24 (woO W) [.ptr 2000 0, .p (Stp.pv ⟨1, who, pos, t⟩)] (woO (doT W ⟨1, who, pos, t⟩).1) (.tupS [tv (doT W ⟨1, who, pos, t⟩).2.1, iv (doT W ⟨1, who, pos, t⟩).2.2]) /\ aM 2 (j + 3) (doT W ⟨1, who, pos, t⟩).1 := by
 obtain ⟨c, d, hcs⟩ := j9 h.len;have hm := B2 W c d hcs who pos t
 by_cases hM : a8 W ⟨1, who, pos, t⟩ = 0
 rotate_left
 ·rw [eQ hM];exact ⟨eX W c d hcs _ _ hM hm, h.mono (by omega)⟩
 rw [hM] at hm;rw [Cz hM];have hwho := mI (s := ⟨1, who, pos, t⟩) (by simp) hM;rw [hcs] at hwho;have w0 : 0 <= who := hwho.1;have w1 : who < 2 := hwho.2;have t0 := h.t0;have t1 := h.t1;have n0 := h.n0;have n1 := h.n1;have pl := h.plen;have tl := h.tlen;rcases (by omega : who = 0 \/ who = 1) with rfl | rfl
 ·have hx : W.cs.getD 0 cl0 = c := by rw [hcs]; rfl
  have hci : dZ j c := h.cs _ (by rw [hcs]; simp);rw [show (0 : Int).toNat = 0 from rfl, hx];have hg := (hci.start h.n0 (by omega)).g (j := j) (by omega) rfl;exact ⟨Ce W c d hcs pos t hm n0 (by omega) (by have := hci.name; omega) (jD (.inr (iN hg))) (by omega), h.start (by omega) hci⟩
 ·have hx : W.cs.getD 1 cl0 = d := by rw [hcs]; rfl
  have hci : dZ j d := h.cs _ (by rw [hcs]; simp);rw [show (1 : Int).toNat = 1 from rfl, hx];have hg := (hci.start h.n0 (by omega)).g (j := j) (by omega) rfl;exact ⟨Cg W c d hcs pos t hm n0 (by omega) (by have := hci.name; omega) (jD (.inr (iN hg))) (by omega), h.start (by omega) hci⟩
theorem zk {j : Nat} (W : Wo) (h : aM 2 j W) (hj : j <= 250) (who pos : Int) (t : Tm) (hp : pos <= 9223372036854775807) : PM (cx true) 24 (woO W) [.ptr 2000 0, .p (Stp.pv ⟨2, who, pos, t⟩)] (woO (doT W ⟨2, who, pos, t⟩).1) (.tupS [tv (doT W ⟨2, who, pos, t⟩).2.1, iv (doT W ⟨2, who, pos, t⟩).2.2]) /\ aM 2 (j + 3) (doT W ⟨2, who, pos, t⟩).1 := by
 obtain ⟨c, d, hcs⟩ := j9 h.len;have hm := B3 W c d hcs who pos t
 by_cases hM : a8 W ⟨2, who, pos, t⟩ = 0
 rotate_left
 ·rw [eQ hM];exact ⟨eX W c d hcs _ _ hM hm, h.mono (by omega)⟩
 rw [hM] at hm;rw [CA hM];have hpos := so (s := ⟨2, who, pos, t⟩) (by simp) hM;have p0 : 0 <= pos := hpos.1;have p1 : pos.toNat < W.pool.length := by have q : pos < (W.pool.length : Int) := hpos.2; omega
 have hin : lG (at_ W.pool pos.toNat) := .inr (gL h p1);have hwt : wt (at_ W.pool pos.toNat) <= 1000000000 := by have := (gL h p1).g.wt; omega
 have t0 := h.t0;have t1 := h.t1;have n0 := h.n0;have n1 := h.n1;have pl := h.plen;have tl := h.tlen;obtain ⟨hi, hpo⟩ := h.asks (by omega) hin;have ha := uD W c d hcs _ hwt (h.k.ok (by omega)) (by omega) (by omega) (jD (.inr hpo)) (by omega);exact ⟨EG W c d hcs who pos t hm ha p0 p1, hi⟩
theorem zl {j : Nat} (W : Wo) (h : aM 2 j W) (hj : j <= 250) (who pos : Int) (t : Tm) (hp : pos <= 9223372036854775807) : PM (cx true) 24 (woO W) [.ptr 2000 0, .p (Stp.pv ⟨3, who, pos, t⟩)] (woO (doT W ⟨3, who, pos, t⟩).1) (.tupS [tv (doT W ⟨3, who, pos, t⟩).2.1, iv (doT W ⟨3, who, pos, t⟩).2.2]) /\ aM 2 (j + 3) (doT W ⟨3, who, pos, t⟩).1 := by
 obtain ⟨c, d, hcs⟩ := j9 h.len;have hm := B4 W c d hcs who pos t
 by_cases hM : a8 W ⟨3, who, pos, t⟩ = 0
 rotate_left
 ·rw [eQ hM];exact ⟨eX W c d hcs _ _ hM hm, h.mono (by omega)⟩
 rw [hM] at hm;rw [CB hM];have hwho := mI (s := ⟨3, who, pos, t⟩) (by simp) hM;rw [hcs] at hwho;have w0 : 0 <= who := hwho.1;have w1 : who < 2 := hwho.2;have hpos := so (s := ⟨3, who, pos, t⟩) (by simp) hM;have p0 : 0 <= pos := hpos.1;have p1 : pos.toNat < W.pool.length := by have q : pos < (W.pool.length : Int) := hpos.2; omega
 have hin : lG (at_ W.pool pos.toNat) := .inr (gL h p1);have hwt : wt (at_ W.pool pos.toNat) <= 1000000000 := by have := (gL h p1).g.wt; omega
 have t0 := h.t0;have t1 := h.t1;have n0 := h.n0;have n1 := h.n1;have pl := h.plen;have tl := h.tlen;rcases (by omega : who = 0 \/ who = 1) with rfl | rfl
 ·have hx : W.cs.getD 0 cl0 = c := by rw [hcs]; rfl
  have hci : dZ j c := h.cs _ (by rw [hcs]; simp);rw [show (0 : Int).toNat = 0 from rfl, hx];obtain ⟨hi, hpo⟩ := h.takes (i := 0) (by omega) hci hin;have ha := o8 W c d hcs _ hwt n0 (by omega) (hci.ok (by omega)) (by omega) (by omega) (jD hpo) (by omega);exact ⟨Ci W c d hcs pos t hm ha p0 p1, hi⟩
 ·have hx : W.cs.getD 1 cl0 = d := by rw [hcs]; rfl
  have hci : dZ j d := h.cs _ (by rw [hcs]; simp);rw [show (1 : Int).toNat = 1 from rfl, hx];obtain ⟨hi, hpo⟩ := h.takes (i := 1) (by omega) hci hin;have ha := o9 W c d hcs _ hwt n0 (by omega) (hci.ok (by omega)) (by omega) (by omega) (jD hpo) (by omega);exact ⟨Cj W c d hcs pos t hm ha p0 p1, hi⟩
theorem zm {j : Nat} (W : Wo) (h : aM 2 j W) (hj : j <= 250) (who pos : Int) (t : Tm) (hp : pos <= 9223372036854775807) (hs : t.size <= 60) (hw : wt t <= 1200000) : PM (cx true) 24 (woO W) [.ptr 2000 0, .p (Stp.pv ⟨4, who, pos, t⟩)] (woO (doT W ⟨4, who, pos, t⟩).1) (.tupS [tv (doT W ⟨4, who, pos, t⟩).2.1, iv (doT W ⟨4, who, pos, t⟩).2.2]) /\ aM 2 (j + 3) (doT W ⟨4, who, pos, t⟩).1 := by
 obtain ⟨c, d, hcs⟩ := j9 h.len;have hm := B5 W c d hcs who pos t (by rw [h.given]; decide) (h.frame (by omega)) (by omega)
 by_cases hM : a8 W ⟨4, who, pos, t⟩ = 0
 rotate_left
 ·rw [eQ hM];exact ⟨eX W c d hcs _ _ hM hm, h.mono (by omega)⟩
 rw [hM] at hm;rw [HG hM];have hkey := Cy (s := ⟨4, who, pos, t⟩) (by simp) (fun h => absurd h (by simp)) hM;have hin : lG t := .inl (nj hkey.1 hs hw);have hwt : wt t <= 1000000000 := by omega
 have t0 := h.t0;have t1 := h.t1;have n0 := h.n0;have n1 := h.n1;have pl := h.plen;have tl := h.tlen;obtain ⟨hi, hpo⟩ := h.asks (by omega) hin;have ha := uD W c d hcs _ hwt (h.k.ok (by omega)) (by omega) (by omega) (jD (.inr hpo)) (by omega);exact ⟨EH W c d hcs who pos t hm ha, hi⟩
theorem zn {j : Nat} (W : Wo) (h : aM 2 j W) (hj : j <= 250) (who pos : Int) (t : Tm) (hp : pos <= 9223372036854775807) (hs : t.size <= 60) (hw : wt t <= 1200000) : PM (cx true) 24 (woO W) [.ptr 2000 0, .p (Stp.pv ⟨5, who, pos, t⟩)] (woO (doT W ⟨5, who, pos, t⟩).1) (.tupS [tv (doT W ⟨5, who, pos, t⟩).2.1, iv (doT W ⟨5, who, pos, t⟩).2.2]) /\ aM 2 (j + 3) (doT W ⟨5, who, pos, t⟩).1 := by
 obtain ⟨c, d, hcs⟩ := j9 h.len;have hm := B6 W c d hcs who pos t (by rw [h.given]; decide) (h.frame (by omega)) (by omega)
 by_cases hM : a8 W ⟨5, who, pos, t⟩ = 0
 rotate_left
 ·rw [eQ hM];exact ⟨eX W c d hcs _ _ hM hm, h.mono (by omega)⟩
 rw [hM] at hm;rw [HH hM];have hwho := mI (s := ⟨5, who, pos, t⟩) (by simp) hM;rw [hcs] at hwho;have w0 : 0 <= who := hwho.1;have w1 : who < 2 := hwho.2;have hkey := Cy (s := ⟨5, who, pos, t⟩) (by simp) (fun _ => by rw [hcs]; exact ⟨w0, w1⟩) hM;have hin : lG t := .inl (nj hkey.1 hs hw);have hwt : wt t <= 1000000000 := by omega
 have t0 := h.t0;have t1 := h.t1;have n0 := h.n0;have n1 := h.n1;have pl := h.plen;have tl := h.tlen;rcases (by omega : who = 0 \/ who = 1) with rfl | rfl
 ·have hx : W.cs.getD 0 cl0 = c := by rw [hcs]; rfl
  have hci : dZ j c := h.cs _ (by rw [hcs]; simp);rw [show (0 : Int).toNat = 0 from rfl, hx];obtain ⟨hi, hpo⟩ := h.takes (i := 0) (by omega) hci hin;have ha := o8 W c d hcs _ hwt n0 (by omega) (hci.ok (by omega)) (by omega) (by omega) (jD hpo) (by omega);exact ⟨Cm W c d hcs pos t hm ha, hi⟩
 ·have hx : W.cs.getD 1 cl0 = d := by rw [hcs]; rfl
  have hci : dZ j d := h.cs _ (by rw [hcs]; simp);rw [show (1 : Int).toNat = 1 from rfl, hx];obtain ⟨hi, hpo⟩ := h.takes (i := 1) (by omega) hci hin;have ha := o9 W c d hcs _ hwt n0 (by omega) (hci.ok (by omega)) (by omega) (by omega) (jD hpo) (by omega);exact ⟨Cn W c d hcs pos t hm ha, hi⟩
theorem zo {j : Nat} (W : Wo) (h : aM 2 j W) (hj : j <= 250) (who pos : Int) (t : Tm) (hp : pos <= 9223372036854775807) : PM (cx true) 24 (woO W) [.ptr 2000 0, .p (Stp.pv ⟨6, who, pos, t⟩)] (woO (doT W ⟨6, who, pos, t⟩).1) (.tupS [tv (doT W ⟨6, who, pos, t⟩).2.1, iv (doT W ⟨6, who, pos, t⟩).2.2]) /\ aM 2 (j + 3) (doT W ⟨6, who, pos, t⟩).1 := by
 obtain ⟨c, d, hcs⟩ := j9 h.len;have hm := B7 W c d hcs who pos t
 by_cases hM : a8 W ⟨6, who, pos, t⟩ = 0
 rotate_left
 ·rw [eQ hM];exact ⟨eX W c d hcs _ _ hM hm, h.mono (by omega)⟩
 rw [hM] at hm;rw [HI hM];have t0 := h.t0;have t1 := h.t1;have n0 := h.n0;have n1 := h.n1;have pl := h.plen;have tl := h.tlen;exact ⟨EI W c d hcs who pos t hm (by omega) (by omega) hp, h.tick⟩
theorem zp {j : Nat} (W : Wo) (h : aM 2 j W) (hj : j <= 250) (who pos : Int) (t : Tm) (hp : pos <= 9223372036854775807) : PM (cx true) 24 (woO W) [.ptr 2000 0, .p (Stp.pv ⟨7, who, pos, t⟩)] (woO (doT W ⟨7, who, pos, t⟩).1) (.tupS [tv (doT W ⟨7, who, pos, t⟩).2.1, iv (doT W ⟨7, who, pos, t⟩).2.2]) /\ aM 2 (j + 3) (doT W ⟨7, who, pos, t⟩).1 := by
 obtain ⟨c, d, hcs⟩ := j9 h.len;have hm := B8 W c d hcs who pos t
 by_cases hM : a8 W ⟨7, who, pos, t⟩ = 0
 rotate_left
 ·rw [eQ hM];exact ⟨eX W c d hcs _ _ hM hm, h.mono (by omega)⟩
 rw [hM] at hm;rw [HJ hM];have hwho := mI (s := ⟨7, who, pos, t⟩) (by simp) hM;rw [hcs] at hwho;have w0 : 0 <= who := hwho.1;have w1 : who < 2 := hwho.2;have t0 := h.t0;have t1 := h.t1;have n0 := h.n0;have n1 := h.n1;have pl := h.plen;have tl := h.tlen;obtain ⟨b0, b1, hb⟩ := pk h.bad;obtain ⟨x0, x1, hnm⟩ := gk h.nlen;have l0 : x0.length <= 1 := h.names _ (by rw [hnm]; simp);have l1 : x1.length <= 1 := h.names _ (by rw [hnm]; simp);rcases (by omega : who = 0 \/ who = 1) with rfl | rfl
 ·cases b0 with
  | true => exact ⟨za W c d hcs pos t hm b1 hb x0 x1 hnm, h.corrupt⟩
  | false => exact ⟨zb W c d hcs pos t hm b1 hb x0 x1 hnm (by omega) (by omega), h.corrupt⟩
 ·cases b1 with
  | true => exact ⟨zc W c d hcs pos t hm b0 hb x0 x1 hnm, h.corrupt⟩
  | false => exact ⟨zd W c d hcs pos t hm b0 hb x0 x1 hnm (by omega) (by omega), h.corrupt⟩
theorem zq {j : Nat} (W : Wo) (h : aM 2 j W) (hj : j <= 250) (who pos : Int) (t : Tm) (hp : pos <= 9223372036854775807) : PM (cx true) 24 (woO W) [.ptr 2000 0, .p (Stp.pv ⟨8, who, pos, t⟩)] (woO (doT W ⟨8, who, pos, t⟩).1) (.tupS [tv (doT W ⟨8, who, pos, t⟩).2.1, iv (doT W ⟨8, who, pos, t⟩).2.2]) /\ aM 2 (j + 3) (doT W ⟨8, who, pos, t⟩).1 := by
 obtain ⟨c, d, hcs⟩ := j9 h.len;have hm := B9 W c d hcs who pos t
 by_cases hM : a8 W ⟨8, who, pos, t⟩ = 0
 rotate_left
 ·rw [eQ hM];exact ⟨eX W c d hcs _ _ hM hm, h.mono (by omega)⟩
 rw [hM] at hm;rw [HK hM];have t0 := h.t0;have t1 := h.t1;have n0 := h.n0;have n1 := h.n1;have pl := h.plen;have tl := h.tlen;cases hb : W.lost with
 | true => exact ⟨Co W c d hcs who pos t hm hb, h.lose⟩
 | false => exact ⟨Cp W c d hcs who pos t hm hb (by omega), h.lose⟩
theorem zr {j : Nat} (W : Wo) (h : aM 2 j W) (hj : j <= 250) (who pos : Int) (t : Tm) (hp : pos <= 9223372036854775807) : PM (cx true) 24 (woO W) [.ptr 2000 0, .p (Stp.pv ⟨9, who, pos, t⟩)] (woO (doT W ⟨9, who, pos, t⟩).1) (.tupS [tv (doT W ⟨9, who, pos, t⟩).2.1, iv (doT W ⟨9, who, pos, t⟩).2.2]) /\ aM 2 (j + 3) (doT W ⟨9, who, pos, t⟩).1 := by
 obtain ⟨c, d, hcs⟩ := j9 h.len;have hm := Cb W c d hcs who pos t
 by_cases hM : a8 W ⟨9, who, pos, t⟩ = 0
 rotate_left
 ·rw [eQ hM];exact ⟨eX W c d hcs _ _ hM hm, h.mono (by omega)⟩
 rw [hM] at hm;rw [HL hM];have t0 := h.t0;have t1 := h.t1;have n0 := h.n0;have n1 := h.n1;have pl := h.plen;have tl := h.tlen;exact ⟨EJ W c d hcs who pos t hm h.k.room0, h.restart⟩
theorem zt {j : Nat} (W : Wo) (h : aM 2 j W) (hj : j <= 250) (who pos : Int) (t : Tm) (hp : pos <= 9223372036854775807) (kind : Int) (hk : kind < 1 \/ 9 < kind) : PM (cx true) 24 (woO W) [.ptr 2000 0, .p (Stp.pv ⟨kind, who, pos, t⟩)] (woO (doT W ⟨kind, who, pos, t⟩).1) (.tupS [tv (doT W ⟨kind, who, pos, t⟩).2.1, iv (doT W ⟨kind, who, pos, t⟩).2.2]) /\ aM 2 (j + 3) (doT W ⟨kind, who, pos, t⟩).1 := by
 obtain ⟨c, d, hcs⟩ := j9 h.len;have hm := Cc W c d hcs who pos t kind hk
 by_cases hM : a8 W ⟨kind, who, pos, t⟩ = 0
 rotate_left
 ·rw [eQ hM];exact ⟨eX W c d hcs _ _ hM hm, h.mono (by omega)⟩
 ·exact absurd (EM hM) (by show ¬ (1 <= kind /\ kind <= 9); omega)
theorem CC {j : Nat} (W : Wo) (h : aM 2 j W) (hj : j <= 250) (s : Stp) (hp : s.pos <= 9223372036854775807) (hs : s.t.size <= 60) (hw : wt s.t <= 1200000) :
  PM (cx true) 24 (woO W) [.ptr 2000 0, .p s.pv] (woO (doT W s).1) (.tupS [tv (doT W s).2.1, iv (doT W s).2.2]) /\ aM 2 (j + 3) (doT W s).1 := by
 obtain ⟨kind, who, pos, t⟩ := s;have hp : pos <= 9223372036854775807 := hp;have hs : t.size <= 60 := hs;have hw : wt t <= 1200000 := hw
 by_cases hk : kind < 1 \/ 9 < kind
 ·exact zt W h hj who pos t hp kind hk
 rcases (by omega : kind = 1 \/ kind = 2 \/ kind = 3 \/ kind = 4 \/ kind = 5 \/ kind = 6 \/ kind = 7 \/ kind = 8 \/ kind = 9) with rfl | rfl | rfl | rfl | rfl | rfl | rfl | rfl | rfl
 ·exact zj W h hj who pos t hp
 ·exact zk W h hj who pos t hp
 ·exact zl W h hj who pos t hp
 ·exact zm W h hj who pos t hp hs hw
 ·exact zn W h hj who pos t hp hs hw
 ·exact zo W h hj who pos t hp
 ·exact zp W h hj who pos t hp
 ·exact zq W h hj who pos t hp
 ·exact zr W h hj who pos t hp
theorem ic (l : List Tm) (t : Tm) : ∃ m, dW l t = l ++ m := by
 unfold dW;split
 ·exact ⟨[], by simp⟩
 ·exact ⟨[t], rfl⟩
theorem zu (W : Wo) (s : Stp) : (doT W s).1.given = W.given /\ (∃ m, (doT W s).1.pool = W.pool ++ m) /\ ∃ m, (doT W s).1.told = W.told ++ m := by
 have hn : ∀ l : List Tm, ∃ m, l = l ++ m := fun l => ⟨[], by simp⟩
 unfold doT;split
 ·exact ⟨rfl, hn _, hn _⟩
 split
 ·exact ⟨rfl, (by unfold bU; simp only; exact ic _ _), hn _⟩
 split
 ·exact ⟨rfl, (by unfold bA; simp only; exact ic _ _), hn _⟩
 split
 ·exact ⟨rfl, (by unfold bA; simp only; exact ic _ _), hn _⟩
 split
 ·exact ⟨rfl, (by unfold au; simp only; exact ic _ _), hn _⟩
 split
 ·exact ⟨rfl, (by unfold au; simp only; exact ic _ _), hn _⟩
 split
 ·exact ⟨rfl, hn _, hn _⟩
 split
 ·refine ⟨rfl, hn _, ?_⟩;unfold aZ;simp only;split
  ·exact hn _
  ·exact ⟨_, rfl⟩
 split
 ·refine ⟨rfl, hn _, ?_⟩;unfold gK;simp only;split
  ·exact hn _
  ·exact ⟨_, rfl⟩
 ·exact ⟨rfl, hn _, hn _⟩
end Go.Sl
namespace Go.So
open Go Go.Vc Go.Proofs
def xd : TI := { k := 5, agg := false, sz := 1, bytes := 8, zero := .int .i64 0, flds := [], elem := 0, alen := 0 }
def vN : TI := { k := 6, agg := false, sz := 1, bytes := 1, zero := .bool false, flds := [], elem := 0, alen := 0 }
def FK : TI := { k := 5, agg := false, sz := 1, bytes := 1, zero := .int .u8 0, flds := [], elem := 0, alen := 0 }
def xe : TI := { k := 4, agg := false, sz := 1, bytes := 16, zero := .str [], flds := [], elem := 0, alen := 0 }
def AL : TI := { k := 5, agg := false, sz := 1, bytes := 4, zero := .int .i32 0, flds := [], elem := 0, alen := 0 }
def rB : TI := { k := 2, agg := false, sz := 1, bytes := 24, zero := .nilS, flds := [], elem := 5, alen := 0 }
def AK : TI := { k := 5, agg := false, sz := 1, bytes := 8, zero := .int .i64 0, flds := [], elem := 0, alen := 0 }
def vO : TI := { k := 5, agg := false, sz := 1, bytes := 8, zero := .int .u64 0, flds := [], elem := 0, alen := 0 }
def HM : TI := { k := 5, agg := false, sz := 1, bytes := 4, zero := .int .u32 0, flds := [], elem := 0, alen := 0 }
def HN : TI := { k := 5, agg := false, sz := 1, bytes := 8, zero := .int .u64 0, flds := [], elem := 0, alen := 0 }
def vP : TI := { k := 2, agg := false, sz := 1, bytes := 24, zero := .nilS, flds := [], elem := 3, alen := 0 }
def HO : TI := { k := 3, agg := true, sz := 20, bytes := 20, zero := .agg (List.replicate 20 (.int .u8 0)), flds := [], elem := 5, alen := 20 }
def IP : TI := { k := 3, agg := true, sz := 8, bytes := 8, zero := .agg (List.replicate 8 (.int .u8 0)), flds := [], elem := 5, alen := 8 }
def IQ : TI := { k := 3, agg := true, sz := 3, bytes := 24, zero := .agg (List.replicate 3 (.int .i64 0)), flds := [], elem := 3, alen := 3 }
def IR : TI := { k := 3, agg := true, sz := 5, bytes := 20, zero := .agg (List.replicate 5 (.int .u32 0)), flds := [], elem := 266, alen := 5 }
def HP : TI := { k := 3, agg := true, sz := 80, bytes := 320, zero := .agg (List.replicate 80 (.int .u32 0)), flds := [], elem := 266, alen := 80 }
def GA : TI := { k := 1, agg := true, sz := 7, bytes := 56, zero := .agg [.int .u32 0, .int .u32 0, .int .u32 0, .int .u32 0, .int .u32 0, .nilS, .int .u64 0], flds := [(0, 5), (5, 1), (6, 1)], elem := 0, alen := 0 }
def EO : TI := { k := 9, agg := false, sz := 1, bytes := 8, zero := .exact (.pointer none), flds := [], elem := 0, alen := 0 }
noncomputable def T (t : Nat) : Option TI :=
 cond (Nat.beq t 3) (some xd) <|
 cond (Nat.beq t 4) (some vN) <|
 cond (Nat.beq t 5) (some FK) <|
 cond (Nat.beq t 9) (some xe) <|
 cond (Nat.beq t 21) (some AL) <|
 cond (Nat.beq t 71) (some rB) <|
 cond (Nat.beq t 33) (some AK) <|
 cond (Nat.beq t 189) (some vO) <|
 cond (Nat.beq t 266) (some HM) <|
 cond (Nat.beq t 258) (some HN) <|
 cond (Nat.beq t 99) (some vP) <|
 cond (Nat.beq t 129) (some HO) <|
 cond (Nat.beq t 128) (some IP) <|
 cond (Nat.beq t 232) (some IQ) <|
 cond (Nat.beq t 267) (some IR) <|
 cond (Nat.beq t 291) (some HP) <|
 cond (Nat.beq t 269) (some GA) <|
 cond (Nat.beq t 228) (some EO) <|
 none
theorem ag {t n : Nat} {ti x : TI} {r : Option TI} (h : (if t = n then some x else r) = some ti) : (t = n /\ some x = some ti) \/ r = some ti := by
 split at h
 ·exact .inl ⟨by assumption, h⟩
 ·exact .inr h
theorem DW (t : Nat) (ti : TI) (h : T t = some ti) : az Tryz.prog t ti := by
 simp only [T, ai] at h;rcases ag h with ⟨e, h⟩ | h; · { subst e; cases h; exact az.of (z := .int .i64 0) (d := .int .i64) (by kernel_rfl) Tryz.underlying3 rfl rfl ⟨rfl, rfl, rfl⟩ (fun _ => rfl) (by intro h; cases h) }
 rcases ag h with ⟨e, h⟩ | h; · { subst e; cases h; exact az.of (z := .bool false) (d := .bool) (by kernel_rfl) Tryz.underlying4 rfl rfl ⟨rfl, rfl⟩ (fun _ => rfl) (by intro h; cases h) }
 rcases ag h with ⟨e, h⟩ | h; · { subst e; cases h; exact az.of (z := .int .u8 0) (d := .int .u8) (by kernel_rfl) Tryz.underlying5 rfl rfl ⟨rfl, rfl, rfl⟩ (fun _ => rfl) (by intro h; cases h) }
 rcases ag h with ⟨e, h⟩ | h; · { subst e; cases h; exact az.of (z := .string ⟨#[]⟩) (d := .string) (by kernel_rfl) Tryz.underlying9 rfl rfl ⟨rfl, rfl⟩ (fun _ => rfl) (by intro h; cases h) }
 rcases ag h with ⟨e, h⟩ | h; · { subst e; cases h; exact az.of (z := .int .i32 0) (d := .int .i32) (by kernel_rfl) Tryz.underlying21 rfl rfl ⟨rfl, rfl, rfl⟩ (fun _ => rfl) (by intro h; cases h) }
 rcases ag h with ⟨e, h⟩ | h; · { subst e; cases h; exact az.of (z := .slice none 0 0) (d := .slice 5) (by kernel_rfl) Tryz.underlying71 rfl rfl ⟨rfl, rfl, rfl⟩ (fun _ => rfl) (by intro h; cases h) }
 rcases ag h with ⟨e, h⟩ | h; · { subst e; cases h; exact az.of (z := .int .i64 0) (d := .int .i64) (by kernel_rfl) Tryz.underlying33 rfl rfl ⟨rfl, rfl, rfl⟩ (fun _ => rfl) (by intro h; cases h) }
 rcases ag h with ⟨e, h⟩ | h; · { subst e; cases h; exact az.of (z := .int .u64 0) (d := .int .u64) (by kernel_rfl) Tryz.underlying189 rfl rfl ⟨rfl, rfl, rfl⟩ (fun _ => rfl) (by intro h; cases h) }
 rcases ag h with ⟨e, h⟩ | h; · { subst e; cases h; exact az.of (z := .int .u32 0) (d := .int .u32) (by kernel_rfl) Tryz.underlying266 rfl rfl ⟨rfl, rfl, rfl⟩ (fun _ => rfl) (by intro h; cases h) }
 rcases ag h with ⟨e, h⟩ | h; · { subst e; cases h; exact az.of (z := .int .u64 0) (d := .int .u64) (by kernel_rfl) Tryz.underlying258 rfl rfl ⟨rfl, rfl, rfl⟩ (fun _ => rfl) (by intro h; cases h) }
 rcases ag h with ⟨e, h⟩ | h; · { subst e; cases h; exact az.of (z := .slice none 0 0) (d := .slice 3) (by kernel_rfl) Tryz.underlying99 rfl rfl ⟨rfl, rfl, rfl⟩ (fun _ => rfl) (by intro h; cases h) }
 rcases ag h with ⟨e, h⟩ | h; · { subst e; cases h; exact az.of (z := .agg (List.replicate 20 (Value.int .u8 0)).toArray) (d := .array 20 5) (by kernel_rfl) Tryz.underlying129 (by kernel_rfl) rfl ⟨rfl, rfl, rfl, rfl⟩ (by intro h; cases h) (fun _ => rfl) }
 rcases ag h with ⟨e, h⟩ | h; · { subst e; cases h; exact az.of (z := .agg (List.replicate 8 (Value.int .u8 0)).toArray) (d := .array 8 5) (by kernel_rfl) Tryz.underlying128 (by kernel_rfl) rfl ⟨rfl, rfl, rfl, rfl⟩ (by intro h; cases h) (fun _ => rfl) }
 rcases ag h with ⟨e, h⟩ | h; · { subst e; cases h; exact az.of (z := .agg (List.replicate 3 (Value.int .i64 0)).toArray) (d := .array 3 3) (by kernel_rfl) Tryz.underlying232 (by kernel_rfl) rfl ⟨rfl, rfl, rfl, rfl⟩ (by intro h; cases h) (fun _ => rfl) }
 rcases ag h with ⟨e, h⟩ | h; · { subst e; cases h; exact az.of (z := .agg (List.replicate 5 (Value.int .u32 0)).toArray) (d := .array 5 266) (by kernel_rfl) Tryz.underlying267 (by kernel_rfl) rfl ⟨rfl, rfl, rfl, rfl⟩ (by intro h; cases h) (fun _ => rfl) }
 rcases ag h with ⟨e, h⟩ | h; · { subst e; cases h; exact az.of (z := .agg (List.replicate 80 (Value.int .u32 0)).toArray) (d := .array 80 266) (by kernel_rfl) Tryz.underlying291 (by kernel_rfl) rfl ⟨rfl, rfl, rfl, rfl⟩ (by intro h; cases h) (fun _ => rfl) }
 rcases ag h with ⟨e, h⟩ | h; · { subst e; cases h; exact az.of (z := .agg #[.int .u32 0, .int .u32 0, .int .u32 0, .int .u32 0, .int .u32 0, .slice none 0 0, .int .u64 0]) (by kernel_rfl) Tryz.underlying269 (by kernel_rfl) rfl ⟨rfl, rfl, by kernel_rfl, by kernel_rfl⟩ (by intro h; cases h) (fun _ => rfl) }
 rcases ag h with ⟨e, h⟩ | h; · { subst e; cases h; exact az.of (z := .pointer none) (by kernel_rfl) Tryz.underlying228 rfl rfl ⟨.inr rfl, rfl⟩ (fun _ => rfl) (by intro h; cases h) }
 cases h
def X10 (w : World) : Prop := Lib.TabIs Tryz.prog w "internal/strconv.uint64pow10" .u64 Lib.pow10Tab
theorem DX : Tryz.prog.globalNamed "internal/strconv.uint64pow10" = some 3 := by kernel_rfl
theorem oq {w w' : World} (h : X10 w) (hb : w'.heap[3]? = w.heap[3]?) : X10 w' := by
 have h : w.var? Tryz.prog "internal/strconv.uint64pow10" = _ := h;show w'.var? Tryz.prog "internal/strconv.uint64pow10" = _;rw [<- h];unfold World.var?;rw [DX];simp only [Option.bind_some, hb]
def XX (ok : Nat -> Prop) (w : World) : Prop := X10 w /\ ok 3
noncomputable def cx : Cx := { P := Tryz.prog, T := T, tab := fun _ => none, X := XX }
theorem bo : a6 cx :=
 ⟨DW, fun ok ok' w w' h hok hs hlt => ⟨oq h.1 (hs _ h.2 (hlt _ h.2)), hok _ h.2⟩⟩
theorem bp : cx.P.follows .mixedOrders = true := by kernel_rfl
abbrev K (f : FuncId) (args : List SV) (r : Res) : Prop := PC cx f (fun _ => .no) args r
abbrev iv (n : Int) : SV := .p (.int .i64 n)
end Go.So
namespace Go.So
open Go Go.Vc Go.Proofs Go.RowKit
abbrev uv (n : Nat) : SV := .p (.int .u32 n)
abbrev uu (n : Nat) : PV := .int .u32 n
abbrev B32 : Nat := 4294967296
def wD (x k : Nat) : Nat := x * 2 ^ k % 4294967296 ||| x / 2 ^ (32 - k)
theorem sr (a b : Nat) : IntKind.u32.wrap ((a : Int) + (b : Int)) = ((a + b) % 4294967296 : Nat) := by
 rw [IntKind.wrap_u32']; omega
theorem CD {a b : Nat} (ha : a < B32) (hb : b < B32) : IntKind.u32.wrap ((BitVec.ofInt IntKind.u32.bits (a : Int) &&& BitVec.ofInt IntKind.u32.bits (b : Int)).toNat : Int) = ((a &&& b : Nat) : Int) := u32_and_nat a b ha hb
theorem wor {a b : Nat} (ha : a < B32) (hb : b < B32) : IntKind.u32.wrap ((BitVec.ofInt IntKind.u32.bits (a : Int) ||| BitVec.ofInt IntKind.u32.bits (b : Int)).toNat : Int) = ((a ||| b : Nat) : Int) := u32_or_nat a b ha hb
theorem wE {a b : Nat} (ha : a < B32) (hb : b < B32) : IntKind.u32.wrap ((BitVec.ofInt IntKind.u32.bits (a : Int) ^^^ BitVec.ofInt IntKind.u32.bits (b : Int)).toNat : Int) = ((a ^^^ b : Nat) : Int) := u32_xor_nat a b ha hb
theorem IS {a : Nat} (ha : a < B32) : IntKind.u32.wrap ((BitVec.ofInt IntKind.u32.bits (if IntKind.u32.signed = true then -1 else IntKind.u32.max) ^^^ BitVec.ofInt IntKind.u32.bits (a : Int)).toNat : Int) = ((4294967295 ^^^ a : Nat) : Int) := u32_xor_nat 4294967295 a (by decide) ha
theorem EP (a : Nat) {k : Int} {m : Nat} (hk : k = m) (hm : m <= 32) : IntKind.u32.wrap ((a : Int) * 2 ^ (min k.toNat IntKind.u32.bits)) = ((a * 2 ^ m % 4294967296 : Nat) : Int) := by
 subst hk;rw [IntKind.wrap_u32', Int.toNat_natCast, show min m IntKind.u32.bits = m from Nat.min_eq_left hm];have h : ((a * 2 ^ m : Nat) : Int) = (a : Int) * 2 ^ m := by rw [Int.natCast_mul, Int.natCast_pow]; rfl
 rw [<- h];omega
theorem HQ (a : Nat) {k : Int} {m : Nat} (hk : k = m) (hm : m <= 32) : (a : Int).fdiv (2 ^ (min k.toNat IntKind.u32.bits)) = ((a / 2 ^ m : Nat) : Int) := by
 subst hk;rw [Int.toNat_natCast, show min m IntKind.u32.bits = m from Nat.min_eq_left hm];rw [Int.natCast_ediv, Int.natCast_pow, Int.fdiv_eq_ediv_of_nonneg _ (by exact_mod_cast Nat.zero_le (2 ^ m))];rfl
theorem xM {x : Nat} (k : Nat) (h : x < B32) : wD x k < B32 := by
 have h1 : x * 2 ^ k % 4294967296 < 2 ^ 32 := Nat.mod_lt _ (by decide);have h2 : x / 2 ^ (32 - k) < 2 ^ 32 := Nat.lt_of_le_of_lt (Nat.div_le_self _ _) h;exact Nat.or_lt_two_pow h1 h2
theorem GB {x : Nat} (k : Nat) (h : x < B32) : x / 2 ^ k < B32 := Nat.lt_of_le_of_lt (Nat.div_le_self _ _) h
theorem kF {a : Nat} (b : Nat) (h : b < B32) : a &&& b < B32 := Nat.and_lt_two_pow (n := 32) _ h
theorem pm {a b : Nat} (h : a < B32) (h' : b < B32) : a ||| b < B32 := Nat.or_lt_two_pow (n := 32) h h'
theorem fw {a b : Nat} (h : a < B32) (h' : b < B32) : a ^^^ b < B32 := Nat.xor_lt_two_pow (n := 32) h h'
theorem mod_lt (a : Nat) : a % 4294967296 < B32 := Nat.mod_lt _ (by decide)
theorem wF (x k : Nat) (hx : x < B32) (hk : k < 32) : K 234 [uv x, iv k] (.pv (uu (wD x k))) := by
 refine cS bo bp {} Tryz.func234 (by kernel_rfl) rfl rfl (by kernel_rfl) (goL ?_);refine ⟨_, show IntKind.u64.wrap (k : Int) = ((k : Nat) : Int) by rw [IntKind.wrap_u64]; omega, goL ?_⟩;refine ⟨_, show IntKind.u64.wrap ((BitVec.ofInt IntKind.u64.bits (k : Int) &&& BitVec.ofInt IntKind.u64.bits (31 : Int)).toNat : Int) = ((k : Nat) : Int) from ?_, ?_⟩
 ·have h31 : k &&& 31 = k := by
   have := Nat.and_two_pow_sub_one_eq_mod k 5;rw [Nat.mod_eq_of_lt (show k < 2 ^ 5 by omega)] at this;exact this
  have := u64_and_nat k 31 (by omega) (by decide);rw [h31] at this;exact this
 refine goL ?_;refine ⟨by omega, _, EP x rfl (by omega), goL ?_⟩;refine ⟨_, show IntKind.u64.wrap (32 - (k : Int)) = ((32 - k : Nat) : Int) by rw [IntKind.wrap_u64]; omega, goL ?_⟩;refine ⟨by omega, _, HQ x rfl (by omega), goL ?_⟩;refine ⟨_, wor (mod_lt _) (GB _ hx), goL ?_⟩;exact LEP.refl _
def ff (t b c d : Nat) : Nat :=
 if t < 20 then b &&& c ||| (4294967295 ^^^ b) &&& d
 else if t < 40 then b ^^^ c ^^^ d
 else if t < 60 then b &&& c ||| b &&& d ||| c &&& d
 else b ^^^ c ^^^ d
def kk (t : Nat) : Nat := if t < 20 then 1518500249 else if t < 40 then 1859775393 else if t < 60 then 2400959708 else 3395469782
theorem EQ (t b c d : Nat) (ht : t < 80) (hb : b < B32) (hc : c < B32) (hd : d < B32) : K 235 [iv t, uv b, uv c, uv d] (.tup [uu (ff t b c d), uu (kk t)]) := by
 have hdiv : IntKind.i64.wrap ((t : Int).tdiv 20) = ((t / 20 : Nat) : Int) := aq (by rw [Int.tdiv_eq_ediv_of_nonneg (by omega)]; omega) (by omega);refine cS bo bp {} Tryz.func235 (by kernel_rfl) rfl rfl (by kernel_rfl) (goL ?_);refine ⟨_, hdiv, goL ?_⟩;refine aa ?_ ?_ <;> intro h0
 ·have h0 : ((t / 20 : Nat) : Int) = 0 := of_decide_eq_true h0;have e1 : ff t b c d = b &&& c ||| (4294967295 ^^^ b) &&& d := by unfold ff; rw [if_pos (by omega)]
  have e2 : kk t = 1518500249 := by unfold kk; rw [if_pos (by omega)]
  rw [e1, e2];refine goL ?_;refine ⟨_, CD hb hc, goL ?_⟩;refine ⟨_, IS hb, goL ?_⟩;refine ⟨_, CD (fw (by decide) hb) hd, goL ?_⟩;refine ⟨_, wor (kF _ hc) (kF _ hd), goL ?_⟩;exact ⟨LEP.refl _, LEP.refl _, trivial⟩
 ·have h0 : ¬ ((t / 20 : Nat) : Int) = 0 := of_decide_eq_false h0;refine goL ?_;refine aa ?_ ?_ <;> intro h1
  ·have h1 : ((t / 20 : Nat) : Int) = 1 := of_decide_eq_true h1;have e1 : ff t b c d = b ^^^ c ^^^ d := by unfold ff; rw [if_neg (by omega), if_pos (by omega)]
   have e2 : kk t = 1859775393 := by unfold kk; rw [if_neg (by omega), if_pos (by omega)]
   rw [e1, e2];refine goL ?_;refine ⟨_, wE hb hc, goL ?_⟩;refine ⟨_, wE (fw hb hc) hd, goL ?_⟩;exact ⟨LEP.refl _, LEP.refl _, trivial⟩
  ·have h1 : ¬ ((t / 20 : Nat) : Int) = 1 := of_decide_eq_false h1;refine goL ?_;refine aa ?_ ?_ <;> intro h2
   ·have h2 : ((t / 20 : Nat) : Int) = 2 := of_decide_eq_true h2;have e1 : ff t b c d = b &&& c ||| b &&& d ||| c &&& d := by unfold ff; rw [if_neg (by omega), if_neg (by omega), if_pos (by omega)]
    have e2 : kk t = 2400959708 := by unfold kk; rw [if_neg (by omega), if_neg (by omega), if_pos (by omega)]
    rw [e1, e2];refine goL ?_;refine ⟨_, CD hb hc, goL ?_⟩;refine ⟨_, CD hb hd, goL ?_⟩;refine ⟨_, wor (kF _ hc) (kF _ hd), goL ?_⟩;refine ⟨_, CD hc hd, goL ?_⟩;refine ⟨_, wor (pm (kF _ hc) (kF _ hd)) (kF _ hd), goL ?_⟩;exact ⟨LEP.refl _, LEP.refl _, trivial⟩
   ·have h2 : ¬ ((t / 20 : Nat) : Int) = 2 := of_decide_eq_false h2;have e1 : ff t b c d = b ^^^ c ^^^ d := by unfold ff; rw [if_neg (by omega), if_neg (by omega), if_neg (by omega)]
    have e2 : kk t = 3395469782 := by unfold kk; rw [if_neg (by omega), if_neg (by omega), if_neg (by omega)]
    rw [e1, e2];refine goL ?_;refine ⟨_, wE hb hc, goL ?_⟩;refine ⟨_, wE (fw hb hc) hd, goL ?_⟩;exact ⟨LEP.refl _, LEP.refl _, trivial⟩
end Go.So
namespace Go.So
open Go Go.Vc Go.Proofs Go.RowKit
structure S5 where
 a : Nat
 b : Nat
 c : Nat
 d : Nat
 e : Nat
structure S5.ok (s : S5) : Prop where
 a : s.a < B32
 b : s.b < B32
 c : s.c < B32
 d : s.d < B32
 e : s.e < B32
def byt (p : List UInt8) (i : Nat) : Nat := (p.getD i 0).toNat
theorem bt (p : List UInt8) (i : Nat) : byt p i < 256 := UInt8.toNat_lt _
theorem ER {p : List UInt8} {i : Nat} (h : i < p.length) : (ah p)[i]? = some (.int .u8 (byt p i)) := by
 unfold ah byt;rw [List.getElem?_map, List.getElem?_eq_getElem h, List.getD_eq_getElem?_getD, List.getElem?_eq_getElem h];rfl
theorem ee {p : List UInt8} {i : Nat} (h : i < p.length) : (ah p)[((i : Nat) : Int).toNat]? = some (.int .u8 (byt p i)) := ER h
theorem eh (p : List UInt8) : gm (false, 1) (ah p) := by
 induction p with
 | nil => trivial
 | cons c p ih => exact ⟨rfl, ih⟩
theorem an (p : List UInt8) : (ah p).length = p.length := by unfold ah; rw [List.length_map]
def ES (p : List UInt8) (t : Nat) : Nat := byt p (4 * t) * 2 ^ 24 % 4294967296 ||| byt p (4 * t + 1) * 2 ^ 16 % 4294967296 ||| byt p (4 * t + 2) * 2 ^ 8 % 4294967296 ||| byt p (4 * t + 3)
def next (p : List UInt8) (W : List Nat) : Nat :=
 if W.length < 16 then ES p W.length else wD (W.getD (W.length - 3) 0 ^^^ W.getD (W.length - 8) 0 ^^^ W.getD (W.length - 14) 0 ^^^ W.getD (W.length - 16) 0) 1
def cZ (p : List UInt8) : Nat -> List Nat
 | 0 => []
 | t + 1 => cZ p t ++ [next p (cZ p t)]
theorem eS (p : List UInt8) (t : Nat) : (cZ p t).length = t := by
 induction t with
 | zero => rfl
 | succ t ih => rw [cZ, List.length_append, ih]; rfl
theorem aP {W : List Nat} (h : ∀ x ∈ W, x < B32) (i : Nat) : W.getD i 0 < B32 := by
 rw [List.getD_eq_getElem?_getD];cases e : W[i]? with
 | none => exact (by decide : 0 < B32)
 | some x => exact h x (List.mem_of_getElem? e)
theorem Fq (p : List UInt8) (i : Nat) : byt p i < B32 := Nat.lt_trans (bt p i) (by decide)
theorem ET (p : List UInt8) (t : Nat) : ES p t < B32 := pm (pm (pm (mod_lt _) (mod_lt _)) (mod_lt _)) (Fq _ _)
theorem EU (p : List UInt8) {W : List Nat} (h : ∀ x ∈ W, x < B32) : next p W < B32 := by
 unfold next;split
 ·exact ET _ _
 ·exact xM _ (fw (fw (fw (aP h _) (aP h _)) (aP h _)) (aP h _))
theorem b8 (p : List UInt8) (t : Nat) : ∀ x ∈ cZ p t, x < B32 := by
 induction t with
 | zero => intro x hx; cases hx
 | succ t ih =>
  intro x hx;rw [cZ, List.mem_append, List.mem_singleton] at hx;rcases hx with hx | rfl
  ·exact ih x hx
  ·exact EU p ih
def wl (p : List UInt8) (t : Nat) : List PV := (cZ p t).map uu ++ List.replicate (80 - t) (uu 0)
theorem CE {p : List UInt8} {t : Nat} (h : t <= 80) : (wl p t).length = 80 := by
 unfold wl;rw [List.length_append, List.length_map, eS, List.length_replicate];omega
theorem GC {p : List UInt8} {t i : Nat} (h : i < t) : (wl p t)[i]? = some (uu ((cZ p t).getD i 0)) := by
 unfold wl;rw [List.getElem?_append_left (by rw [List.length_map, eS]; exact h), List.getElem?_map, List.getD_eq_getElem?_getD, List.getElem?_eq_getElem (by rw [eS]; exact h)];rfl
theorem lL {p : List UInt8} {t i : Nat} (h : i < t) : ((wl p t).map SV.p)[0 + ((i : Nat) : Int).toNat * 1]? = some (uv ((cZ p t).getD i 0)) := by
 rw [Nat.zero_add, Nat.mul_one, Int.toNat_natCast, List.getElem?_map, GC h];rfl
theorem CF {p : List UInt8} {t : Nat} (h : t < 80) : (wl p t).set t (uu (next p (cZ p t))) = wl p (t + 1) := by
 unfold wl;rw [List.set_append_right _ _ (by rw [List.length_map, eS]; exact Nat.le_refl _), List.length_map, eS, Nat.sub_self, show 80 - t = (80 - (t + 1)) + 1 by omega, List.replicate_succ, List.set_cons_zero, cZ, List.map_append, List.append_assoc];rfl
def Fs (W : List Nat) (t : Nat) (s : S5) : S5 :=
 ⟨((((wD s.a 5 + ff t s.b s.c s.d) % 4294967296 + s.e) % 4294967296 + kk t) % 4294967296 + W.getD t 0) % 4294967296, s.a, wD s.b 30, s.c, s.d⟩
def pn (W : List Nat) : Nat -> S5 -> S5
 | 0, s => s
 | t + 1, s => Fs W t (pn W t s)
theorem CG {W : List Nat} {s : S5} (t : Nat) (h : s.ok) : (Fs W t s).ok := ⟨mod_lt _, h.a, xM _ h.b, h.c, h.d⟩
theorem qM {W : List Nat} {s : S5} (h : s.ok) : ∀ t, (pn W t s).ok
 | 0 => h
 | t + 1 => CG t (qM h t)
def S5.add (s r : S5) : S5 := ⟨(s.a + r.a) % 4294967296, (s.b + r.b) % 4294967296, (s.c + r.c) % 4294967296, (s.d + r.d) % 4294967296, (s.e + r.e) % 4294967296⟩
def blk (s : S5) (p : List UInt8) : S5 := s.add (pn (cZ p 80) 80 s)
theorem wG (s : S5) (p : List UInt8) : (blk s p).ok := ⟨mod_lt _, mod_lt _, mod_lt _, mod_lt _, mod_lt _⟩
abbrev hvL (s : S5) (l : PV) (n : Nat) : List PV := [uu s.a, uu s.b, uu s.c, uu s.d, uu s.e, l, .int .u64 n]
abbrev HS (s : S5) (l : PV) (n : Nat) : AO := .var true 269 (.p (.agg (hvL s l n)))
inductive Six where
 | a0 | a1 | a2 | a3 | a4 | a5
def Six.left : Six -> Nat
 | .a0 => 5 | .a1 => 4 | .a2 => 3 | .a3 => 2 | .a4 => 1 | .a5 => 0
abbrev s5L (s : S5) : List PV := [uu s.a, uu s.b, uu s.c, uu s.d, uu s.e]
theorem wb (c : Nat) (h : c < 256) : IntKind.u32.wrap (c : Int) = (c : Int) := by rw [IntKind.wrap_u32']; omega
set_option maxHeartbeats 1000000 in
theorem uI (s : S5) (hs : s.ok) (l : List PV) (n : Nat) (p : List UInt8) (hp : p.length = 64) :
  PM cx 210 [(2000, HS s (.lst l) n)] [.ptr 2000 0, .p (.lst (ah p))] [(2000, HS (blk s p) (.lst l) n)] (.tupS []) := by
 refine aW bo bp { kp := kpT [(13, [0, 4, 6, 7, 8, 9, 80], [2000, 4, 6]), (14, [0, 4, 6, 7, 10, 80], [2000, 4, 6])] } Tryz.func210 (by kernel_rfl) rfl rfl (by kernel_rfl) ?_ ?_
 ·rfl
 refine goL ?_;refine ⟨Rd 80, fun i => S.of [(0, .ptr 2000 0), (1, .p (.lst (ah p))), (4, .ptr 4 0), (13, iv (i.1 : Nat))] [(2000, HS s (.lst l) n), (4, .var true 291 (.p (.agg (wl p i.1))))], fun i => 80 - i.1, Rd.zero 80, ?_, ?_⟩
 ·exact Ge.go
 rintro ⟨i, hi⟩
 refine goL ?_;refine aa ?_ ?_ <;> intro h
 ·have h : ((i : Nat) : Int) < 80 := of_decide_eq_true h;refine goL ?_;refine aa ?_ ?_ <;> intro h16
  ·have h16 : ((i : Nat) : Int) < 16 := of_decide_eq_true h16;have hnew : next p (cZ p i) = ES p i := by unfold next; rw [eS, if_pos (by omega)]
   refine goL ?_;refine ⟨_, aq (n := 4 * i) (by show 4 * ((i : Nat) : Int) = _; omega) (by omega), goL ?_⟩;refine ⟨Int.natCast_nonneg _, _, ee (i := 4 * i) (by omega), rfl, rfl, goL ?_⟩;refine ⟨_, wb _ (bt _ _), goL ?_⟩;refine ⟨_, EP _ (m := 24) rfl (by decide), goL ?_⟩;refine ⟨_, aq (n := 4 * i) (by show 4 * ((i : Nat) : Int) = _; omega) (by omega), goL ?_⟩;refine ⟨_, aq (n := 4 * i + 1) (by omega) (by omega), goL ?_⟩;refine ⟨Int.natCast_nonneg _, _, ee (i := 4 * i + 1) (by omega), rfl, rfl, goL ?_⟩;refine ⟨_, wb _ (bt _ _), goL ?_⟩;refine ⟨_, EP _ (m := 16) rfl (by decide), goL ?_⟩;refine ⟨_, wor (mod_lt _) (mod_lt _), goL ?_⟩;refine ⟨_, aq (n := 4 * i) (by show 4 * ((i : Nat) : Int) = _; omega) (by omega), goL ?_⟩;refine ⟨_, aq (n := 4 * i + 2) (by omega) (by omega), goL ?_⟩;refine ⟨Int.natCast_nonneg _, _, ee (i := 4 * i + 2) (by omega), rfl, rfl, goL ?_⟩;refine ⟨_, wb _ (bt _ _), goL ?_⟩
   refine ⟨_, EP _ (m := 8) rfl (by decide), goL ?_⟩;refine ⟨_, wor (pm (mod_lt _) (mod_lt _)) (mod_lt _), goL ?_⟩;refine ⟨_, aq (n := 4 * i) (by show 4 * ((i : Nat) : Int) = _; omega) (by omega), goL ?_⟩;refine ⟨_, aq (n := 4 * i + 3) (by omega) (by omega), goL ?_⟩;refine ⟨Int.natCast_nonneg _, _, ee (i := 4 * i + 3) (by omega), rfl, rfl, goL ?_⟩;refine ⟨_, wb _ (bt _ _), goL ?_⟩;refine ⟨_, wor (pm (pm (mod_lt _) (mod_lt _)) (mod_lt _)) (Fq _ _), goL ?_⟩;refine ⟨Int.natCast_nonneg _, rfl, show i < 80 by omega, goL ?_⟩;refine ⟨by show 0 + i * 1 + 1 <= ((wl p i).map SV.p).length; rw [List.length_map, CE (by omega)]; omega, ⟨_, rfl, rfl⟩, goL ?_⟩;refine Eq.mpr (PV.forceL_eq _ _) (goL ?_);refine ⟨_, aq (n := i + 1) rfl (by omega), goL ?_⟩;refine ⟨⟨i + 1, by omega⟩, Ge.of rfl ?_ ?_, by show 80 - (i + 1) < 80 - i; omega⟩
   ·repeat (conv => whnf); refine ⟨LE.of rfl, ?_⟩
    trivial
   ·conv => whnf
    refine ⟨OLE.of rfl, ?_⟩
    conv => whnf
    refine Eq.mpr (PV.forceL_eq _ _) ?_;refine ⟨OLE.of (congrArg (fun c => AO.var true 291 (.p (.agg c))) ?_), trivial⟩;show (wl p i).set (0 + i * 1) (uu (ES p i)) = wl p (i + 1);rw [Nat.zero_add, Nat.mul_one, <- hnew, CF (by omega)]
  ·have h16 : ¬ ((i : Nat) : Int) < 16 := of_decide_eq_false h16;have hnew : next p (cZ p i) = wD ((cZ p i).getD (i - 3) 0 ^^^ (cZ p i).getD (i - 8) 0 ^^^ (cZ p i).getD (i - 14) 0 ^^^ (cZ p i).getD (i - 16) 0) 1 := by unfold next; rw [eS, if_neg (by omega)]
   refine goL ?_;refine ⟨_, aq (n := i - 3) (by show ((i : Nat) : Int) - 3 = _; omega) (by omega), goL ?_⟩;refine ⟨Int.natCast_nonneg _, rfl, show i - 3 < 80 by omega, goL ?_⟩;refine cJ (lL (t := i) (i := i - 3) (by omega)) (goL ?_);refine ⟨_, aq (n := i - 8) (by show ((i : Nat) : Int) - 8 = _; omega) (by omega), goL ?_⟩;refine ⟨Int.natCast_nonneg _, rfl, show i - 8 < 80 by omega, goL ?_⟩;refine cJ (lL (t := i) (i := i - 8) (by omega)) (goL ?_);refine ⟨_, wE (aP (b8 p i) (i - 3)) (aP (b8 p i) (i - 8)), goL ?_⟩;refine ⟨_, aq (n := i - 14) (by show ((i : Nat) : Int) - 14 = _; omega) (by omega), goL ?_⟩;refine ⟨Int.natCast_nonneg _, rfl, show i - 14 < 80 by omega, goL ?_⟩;refine cJ (lL (t := i) (i := i - 14) (by omega)) (goL ?_);refine ⟨_, wE (fw (aP (b8 p i) (i - 3)) (aP (b8 p i) (i - 8))) (aP (b8 p i) (i - 14)), goL ?_⟩;refine ⟨_, aq (n := i - 16) (by show ((i : Nat) : Int) - 16 = _; omega) (by omega), goL ?_⟩
   refine ⟨Int.natCast_nonneg _, rfl, show i - 16 < 80 by omega, goL ?_⟩;refine cJ (lL (t := i) (i := i - 16) (by omega)) (goL ?_);refine ⟨_, wE (fw (fw (aP (b8 p i) (i - 3)) (aP (b8 p i) (i - 8))) (aP (b8 p i) (i - 14))) (aP (b8 p i) (i - 16)), goL ?_⟩;refine cC (wF _ 1 (fw (fw (fw (aP (b8 p i) (i - 3)) (aP (b8 p i) (i - 8))) (aP (b8 p i) (i - 14))) (aP (b8 p i) (i - 16))) (by decide)) (goL ?_);refine ⟨Int.natCast_nonneg _, rfl, show i < 80 by omega, goL ?_⟩;refine ⟨by show 0 + i * 1 + 1 <= ((wl p i).map SV.p).length; rw [List.length_map, CE (by omega)]; omega, ⟨_, rfl, rfl⟩, goL ?_⟩;refine Eq.mpr (PV.forceL_eq _ _) (goL ?_);refine ⟨_, aq (n := i + 1) rfl (by omega), goL ?_⟩;refine ⟨⟨i + 1, by omega⟩, Ge.of rfl ?_ ?_, by show 80 - (i + 1) < 80 - i; omega⟩
   ·repeat (conv => whnf); refine ⟨LE.of rfl, ?_⟩
    trivial
   ·conv => whnf
    refine ⟨OLE.of rfl, ?_⟩
    conv => whnf
    refine Eq.mpr (PV.forceL_eq _ _) ?_;refine ⟨OLE.of (congrArg (fun c => AO.var true 291 (.p (.agg c))) ?_), trivial⟩;show (wl p i).set (0 + i * 1) (uu (wD ((cZ p i).getD (i - 3) 0 ^^^ (cZ p i).getD (i - 8) 0 ^^^ (cZ p i).getD (i - 14) 0 ^^^ (cZ p i).getD (i - 16) 0) 1)) = wl p (i + 1);rw [Nat.zero_add, Nat.mul_one, <- hnew, CF (by omega)]
 ·have h : ¬ ((i : Nat) : Int) < 80 := of_decide_eq_false h;have hi80 : i = 80 := by omega
  obtain ⟨W, hW⟩ : ∃ W, W = cZ p i := ⟨_, rfl⟩
  have hWl : ∀ x ∈ W, x < B32 := by rw [hW]; exact b8 p i
  refine goL ?_;refine ⟨Rd 80, fun j => S.of [(0, .ptr 2000 0), (4, .ptr 4 0), (6, .ptr 6 0), (80, iv (j.1 : Nat))] [(2000, HS s (.lst l) n), (4, .var true 291 (.p (.agg (wl p i)))), (6, .var true 267 (.p (.agg (s5L (pn W j.1 s)))))], fun j => 80 - j.1, Rd.zero 80, ?_, ?_⟩
  ·refine Ge.of rfl ?_ ?_
   ·repeat (conv => whnf); refine ⟨LE.of rfl, ?_⟩
    trivial
   ·conv => whnf
    refine ⟨OLE.of rfl, ?_⟩
    conv => whnf
    refine Eq.mpr (PV.forceL_eq _ _) ?_;refine ⟨OLE.of rfl, ?_⟩
    conv => whnf
    exact ⟨OLE.of rfl, trivial⟩
  rintro ⟨j, hj⟩
  have hok := qM (W := W) hs j;refine goL ?_;refine aa ?_ ?_ <;> intro h2
  ·have h2 : ((j : Nat) : Int) < 80 := of_decide_eq_true h2;refine goL ?_;refine cC (EQ j _ _ _ (by omega) hok.b hok.c hok.d) (goL ?_);refine Eq.mpr (PV.forceL_eq _ _) (goL ?_);refine cC (wF _ 5 hok.a (by decide)) (goL ?_);refine ⟨_, sr _ _, goL ?_⟩;refine ⟨_, sr _ _, goL ?_⟩;refine ⟨_, sr _ _, goL ?_⟩;refine ⟨Int.natCast_nonneg _, rfl, show j < 80 by omega, goL ?_⟩;refine cJ (lL (t := i) (i := j) (by omega)) (goL ?_);refine ⟨_, sr _ _, goL ?_⟩;refine Eq.mpr (PV.forceL_eq _ _) (goL ?_);refine cC (wF _ 30 hok.b (by decide)) (goL ?_);refine ⟨_, aq (n := j + 1) rfl (by omega), goL ?_⟩;refine ⟨⟨j + 1, by omega⟩, Ge.of rfl ?_ ?_, by show 80 - (j + 1) < 80 - j; omega⟩
   ·repeat (conv => whnf); refine ⟨LE.of rfl, ?_⟩
    trivial
   ·conv => whnf
    refine ⟨OLE.of rfl, ?_⟩
    conv => whnf
    refine Eq.mpr (PV.forceL_eq _ _) ?_;refine ⟨OLE.of rfl, ?_⟩
    conv => whnf
    refine ⟨OLE.of ?_, trivial⟩;rw [hW];rfl
  ·have h2 : ¬ ((j : Nat) : Int) < 80 := of_decide_eq_false h2;have hj80 : j = 80 := by omega
   obtain ⟨r, hr⟩ : ∃ r, r = pn W j s := ⟨_, rfl⟩
   refine goL ?_;refine ⟨Six, fun k => S.of [(0, .ptr 2000 0), (120, .p (.agg (s5L r))), (121, iv (match k with | .a0 => 0 | .a1 => 1 | .a2 => 2 | .a3 => 3 | .a4 => 4 | .a5 => 5))]
    [(2000, .var true 269 (.p (.agg (match k with
     | .a0 => [uu s.a, uu s.b, uu s.c, uu s.d, uu s.e, .lst l, .int .u64 n]
     | .a1 => [uu (s.add r).a, uu s.b, uu s.c, uu s.d, uu s.e, .lst l, .int .u64 n]
     | .a2 => [uu (s.add r).a, uu (s.add r).b, uu s.c, uu s.d, uu s.e, .lst l, .int .u64 n]
     | .a3 => [uu (s.add r).a, uu (s.add r).b, uu (s.add r).c, uu s.d, uu s.e, .lst l, .int .u64 n]
     | .a4 => [uu (s.add r).a, uu (s.add r).b, uu (s.add r).c, uu (s.add r).d, uu s.e, .lst l, .int .u64 n]
     | .a5 => [uu (s.add r).a, uu (s.add r).b, uu (s.add r).c, uu (s.add r).d, uu (s.add r).e, .lst l, .int .u64 n]))))], Six.left, .a0, ?_, ?_⟩
   ·refine Ge.of rfl ?_ ?_
    ·conv => whnf
     refine ⟨LE.of rfl, ?_⟩
     conv => whnf
     refine ⟨LE.of (by rw [hr]), ?_⟩
     conv => whnf
     exact ⟨LE.of rfl, trivial⟩
    ·repeat (conv => whnf); refine ⟨OLE.of rfl, ?_⟩
     trivial
   intro k;cases k with
   | a0 =>
    refine goL ?_;refine ⟨_, sr _ _, goL ?_⟩;refine ⟨(1 : Int), by decide, goL ?_⟩;refine ⟨.a1, ?_, by decide⟩;exact Ge.go
   | a1 =>
    refine goL ?_;refine ⟨_, sr _ _, goL ?_⟩;refine ⟨(2 : Int), by decide, goL ?_⟩;refine ⟨.a2, ?_, by decide⟩;exact Ge.go
   | a2 =>
    refine goL ?_;refine ⟨_, sr _ _, goL ?_⟩;refine ⟨(3 : Int), by decide, goL ?_⟩;refine ⟨.a3, ?_, by decide⟩;exact Ge.go
   | a3 =>
    refine goL ?_;refine ⟨_, sr _ _, goL ?_⟩;refine ⟨(4 : Int), by decide, goL ?_⟩;refine ⟨.a4, ?_, by decide⟩;exact Ge.go
   | a4 =>
    refine goL ?_;refine ⟨_, sr _ _, goL ?_⟩;refine ⟨(5 : Int), by decide, goL ?_⟩;refine ⟨.a5, ?_, by decide⟩;exact Ge.go
   | a5 =>
    refine goL ?_;have e : blk s p = s.add r := by rw [hr, hW, hi80, hj80]; rfl
    rw [e];exact rR id (rfl)
end Go.So
