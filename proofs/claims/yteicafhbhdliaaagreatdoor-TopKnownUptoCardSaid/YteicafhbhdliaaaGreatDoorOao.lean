/- Part 15 of the proof: Ya Yb Yc. -/
import Derived.Test.YteicafhbhdliaaaGreatDoorOan
set_option linter.unusedSimpArgs false
set_option linter.unusedVariables false
set_option maxHeartbeats 4000000
namespace Go.Sl
open Go Go.Vc Go.Proofs Go.RowKit
structure Wo where
 k : Kd
 cs : List Cln
 names : List Bs
 pool : List Tm
 given : List Tm
 told : List Tm
 bad : List Bool
 lost : Bool
 now : Int
 n : Int
def IJ : List Cln -> List SV
 | [_] => [.ptr 2020 0]
 | [_, _] => [.ptr 2020 0, .ptr 2030 0]
 | _ => []
def IK (m1 m2 : Nat) : List Cln -> List (Nat × AO)
 | [c] => [(2020, .var true 85 (clV c (.slc m1))), (m1, .row 227 2 (mkL c.marks))]
 | [c, d] => [(2020, .var true 85 (clV c (.slc m1))), (m1, .row 227 2 (mkL c.marks)), (2030, .var true 85 (clV d (.slc m2))), (m2, .row 227 2 (mkL d.marks))]
 | _ => []
abbrev IL (c : Nat) (k : Kd) (iss : SV) : SV := .mix [iv k.key.kind, sv k.key.name, lv k.key.kids, iv k.cookies.kind, sv k.cookies.name, lv k.cookies.kids, .ptr 2011 0, iv k.room, .ptr c 0, iv k.drawn, iss]
abbrev kdA (i c1 c2 : Nat) (k : Kd) : List (Nat × AO) :=
 [(2010, .var true 79 (IL c1 k (.slc i))),
  (2011, .var true 135 (.mix [.slc 2013])), (2013, .row 31 15 (usL k.us)),
  (c1, .var true 197 (.mix [iv k.room, .slc c2])), (c2, .mp 195 true (caL k.ca)),
  (i, .row 113 6 (isL k.iss))]
abbrev ni (l : List Bool) : List PV := l.map .bool
abbrev woV (p q : Nat) (W : Wo) : SV := .mix [.ptr 2010 0, .slc 2001, .p (.lst (aC W.names)), .slc p, .slc 2006, .slc q, .slc 2005, bv W.lost, iv W.now, iv W.n]
abbrev woA (p q i m1 m2 c1 c2 : Nat) (W : Wo) : List (Nat × AO) :=
 (2000, .var true 117 (woV p q W)) :: (2001, .rp 37 (IJ W.cs)) :: (p, .row 26 3 (af W.pool)) :: (2006, .row 26 3 (af W.given)) :: (q, .row 26 3 (af W.told)) :: (2005, .row 4 1 (ni W.bad)) :: (kdA i c1 c2 W.k ++ IK m1 m2 W.cs)
abbrev woO (W : Wo) : List (Nat × AO) := woA 1001 1003 1010 1020 1030 1012 1014 W
abbrev woQ (W : Wo) : List (Nat × AO) := woA 2101 2103 2110 2120 2130 2112 2114 W
abbrev gQ : Nat -> Nat := gn [(2101, 1001), (2103, 1003), (2110, 1010), (2120, 1020), (2130, 1030), (2112, 1012), (2114, 1014)]
def pwW : Bs := [112, 97, 115, 115, 119, 111, 114, 100, 32]
def sdW : Bs := [115, 101, 101, 100, 32]
def pwT (s : Bs) : Tm := cI (pwW ++ s)
def sdT (s : Bs) : Tm := cI (sdW ++ s)
theorem fk (b : Bool) (s : Bs) (hs : s.length <= 1000000000) : K b 52 [sv s] (.pv (TV (pwT s))) := by
 refine pcv {} Tryz.func52 ?_;refine goL ?_;refine ⟨by show 9 + s.length <= _; omega, goL ?_⟩;refine cC (bl b (pwW ++ s)) (goL ?_);exact LEP.refl _
theorem lH (b : Bool) (s : Bs) (hs : s.length <= 1000000000) : K b 53 [sv s] (.pv (TV (sdT s))) := by
 refine pcv {} Tryz.func53 ?_;refine goL ?_;refine ⟨by show 5 + s.length <= _; omega, goL ?_⟩;refine cC (bl b (sdW ++ s)) (goL ?_);exact LEP.refl _
def dW (l : List Tm) (t : Tm) : List Tm := if b7 t = true then l else l ++ [t]
def xK (W : Wo) (t : Tm) : Wo := { W with pool := dW W.pool t }
theorem o6 (W : Wo) (c : Cln) (hc : W.cs = [c]) (h0 : 0 <= W.n) (h1 : W.n < 1000000000000) : PM (cx true) 59 (woQ W) [.ptr 2000 0] (woQ { W with n := W.n + 1 }) (sv (Lib.itoa (W.n + 1))) := by
 obtain ⟨k, cs, names, pool, given, told, bad, lost, now, n⟩ := W;simp only at hc h0 h1;subst hc;refine pmv {} Tryz.func59 ?_;refine goL ?_;refine ⟨n + 1, aS (k := n + 1) (by omega) (by omega) rfl, goL ?_⟩;refine cC (cL true (n + 1) (by omega) (by omega)) (goL ?_);exact rR gI
theorem wz (W : Wo) (c : Cln) (hc : W.cs = [c]) (i : Int) : PM (cx true) 57 (woQ W) [.ptr 2000 0, iv i] (woQ W) (.p (.bool (decide (0 <= i /\ i < 1)))) := by
 obtain ⟨k, cs, names, pool, given, told, bad, lost, now, n⟩ := W;simp only at hc;subst hc;refine pmv {} Tryz.func57 ?_;refine goL ?_;refine aa ?_ ?_ <;> intro h1
 ·refine goL ?_;exact rR gI ⟨rfl, LE.of (congrArg (fun b => SV.p (.bool b)) (decide_eq_decide.2 ⟨fun h => ⟨of_decide_eq_true h1, h⟩, fun h => h.2⟩))⟩
 ·refine goL ?_;exact rR gI ⟨rfl, LE.of (congrArg (fun b => SV.p (.bool b)) (decide_eq_false fun h => of_decide_eq_false h1 h.1).symm)⟩
theorem o7 (W : Wo) (c : Cln) (hc : W.cs = [c]) (t : Tm) (e : Int) (ht : wt t <= 1000000000) (hp : W.pool.length <= 1000000) : PM (cx true) 60 (woO W) [.ptr 2000 0, tv t, iv e] (woO (xK W t)) (.tupS [tv t, iv e]) := by
 obtain ⟨k, cs, names, pool, given, told, bad, lost, now, n⟩ := W;simp only at hc hp;subst hc;have hn := eI true t (aE _ ht);unfold xK dW;cases hb : b7 t with
 | true =>
  rw [show (ao dS 0 t).isSome = true from hb] at hn;rw [if_pos rfl];refine pmv {} Tryz.func60 ?_;refine goL ?_;refine cC hn (goL ?_);exact rR gI ⟨rfl, LE.of rfl, rfl, LE.of rfl, trivial⟩
 | false =>
  rw [show (ao dS 0 t).isSome = false from hb] at hn;rw [if_neg (by decide)];have hlt : (af pool).length < (af pool ++ [PV.agg [.int .i64 0, .str [], .nilS]]).length := by simp
  have hset : (af pool ++ [PV.agg [.int .i64 0, .str [], .nilS]]).set (af pool).length (TV t) = af (pool ++ [t]) := by
   rw [List.set_append_right _ _ (Nat.le_refl _), Nat.sub_self, List.set_cons_zero, dR, <- aO]
  refine pmv { own := oO [18], tr := trT [(2, [0, 1, 3, 7, 0, 15, 0, 127, 255, 511, 255, 1279, 3327], qQ [0, 1, 2, 3, 4, 5, 6, 7] (.alt (.one 8 (.alt (qQ [9, 10, 11, 12] .fin) (.one 10 (.alt (qQ [9, 11, 12] .fin) (.one 11 (.alt (qQ [9, 12] .fin) (qQ [12, 9] .fin))))))) (.one 10 (.alt (.one 8 (.alt (qQ [9, 11, 12] .fin) (.one 11 (.alt (qQ [9, 12] .fin) (qQ [12, 9] .fin))))) (.one 11 (.alt (.one 8 (.alt (qQ [9, 12] .fin) (qQ [12, 9] .fin))) (qQ [12, 8, 9] .fin)))))))] } Tryz.func60 ?_;refine goL ?_;refine cC hn (goL ?_);refine ⟨by show ((af pool).length + 1) * 48 <= _; rw [ab]; omega, ?_⟩
  repeat' ((conv => whnf); first | refine sS ?_ | refine aQ ?_ ?_ | refine ⟨Int.natCast_nonneg _, hlt, ?_⟩ | refine ⟨hlt, rfl, rfl, rfl, ?_⟩ | fail)
  all_goals (conv => whnf)
  all_goals exact ⟨gI, ⟨rfl, LE.of rfl, rfl, LE.of rfl, trivial⟩, ⟨.inr (.inl rfl), .inr (.inl rfl), .inr (.inl (congrArg (AO.row 26 3) hset)), .inr (.inl rfl), .inr (.inl rfl), .inr (.inl rfl), .inr (.inl rfl), .inr (.inl rfl), .inr (.inl rfl), .inr (.inl rfl), .inr (.inl rfl), .inr (.inl rfl), .inr (.inl rfl), .inr (.inl rfl), trivial⟩, rfl, rfl⟩
theorem iO (W : Wo) (c d : Cln) (hc : W.cs = [c, d]) (h0 : 0 <= W.n) (h1 : W.n < 1000000000000) : PM (cx true) 59 (woQ W) [.ptr 2000 0] (woQ { W with n := W.n + 1 }) (sv (Lib.itoa (W.n + 1))) := by
 obtain ⟨k, cs, names, pool, given, told, bad, lost, now, n⟩ := W;simp only at hc h0 h1;subst hc;refine pmv {} Tryz.func59 ?_;refine goL ?_;refine ⟨n + 1, aS (k := n + 1) (by omega) (by omega) rfl, goL ?_⟩;refine cC (cL true (n + 1) (by omega) (by omega)) (goL ?_);exact rR gI
theorem sj (W : Wo) (c d : Cln) (hc : W.cs = [c, d]) (i : Int) : PM (cx true) 57 (woQ W) [.ptr 2000 0, iv i] (woQ W) (.p (.bool (decide (0 <= i /\ i < 2)))) := by
 obtain ⟨k, cs, names, pool, given, told, bad, lost, now, n⟩ := W;simp only at hc;subst hc;refine pmv {} Tryz.func57 ?_;refine goL ?_;refine aa ?_ ?_ <;> intro h1
 ·refine goL ?_;exact rR gI ⟨rfl, LE.of (congrArg (fun b => SV.p (.bool b)) (decide_eq_decide.2 ⟨fun h => ⟨of_decide_eq_true h1, h⟩, fun h => h.2⟩))⟩
 ·refine goL ?_;exact rR gI ⟨rfl, LE.of (congrArg (fun b => SV.p (.bool b)) (decide_eq_false fun h => of_decide_eq_false h1 h.1).symm)⟩
theorem jC (W : Wo) (c d : Cln) (hc : W.cs = [c, d]) (t : Tm) (e : Int) (ht : wt t <= 1000000000) (hp : W.pool.length <= 1000000) : PM (cx true) 60 (woO W) [.ptr 2000 0, tv t, iv e] (woO (xK W t)) (.tupS [tv t, iv e]) := by
 obtain ⟨k, cs, names, pool, given, told, bad, lost, now, n⟩ := W;simp only at hc hp;subst hc;have hn := eI true t (aE _ ht);unfold xK dW;cases hb : b7 t with
 | true =>
  rw [show (ao dS 0 t).isSome = true from hb] at hn;rw [if_pos rfl];refine pmv {} Tryz.func60 ?_;refine goL ?_;refine cC hn (goL ?_);exact rR gI ⟨rfl, LE.of rfl, rfl, LE.of rfl, trivial⟩
 | false =>
  rw [show (ao dS 0 t).isSome = false from hb] at hn;rw [if_neg (by decide)];have hlt : (af pool).length < (af pool ++ [PV.agg [.int .i64 0, .str [], .nilS]]).length := by simp
  have hset : (af pool ++ [PV.agg [.int .i64 0, .str [], .nilS]]).set (af pool).length (TV t) = af (pool ++ [t]) := by
   rw [List.set_append_right _ _ (Nat.le_refl _), Nat.sub_self, List.set_cons_zero, dR, <- aO]
  refine pmv { own := oO [18], tr := trT [(2, [0, 1, 3, 7, 0, 15, 0, 127, 255, 511, 255, 1279, 3327], qQ [0, 1, 2, 3, 4, 5, 6, 7] (.alt (.one 8 (.alt (qQ [9, 10, 11, 12] .fin) (.one 10 (.alt (qQ [9, 11, 12] .fin) (.one 11 (.alt (qQ [9, 12] .fin) (qQ [12, 9] .fin))))))) (.one 10 (.alt (.one 8 (.alt (qQ [9, 11, 12] .fin) (.one 11 (.alt (qQ [9, 12] .fin) (qQ [12, 9] .fin))))) (.one 11 (.alt (.one 8 (.alt (qQ [9, 12] .fin) (qQ [12, 9] .fin))) (qQ [12, 8, 9] .fin)))))))] } Tryz.func60 ?_;refine goL ?_;refine cC hn (goL ?_);refine ⟨by show ((af pool).length + 1) * 48 <= _; rw [ab]; omega, ?_⟩
  repeat' ((conv => whnf); first | refine sS ?_ | refine aQ ?_ ?_ | refine ⟨Int.natCast_nonneg _, hlt, ?_⟩ | refine ⟨hlt, rfl, rfl, rfl, ?_⟩ | fail)
  all_goals (conv => whnf)
  all_goals exact ⟨gI, ⟨rfl, LE.of rfl, rfl, LE.of rfl, trivial⟩, ⟨.inr (.inl rfl), .inr (.inl rfl), .inr (.inl (congrArg (AO.row 26 3) hset)), .inr (.inl rfl), .inr (.inl rfl), .inr (.inl rfl), .inr (.inl rfl), .inr (.inl rfl), .inr (.inl rfl), .inr (.inl rfl), .inr (.inl rfl), .inr (.inl rfl), .inr (.inl rfl), .inr (.inl rfl), .inr (.inl rfl), .inr (.inl rfl), trivial⟩, rfl, rfl⟩
end Go.Sl
namespace Go.Sl
open Go Go.Vc Go.Proofs Go.RowKit
structure IM (B : Prop) : Prop where
 un : B
theorem y9 {A B : Prop} (p : B) (h : IM B -> A) : A := h ⟨p⟩
def bA (W : Wo) (t : Tm) : Wo × Tm × Int := ({ W with k := (bg W.k t W.now).1, pool := dW W.pool (bg W.k t W.now).2 }, (bg W.k t W.now).2, 0)
def xW : Bs := [120, 32]
def xT (n : Int) : Tm := cI (xW ++ Lib.itoa (n + 1))
def au (W : Wo) (i : Nat) (c : Cln) (t : Tm) : Wo × Tm × Int := ({ W with cs := W.cs.set i (bz c t W.now (xT W.n)).1, pool := dW W.pool (bz c t W.now (xT W.n)).2.1, n := W.n + 1 }, (bz c t W.now (xT W.n)).2.1, (bz c t W.now (xT W.n)).2.2)
structure ED (c : Cln) : Prop where
 nonce : c.nonce.length <= 1000000000
 c0 : 0 <= c.ctr
 c1 : c.ctr <= 1000000000000
 marks : c.marks.length <= 1000000
abbrev gC : Nat -> Nat := gn [(2012, 1012), (2014, 1014)]
def trE (ts os : List Nat) : Tr := .keep ts os (qQ [20, 21, 22, 23, 24] .fin)
set_option maxHeartbeats 2000000 in
theorem BW (W : Wo) (c : Cln) (hc : W.cs = [c]) (t : Tm) (ht : wt t <= 1000000000) (hk : wm W.k) (n0 : -1000000000000 <= W.now) (n1 : W.now <= 1000000000000) (hr : wt (bg W.k t W.now).2 <= 1000000000) (hp : W.pool.length <= 1000000) :
  PM (cx true) 61 (woO W) [.ptr 2000 0, tv t] (woO (bA W t).1) (.tupS [tv (bA W t).2.1, iv (bA W t).2.2]) := by
 obtain ⟨k, cs, names, pool, given, told, bad, lost, now, n⟩ := W;simp only at hc hk n0 n1 hr hp;subst hc;unfold bA;simp only;have hq := oZ k t now hk ht n0 n1;revert hq hr;generalize bg k t now = r;obtain ⟨k2, r⟩ := r;intro hr hq;have hs := o7 ⟨k2, [c], names, pool, given, told, bad, lost, now, n⟩ c rfl r 0 hr hp;refine pmv { own := oO [100016, 100017], tr := trT [(1, [0, 0, 2, 6, 14, 0, 0, 64, 192, 448, 1022, 2047, 4095, 4095, 16383, 32767], .pin 0 (qQ [1, 2, 3, 4, 5, 6, 7, 8, 9, 10] (.keep [4, 5, 6, 16] [4, 2000, 2001, 1001, 2006, 1003, 2005, 2010, 2011, 2013, 1012, 1014, 1010, 2020, 1020] (qQ [11, 12, 13, 14, 15] .fin))))] } Tryz.func61 ?_;refine goL ?_;refine ac.go gC hq (goL ?_);refine ac.go gI hs (goL ?_);exact rR gI ⟨rfl, LE.of rfl, rfl, LE.of rfl, trivial⟩
set_option maxHeartbeats 2000000 in
theorem uD (W : Wo) (c d : Cln) (hc : W.cs = [c, d]) (t : Tm) (ht : wt t <= 1000000000) (hk : wm W.k) (n0 : -1000000000000 <= W.now) (n1 : W.now <= 1000000000000) (hr : wt (bg W.k t W.now).2 <= 1000000000) (hp : W.pool.length <= 1000000) :
  PM (cx true) 61 (woO W) [.ptr 2000 0, tv t] (woO (bA W t).1) (.tupS [tv (bA W t).2.1, iv (bA W t).2.2]) := by
 obtain ⟨k, cs, names, pool, given, told, bad, lost, now, n⟩ := W;simp only at hc hk n0 n1 hr hp;subst hc;unfold bA;simp only;have hq := oZ k t now hk ht n0 n1;revert hq hr;generalize bg k t now = r;obtain ⟨k2, r⟩ := r;intro hr hq;have hs := jC ⟨k2, [c, d], names, pool, given, told, bad, lost, now, n⟩ c d rfl r 0 hr hp;refine pmv { own := oO [100016, 100017], tr := trT [(1, [0, 0, 2, 6, 14, 0, 0, 64, 192, 448, 1022, 2047, 4095, 4095, 16383, 32767], .pin 0 (qQ [1, 2, 3, 4, 5, 6, 7, 8, 9, 10] (.keep [4, 5, 6, 16] [4, 2000, 2001, 1001, 2006, 1003, 2005, 2010, 2011, 2013, 1012, 1014, 1010, 2020, 1020, 2030, 1030] (qQ [11, 12, 13, 14, 15] .fin))))] } Tryz.func61 ?_;refine goL ?_;refine ac.go gC hq (goL ?_);refine ac.go gI hs (goL ?_);exact rR gI ⟨rfl, LE.of rfl, rfl, LE.of rfl, trivial⟩
set_option maxHeartbeats 4000000 in
theorem wA (W : Wo) (c : Cln) (hc : W.cs = [c]) (t : Tm) (ht : wt t <= 1000000000) (h0 : 0 <= W.n) (h1 : W.n < 1000000000000) (hx : ED c) (n0 : -1000000000000 <= W.now) (n1 : W.now <= 1000000000000) (hr : wt (bz c t W.now (xT W.n)).2.1 <= 1000000000) (hp : W.pool.length <= 1000000) :
  PM (cx true) 62 (woO W) [.ptr 2000 0, iv 0, tv t] (woO (au W 0 c t).1) (.tupS [tv (au W 0 c t).2.1, iv (au W 0 c t).2.2]) := by
 obtain ⟨k, cs, names, pool, given, told, bad, lost, now, n⟩ := W;simp only at hc h0 h1 n0 n1 hr hp;subst hc;unfold au;simp only;have hil := bj (n := n + 1) (by omega) (by omega);have hn := o6 ⟨k, [c], names, pool, given, told, bad, lost, now, n⟩ c rfl h0 h1;have hxw : wt (xT n) <= 1000000000 := by rw [bR]; show (xW ++ Lib.itoa (n + 1)).length + 0 + 1 <= _; rw [List.length_append]; show 2 + _ + 0 + 1 <= _; omega
 have hq := se c t now (xT n) ht hxw hx.nonce hx.c0 hx.c1 hx.marks n0 n1;have hat : K true 49 [sv (xW ++ Lib.itoa (n + 1))] (.pv (TV (xT n))) := bl true _;revert hq hr hat;generalize xT n = y;generalize bz c t now y = r;obtain ⟨c2, r, e⟩ := r;intro hr hq hat;have hs := o7 ⟨k, [c2], names, pool, given, told, bad, lost, now, n + 1⟩ c2 rfl r e hr hp;simp only at hn;have hlen : xW.length + (Lib.itoa (n + 1)).length <= 9223372036854775807 := by show 2 + _ <= _; omega
 refine pmv { own := oO [100022, 700022, 900022, 100025, 100028], tr := trT [(1, [0, 0, 2, 6, 14, 0, 62, 126, 0, 0, 512, 1536, 3584, 0, 8192, 24576, 57344, 131070, 262142, 262142, 1048575, 2097151, 2097151, 8388607, 16777215], .pin 0 (.pin 8 (qQ [1, 2, 3, 5, 9, 10, 11, 13] (.alt (.one 4 (.alt (.one 6 (.alt (.one 7 (.alt (qQ [12, 14, 15, 16, 17, 18, 19] (trE [0, 6, 7, 8, 26, 27] [6, 2000, 2001, 1001, 2006, 1003, 2005, 2010, 2011, 2013, 1012, 1014, 1010, 2020, 1020])) (qQ [14, 12, 15, 16, 17, 18, 19] (trE [0, 6, 7, 8, 26, 27] [6, 2000, 2001, 1001, 2006, 1003, 2005, 2010, 2011, 2013, 1012, 1014, 1010, 2020, 1020])))) (.alt (.one 12 (.alt (qQ [7, 14, 15, 16, 17, 18, 19] (trE [0, 6, 7, 8, 26, 27] [6, 2000, 2001, 1001, 2006, 1003, 2005, 2010, 2011, 2013, 1012, 1014, 1010, 2020, 1020])) (qQ [14, 7, 15, 16, 17, 18, 19] (trE [0, 6, 7, 8, 26, 27] [6, 2000, 2001, 1001, 2006, 1003, 2005, 2010, 2011, 2013, 1012, 1014, 1010, 2020, 1020])))) (qQ [14, 7, 12, 15, 16, 17, 18, 19] (trE [0, 6, 7, 8, 26, 27] [6, 2000, 2001, 1001, 2006, 1003, 2005, 2010, 2011, 2013, 1012, 1014, 1010, 2020, 1020]))))) (.alt (.one 12 (.alt (.one 6 (.alt (qQ [7, 14, 15, 16, 17, 18, 19] (trE [0, 6, 7, 8, 26, 27] [6, 2000, 2001, 1001, 2006, 1003, 2005, 2010, 2011, 2013, 1012, 1014, 1010, 2020, 1020])) (qQ [14, 7, 15, 16, 17, 18, 19] (trE [0, 6, 7, 8, 26, 27] [6, 2000, 2001, 1001, 2006, 1003, 2005, 2010, 2011, 2013, 1012, 1014, 1010, 2020, 1020])))) (qQ [14, 6, 7, 15, 16, 17, 18, 19] (trE [0, 6, 7, 8, 26, 27] [6, 2000, 2001, 1001, 2006, 1003, 2005, 2010, 2011, 2013, 1012, 1014, 1010, 2020, 1020])))) (qQ [14, 6, 7, 12, 15, 16, 17, 18, 19] (trE [0, 6, 7, 8, 26, 27] [6, 2000, 2001, 1001, 2006, 1003, 2005, 2010, 2011, 2013, 1012, 1014, 1010, 2020, 1020]))))) (.alt (.one 12 (.alt (.one 4 (.alt (.one 6 (.alt (qQ [7, 14, 15, 16, 17, 18, 19] (trE [0, 6, 7, 8, 26, 27] [6, 2000, 2001, 1001, 2006, 1003, 2005, 2010, 2011, 2013, 1012, 1014, 1010, 2020, 1020])) (qQ [14, 7, 15, 16, 17, 18, 19] (trE [0, 6, 7, 8, 26, 27] [6, 2000, 2001, 1001, 2006, 1003, 2005, 2010, 2011, 2013, 1012, 1014, 1010, 2020, 1020])))) (qQ [14, 6, 7, 15, 16, 17, 18, 19] (trE [0, 6, 7, 8, 26, 27] [6, 2000, 2001, 1001, 2006, 1003, 2005, 2010, 2011, 2013, 1012, 1014, 1010, 2020, 1020])))) (qQ [14, 4, 6, 7, 15, 16, 17, 18, 19] (trE [0, 6, 7, 8, 26, 27] [6, 2000, 2001, 1001, 2006, 1003, 2005, 2010, 2011, 2013, 1012, 1014, 1010, 2020, 1020])))) (qQ [14, 4, 6, 7, 12, 15, 16, 17, 18, 19] (trE [0, 6, 7, 8, 26, 27] [6, 2000, 2001, 1001, 2006, 1003, 2005, 2010, 2011, 2013, 1012, 1014, 1010, 2020, 1020])))))))] } Tryz.func62 ?_
 apply @y9
 case h =>
  intro fin
  repeat' ((conv => whnf); first | refine sS ?_ | refine aQ ?_ ?_ | refine ⟨_, cH.pr gQ hn ⟨LE.of rfl, trivial⟩ (by (conv => whnf); exact ⟨.inr (.inl rfl), .inr (.inl rfl), .inr (.inl rfl), .inr (.inl rfl), .inr (.inl rfl), .inr (.inl rfl), .inr (.inl rfl), .inr (.inl rfl), .inr (.inl rfl), .inr (.inl rfl), .inr (.inl rfl), .inr (.inl rfl), .inr (.inl rfl), .inr (.inl rfl), trivial⟩) rfl rfl rfl, ?_⟩ | refine ⟨hlen, ?_⟩ | refine ⟨_, ar.pr hat rfl rfl, ?_⟩ | refine ⟨_, ac.pr gI hq ⟨LE.of rfl, LE.of rfl, LE.of rfl, LE.of rfl, trivial⟩ (by (conv => whnf); exact ⟨.inr (.inl rfl), .inr (.inl rfl), trivial⟩) rfl, ?_⟩ | fail)
  all_goals (conv => whnf)
  all_goals exact fin.un
 case p =>
  refine ac.go gI hs (goL ?_);exact rR gI ⟨rfl, LE.of rfl, rfl, LE.of rfl, trivial⟩
set_option maxHeartbeats 4000000 in
theorem o8 (W : Wo) (c d : Cln) (hc : W.cs = [c, d]) (t : Tm) (ht : wt t <= 1000000000) (h0 : 0 <= W.n) (h1 : W.n < 1000000000000) (hx : ED c) (n0 : -1000000000000 <= W.now) (n1 : W.now <= 1000000000000) (hr : wt (bz c t W.now (xT W.n)).2.1 <= 1000000000) (hp : W.pool.length <= 1000000) :
  PM (cx true) 62 (woO W) [.ptr 2000 0, iv 0, tv t] (woO (au W 0 c t).1) (.tupS [tv (au W 0 c t).2.1, iv (au W 0 c t).2.2]) := by
 obtain ⟨k, cs, names, pool, given, told, bad, lost, now, n⟩ := W;simp only at hc h0 h1 n0 n1 hr hp;subst hc;unfold au;simp only;have hil := bj (n := n + 1) (by omega) (by omega);have hn := iO ⟨k, [c, d], names, pool, given, told, bad, lost, now, n⟩ c d rfl h0 h1;have hxw : wt (xT n) <= 1000000000 := by rw [bR]; show (xW ++ Lib.itoa (n + 1)).length + 0 + 1 <= _; rw [List.length_append]; show 2 + _ + 0 + 1 <= _; omega
 have hq := se c t now (xT n) ht hxw hx.nonce hx.c0 hx.c1 hx.marks n0 n1;have hat : K true 49 [sv (xW ++ Lib.itoa (n + 1))] (.pv (TV (xT n))) := bl true _;revert hq hr hat;generalize xT n = y;generalize bz c t now y = r;obtain ⟨c2, r, e⟩ := r;intro hr hq hat;have hs := jC ⟨k, [c2, d], names, pool, given, told, bad, lost, now, n + 1⟩ c2 d rfl r e hr hp;simp only at hn;have hlen : xW.length + (Lib.itoa (n + 1)).length <= 9223372036854775807 := by show 2 + _ <= _; omega
 refine pmv { own := oO [100022, 700022, 900022, 100025, 100028], tr := trT [(1, [0, 0, 2, 6, 14, 0, 62, 126, 0, 0, 512, 1536, 3584, 0, 8192, 24576, 57344, 131070, 262142, 262142, 1048575, 2097151, 2097151, 8388607, 16777215], .pin 0 (.pin 8 (qQ [1, 2, 3, 5, 9, 10, 11, 13] (.alt (.one 4 (.alt (.one 6 (.alt (.one 7 (.alt (qQ [12, 14, 15, 16, 17, 18, 19] (trE [0, 6, 7, 8, 26, 27] [6, 2000, 2001, 1001, 2006, 1003, 2005, 2010, 2011, 2013, 1012, 1014, 1010, 2020, 1020, 2030, 1030])) (qQ [14, 12, 15, 16, 17, 18, 19] (trE [0, 6, 7, 8, 26, 27] [6, 2000, 2001, 1001, 2006, 1003, 2005, 2010, 2011, 2013, 1012, 1014, 1010, 2020, 1020, 2030, 1030])))) (.alt (.one 12 (.alt (qQ [7, 14, 15, 16, 17, 18, 19] (trE [0, 6, 7, 8, 26, 27] [6, 2000, 2001, 1001, 2006, 1003, 2005, 2010, 2011, 2013, 1012, 1014, 1010, 2020, 1020, 2030, 1030])) (qQ [14, 7, 15, 16, 17, 18, 19] (trE [0, 6, 7, 8, 26, 27] [6, 2000, 2001, 1001, 2006, 1003, 2005, 2010, 2011, 2013, 1012, 1014, 1010, 2020, 1020, 2030, 1030])))) (qQ [14, 7, 12, 15, 16, 17, 18, 19] (trE [0, 6, 7, 8, 26, 27] [6, 2000, 2001, 1001, 2006, 1003, 2005, 2010, 2011, 2013, 1012, 1014, 1010, 2020, 1020, 2030, 1030]))))) (.alt (.one 12 (.alt (.one 6 (.alt (qQ [7, 14, 15, 16, 17, 18, 19] (trE [0, 6, 7, 8, 26, 27] [6, 2000, 2001, 1001, 2006, 1003, 2005, 2010, 2011, 2013, 1012, 1014, 1010, 2020, 1020, 2030, 1030])) (qQ [14, 7, 15, 16, 17, 18, 19] (trE [0, 6, 7, 8, 26, 27] [6, 2000, 2001, 1001, 2006, 1003, 2005, 2010, 2011, 2013, 1012, 1014, 1010, 2020, 1020, 2030, 1030])))) (qQ [14, 6, 7, 15, 16, 17, 18, 19] (trE [0, 6, 7, 8, 26, 27] [6, 2000, 2001, 1001, 2006, 1003, 2005, 2010, 2011, 2013, 1012, 1014, 1010, 2020, 1020, 2030, 1030])))) (qQ [14, 6, 7, 12, 15, 16, 17, 18, 19] (trE [0, 6, 7, 8, 26, 27] [6, 2000, 2001, 1001, 2006, 1003, 2005, 2010, 2011, 2013, 1012, 1014, 1010, 2020, 1020, 2030, 1030]))))) (.alt (.one 12 (.alt (.one 4 (.alt (.one 6 (.alt (qQ [7, 14, 15, 16, 17, 18, 19] (trE [0, 6, 7, 8, 26, 27] [6, 2000, 2001, 1001, 2006, 1003, 2005, 2010, 2011, 2013, 1012, 1014, 1010, 2020, 1020, 2030, 1030])) (qQ [14, 7, 15, 16, 17, 18, 19] (trE [0, 6, 7, 8, 26, 27] [6, 2000, 2001, 1001, 2006, 1003, 2005, 2010, 2011, 2013, 1012, 1014, 1010, 2020, 1020, 2030, 1030])))) (qQ [14, 6, 7, 15, 16, 17, 18, 19] (trE [0, 6, 7, 8, 26, 27] [6, 2000, 2001, 1001, 2006, 1003, 2005, 2010, 2011, 2013, 1012, 1014, 1010, 2020, 1020, 2030, 1030])))) (qQ [14, 4, 6, 7, 15, 16, 17, 18, 19] (trE [0, 6, 7, 8, 26, 27] [6, 2000, 2001, 1001, 2006, 1003, 2005, 2010, 2011, 2013, 1012, 1014, 1010, 2020, 1020, 2030, 1030])))) (qQ [14, 4, 6, 7, 12, 15, 16, 17, 18, 19] (trE [0, 6, 7, 8, 26, 27] [6, 2000, 2001, 1001, 2006, 1003, 2005, 2010, 2011, 2013, 1012, 1014, 1010, 2020, 1020, 2030, 1030])))))))] } Tryz.func62 ?_
 apply @y9
 case h =>
  intro fin
  repeat' ((conv => whnf); first | refine sS ?_ | refine aQ ?_ ?_ | refine ⟨_, cH.pr gQ hn ⟨LE.of rfl, trivial⟩ (by (conv => whnf); exact ⟨.inr (.inl rfl), .inr (.inl rfl), .inr (.inl rfl), .inr (.inl rfl), .inr (.inl rfl), .inr (.inl rfl), .inr (.inl rfl), .inr (.inl rfl), .inr (.inl rfl), .inr (.inl rfl), .inr (.inl rfl), .inr (.inl rfl), .inr (.inl rfl), .inr (.inl rfl), .inr (.inl rfl), .inr (.inl rfl), trivial⟩) rfl rfl rfl, ?_⟩ | refine ⟨hlen, ?_⟩ | refine ⟨_, ar.pr hat rfl rfl, ?_⟩ | refine ⟨_, ac.pr gI hq ⟨LE.of rfl, LE.of rfl, LE.of rfl, LE.of rfl, trivial⟩ (by (conv => whnf); exact ⟨.inr (.inl rfl), .inr (.inl rfl), trivial⟩) rfl, ?_⟩ | fail)
  all_goals (conv => whnf)
  all_goals exact fin.un
 case p =>
  refine ac.go gI hs (goL ?_);exact rR gI ⟨rfl, LE.of rfl, rfl, LE.of rfl, trivial⟩
set_option maxHeartbeats 4000000 in
theorem o9 (W : Wo) (c d : Cln) (hc : W.cs = [c, d]) (t : Tm) (ht : wt t <= 1000000000) (h0 : 0 <= W.n) (h1 : W.n < 1000000000000) (hx : ED d) (n0 : -1000000000000 <= W.now) (n1 : W.now <= 1000000000000) (hr : wt (bz d t W.now (xT W.n)).2.1 <= 1000000000) (hp : W.pool.length <= 1000000) :
  PM (cx true) 62 (woO W) [.ptr 2000 0, iv 1, tv t] (woO (au W 1 d t).1) (.tupS [tv (au W 1 d t).2.1, iv (au W 1 d t).2.2]) := by
 obtain ⟨k, cs, names, pool, given, told, bad, lost, now, n⟩ := W;simp only at hc h0 h1 n0 n1 hr hp;subst hc;unfold au;simp only;have hil := bj (n := n + 1) (by omega) (by omega);have hn := iO ⟨k, [c, d], names, pool, given, told, bad, lost, now, n⟩ c d rfl h0 h1;have hxw : wt (xT n) <= 1000000000 := by rw [bR]; show (xW ++ Lib.itoa (n + 1)).length + 0 + 1 <= _; rw [List.length_append]; show 2 + _ + 0 + 1 <= _; omega
 have hq := se d t now (xT n) ht hxw hx.nonce hx.c0 hx.c1 hx.marks n0 n1;have hat : K true 49 [sv (xW ++ Lib.itoa (n + 1))] (.pv (TV (xT n))) := bl true _;revert hq hr hat;generalize xT n = y;generalize bz d t now y = r;obtain ⟨c2, r, e⟩ := r;intro hr hq hat;have hs := jC ⟨k, [c, c2], names, pool, given, told, bad, lost, now, n + 1⟩ c c2 rfl r e hr hp;simp only at hn;have hlen : xW.length + (Lib.itoa (n + 1)).length <= 9223372036854775807 := by show 2 + _ <= _; omega
 refine pmv { own := oO [100022, 700022, 900022, 100025, 100028], tr := trT [(1, [0, 0, 2, 6, 14, 0, 62, 126, 0, 0, 512, 1536, 3584, 0, 8192, 24576, 57344, 131070, 262142, 262142, 1048575, 2097151, 2097151, 8388607, 16777215], .pin 0 (.pin 8 (qQ [1, 2, 3, 5, 9, 10, 11, 13] (.alt (.one 4 (.alt (.one 6 (.alt (.one 7 (.alt (qQ [12, 14, 15, 16, 17, 18, 19] (trE [0, 6, 7, 8, 26, 27] [6, 2000, 2001, 1001, 2006, 1003, 2005, 2010, 2011, 2013, 1012, 1014, 1010, 2020, 1020, 2030, 1030])) (qQ [14, 12, 15, 16, 17, 18, 19] (trE [0, 6, 7, 8, 26, 27] [6, 2000, 2001, 1001, 2006, 1003, 2005, 2010, 2011, 2013, 1012, 1014, 1010, 2020, 1020, 2030, 1030])))) (.alt (.one 12 (.alt (qQ [7, 14, 15, 16, 17, 18, 19] (trE [0, 6, 7, 8, 26, 27] [6, 2000, 2001, 1001, 2006, 1003, 2005, 2010, 2011, 2013, 1012, 1014, 1010, 2020, 1020, 2030, 1030])) (qQ [14, 7, 15, 16, 17, 18, 19] (trE [0, 6, 7, 8, 26, 27] [6, 2000, 2001, 1001, 2006, 1003, 2005, 2010, 2011, 2013, 1012, 1014, 1010, 2020, 1020, 2030, 1030])))) (qQ [14, 7, 12, 15, 16, 17, 18, 19] (trE [0, 6, 7, 8, 26, 27] [6, 2000, 2001, 1001, 2006, 1003, 2005, 2010, 2011, 2013, 1012, 1014, 1010, 2020, 1020, 2030, 1030]))))) (.alt (.one 12 (.alt (.one 6 (.alt (qQ [7, 14, 15, 16, 17, 18, 19] (trE [0, 6, 7, 8, 26, 27] [6, 2000, 2001, 1001, 2006, 1003, 2005, 2010, 2011, 2013, 1012, 1014, 1010, 2020, 1020, 2030, 1030])) (qQ [14, 7, 15, 16, 17, 18, 19] (trE [0, 6, 7, 8, 26, 27] [6, 2000, 2001, 1001, 2006, 1003, 2005, 2010, 2011, 2013, 1012, 1014, 1010, 2020, 1020, 2030, 1030])))) (qQ [14, 6, 7, 15, 16, 17, 18, 19] (trE [0, 6, 7, 8, 26, 27] [6, 2000, 2001, 1001, 2006, 1003, 2005, 2010, 2011, 2013, 1012, 1014, 1010, 2020, 1020, 2030, 1030])))) (qQ [14, 6, 7, 12, 15, 16, 17, 18, 19] (trE [0, 6, 7, 8, 26, 27] [6, 2000, 2001, 1001, 2006, 1003, 2005, 2010, 2011, 2013, 1012, 1014, 1010, 2020, 1020, 2030, 1030]))))) (.alt (.one 12 (.alt (.one 4 (.alt (.one 6 (.alt (qQ [7, 14, 15, 16, 17, 18, 19] (trE [0, 6, 7, 8, 26, 27] [6, 2000, 2001, 1001, 2006, 1003, 2005, 2010, 2011, 2013, 1012, 1014, 1010, 2020, 1020, 2030, 1030])) (qQ [14, 7, 15, 16, 17, 18, 19] (trE [0, 6, 7, 8, 26, 27] [6, 2000, 2001, 1001, 2006, 1003, 2005, 2010, 2011, 2013, 1012, 1014, 1010, 2020, 1020, 2030, 1030])))) (qQ [14, 6, 7, 15, 16, 17, 18, 19] (trE [0, 6, 7, 8, 26, 27] [6, 2000, 2001, 1001, 2006, 1003, 2005, 2010, 2011, 2013, 1012, 1014, 1010, 2020, 1020, 2030, 1030])))) (qQ [14, 4, 6, 7, 15, 16, 17, 18, 19] (trE [0, 6, 7, 8, 26, 27] [6, 2000, 2001, 1001, 2006, 1003, 2005, 2010, 2011, 2013, 1012, 1014, 1010, 2020, 1020, 2030, 1030])))) (qQ [14, 4, 6, 7, 12, 15, 16, 17, 18, 19] (trE [0, 6, 7, 8, 26, 27] [6, 2000, 2001, 1001, 2006, 1003, 2005, 2010, 2011, 2013, 1012, 1014, 1010, 2020, 1020, 2030, 1030])))))))] } Tryz.func62 ?_
 apply @y9
 case h =>
  intro fin
  repeat' ((conv => whnf); first | refine sS ?_ | refine aQ ?_ ?_ | refine ⟨_, cH.pr gQ hn ⟨LE.of rfl, trivial⟩ (by (conv => whnf); exact ⟨.inr (.inl rfl), .inr (.inl rfl), .inr (.inl rfl), .inr (.inl rfl), .inr (.inl rfl), .inr (.inl rfl), .inr (.inl rfl), .inr (.inl rfl), .inr (.inl rfl), .inr (.inl rfl), .inr (.inl rfl), .inr (.inl rfl), .inr (.inl rfl), .inr (.inl rfl), .inr (.inl rfl), .inr (.inl rfl), trivial⟩) rfl rfl rfl, ?_⟩ | refine ⟨hlen, ?_⟩ | refine ⟨_, ar.pr hat rfl rfl, ?_⟩ | refine ⟨_, ac.pr (gn [(2020, 2030), (1020, 1030)]) hq ⟨LE.of rfl, LE.of rfl, LE.of rfl, LE.of rfl, trivial⟩ (by (conv => whnf); exact ⟨.inr (.inl rfl), .inr (.inl rfl), trivial⟩) rfl, ?_⟩ | fail)
  all_goals (conv => whnf)
  all_goals exact fin.un
 case p =>
  refine ac.go gI hs (goL ?_);exact rR gI ⟨rfl, LE.of rfl, rfl, LE.of rfl, trivial⟩
end Go.Sl
namespace Go.Sl
open Go Go.Vc Go.Proofs Go.RowKit
abbrev ccI (A B C : List Tm) : List (Nat × AO) := [(2100, .rp 24 [.slc 2101, .slc 2102, .slc 2103]), (2101, .row 26 3 (af A)), (2102, .row 26 3 (af B)), (2103, .row 26 3 (af C))]
theorem wB (A B C : List Tm) (h0 : 0 < A.length) (hl : A.length + B.length + C.length <= 100000000) :
  PM (cx true) 56 (ccI A B C) [.slc 2100] (ccI A B C ++ [(1100, .row 26 3 (af (A ++ B ++ C)))]) (.slc 1100) := by
 have hA : ((A.length : Nat) : Int) = (af A).length := by rw [ab]
 have e1 : af A ++ af B = af (A ++ B) := (aO A B).symm;have e2 : af (A ++ B) ++ af C = af (A ++ B ++ C) := (aO (A ++ B) C).symm;refine pmv { own := oO [24, 33, 400033, 600033] } Tryz.func56 ?_;refine goL ?_;refine ⟨Fin 4, fun i => S.of [(0, .slc 2100), (3, iv (match i with | 0 => 0 | 1 => (A.length : Int) | 2 => ((A.length + B.length : Nat) : Int) | 3 => ((A.length + B.length + C.length : Nat) : Int))), (9, .slc 2100), (10, iv 3), (11, iv (match i with | 0 => 0 | 1 => 1 | 2 => 2 | 3 => 3))] (ccI A B C), fun i => 4 - i.1, 0, ?_, ?_⟩
 ·exact Ge.go
 intro i
 match i with
 | 0 =>
  refine goL ?_;refine ⟨_, aq (n := A.length) (by show (0 : Int) + ((af A).length : Int) = _; rw [ab]; omega) (by omega), goL ?_⟩;refine ⟨1, rfl, goL ?_⟩;refine ⟨1, ?_, by decide⟩;exact Ge.go
 | 1 =>
  refine goL ?_;refine ⟨_, aq (n := A.length + B.length) (by show (A.length : Int) + ((af B).length : Int) = _; rw [ab]; omega) (by omega), goL ?_⟩;refine ⟨2, rfl, goL ?_⟩;refine ⟨2, ?_, by decide⟩;exact Ge.go
 | 2 =>
  refine goL ?_;refine ⟨_, aq (n := A.length + B.length + C.length) (by show ((A.length + B.length : Nat) : Int) + ((af C).length : Int) = _; rw [ab]; omega) (by omega), goL ?_⟩;refine ⟨3, rfl, goL ?_⟩;refine ⟨3, ?_, by decide⟩;exact Ge.go
 | 3 =>
  refine goL ?_;refine cC (xg true (A.length + B.length + C.length) (by omega) (by omega)) (goL ?_);refine ⟨Fin 4, fun i => S.of [(6, .slc 24), (25, .slc 2100), (26, iv 3), (27, iv (match i with | 0 => 0 | 1 => 1 | 2 => 2 | 3 => 3))] ((24, .row 26 3 (match i with | 0 => [] | 1 => af A | 2 => af (A ++ B) | 3 => af (A ++ B ++ C))) :: ccI A B C), fun i => 4 - i.1, 0, ?_, ?_⟩
  ·exact Ge.go
  intro i
  match i with
  | 0 =>
   refine goL ?_;refine ⟨by show (0 + (af A).length) * 48 <= _; rw [ab]; omega, goL ?_⟩;refine ⟨1, rfl, goL ?_⟩;refine ⟨1, ?_, by decide⟩;refine Ge.of rfl ?_ ?_
   ·repeat (conv => whnf); refine ⟨LE.of rfl, ?_⟩
    trivial
   ·repeat (conv => whnf); first | refine ⟨OLE.of rfl, ?_⟩ | refine ⟨OLE.of rfl, ?_⟩
    trivial
  | 1 =>
   refine goL ?_;refine ⟨by show ((af A).length + (af B).length) * 48 <= _; rw [ab, ab]; omega, goL ?_⟩;refine ⟨2, rfl, goL ?_⟩;refine ⟨2, ?_, by decide⟩;refine Ge.of rfl ?_ ?_
   ·repeat (conv => whnf); refine ⟨LE.of rfl, ?_⟩
    trivial
   ·repeat (conv => whnf); first | refine ⟨OLE.of (congrArg (AO.row 26 3) e1), ?_⟩ | refine ⟨OLE.of rfl, ?_⟩
    trivial
  | 2 =>
   refine goL ?_;refine ⟨by show ((af (A ++ B)).length + (af C).length) * 48 <= _; rw [ab, ab, List.length_append]; omega, goL ?_⟩;refine ⟨3, rfl, goL ?_⟩;refine ⟨3, ?_, by decide⟩;refine Ge.of rfl ?_ ?_
   ·repeat (conv => whnf); refine ⟨LE.of rfl, ?_⟩
    trivial
   ·repeat (conv => whnf); first | refine ⟨OLE.of (congrArg (AO.row 26 3) e2), ?_⟩ | refine ⟨OLE.of rfl, ?_⟩
    trivial
  | 3 =>
   refine goL ?_;exact rR (gn [(1100, 24)])
def frT (W : Wo) : List Tm := W.given ++ W.pool ++ W.told
theorem BX : ∀ (w t : Tm), t ∈ inT w -> t.size <= w.size := by
 intro w
 induction w using Tm.indk with
 | h w ih =>
  intro t ht;rw [rK] at ht;rcases List.mem_cons.1 ht with rfl | ht
  ·exact Nat.le_refl _
  ·obtain ⟨u, hu, ht⟩ := nC ht;have h1 := ih u hu t ht;have h2 := Tm.size_mem hu;rw [Tm.size_eq w];omega
theorem fU (l : List Tm) : l.length <= Tm.sizes l := by
 induction l with
 | nil => exact Nat.zero_le _
 | cons t l ih => have := Tm.size_pos t; simp only [List.length_cons, Tm.sizes]; omega
structure EE (l : List Tm) : Prop where
 wt : ∀ t ∈ l, wt t <= 1000000000
 sz : Tm.sizes l <= 10000000
 one : ∀ t ∈ l, t.size <= 100000
theorem j4 {l : List Tm} (h : EE l) (t : Tm) (ht : wt t <= 1000000000) : K true 18 [lv l, tv t] (.pv (.bool (knT l t))) := by
 have hl := fU l;obtain ⟨e, h1, h2⟩ := yx l (fun t ht => aE t (h.wt t ht)) h.wt h.sz (fun t ht => by
  obtain ⟨w, hw, ht⟩ := nC ht;obtain ⟨v, hv, rfl⟩ := List.mem_map.1 hw;have h1 := BX _ _ ht;rw [tM] at h1;have h2 := h.one v hv;have h3 := fU t.kids;have h4 := Tm.size_eq t;omega) (by have := h.sz; omega)
 have h3 := h2 t (aE t ht) ht;have e : knT l t = mkB e.s (aL t) := by
  rw [Bool.eq_iff_iff, h1.fin.iff (jQ t), nF]
 rw [e]; exact h3
structure Stp where
 kind : Int
 who : Int
 pos : Int
 t : Tm
abbrev Stp.pv (s : Stp) : PV := .agg [.int .i64 s.kind, .int .i64 s.who, .int .i64 s.pos, .int .i64 s.t.kind, .str s.t.name, .lst (af s.t.kids)]
noncomputable def a8 (W : Wo) (s : Stp) : Int :=
 if (s.kind = 1 \/ s.kind = 7 \/ s.kind = 3 \/ s.kind = 5) /\ ¬ (0 <= s.who /\ s.who < (W.cs.length : Int)) then 3 else
 if (s.kind = 2 \/ s.kind = 3) /\ ¬ (0 <= s.pos /\ s.pos < (W.pool.length : Int)) then 3 else
 if (s.kind = 4 \/ s.kind = 5) /\ ¬ (cd s.t = true /\ knT (frT W) s.t = true) then 4 else
 if s.kind < 1 \/ 9 < s.kind then 1 else 0
theorem HC (W : Wo) (c : Cln) (hc : W.cs = [c]) (hl : W.pool.length <= 100000) : PM (cx true) 20 (woQ W) [.ptr 2000 0] (woQ W ++ [(1100, .row 26 3 (af W.pool))]) (.slc 1100) := by
 obtain ⟨k, cs, names, pool, given, told, bad, lost, now, n⟩ := W;simp only at hc hl;subst hc;refine pmv { own := oO [9, 600015] } Tryz.func20 ?_;refine goL ?_;refine ⟨Int.natCast_nonneg _, goL ?_⟩;refine ⟨by rw [ab]; show pool.length * 3 <= _; omega, goL ?_⟩;refine ⟨by rw [ab]; show 48 * pool.length <= _; omega, goL ?_⟩;refine ⟨by rw [List.length_replicate]; rfl, goL ?_⟩;refine ⟨by rw [ab]; show pool.length * 3 <= _; omega, goL ?_⟩;exact rR (gn [(1100, 9)])
theorem j5 (W : Wo) (c d : Cln) (hc : W.cs = [c, d]) (h0 : 0 < W.given.length) (hl : (frT W).length <= 100000000) : PM (cx true) 19 (woQ W) [.ptr 2000 0] (woQ W ++ [(1100, .row 26 3 (af (frT W)))]) (.slc 1100) := by
 have hcc := wB W.given W.pool W.told h0 (by rw [frT, List.length_append, List.length_append] at hl; exact hl);unfold frT;obtain ⟨k, cs, names, pool, given, told, bad, lost, now, n⟩ := W;simp only at hc hcc;subst hc;refine pmv { own := oO [400015, 100016] } Tryz.func19 ?_;refine goL ?_;refine ac.go (gn [(2100, 15), (2101, 2006), (2102, 2101), (1100, 16)]) hcc (goL ?_);exact rR (gn [(1100, 16)])
theorem pa (W : Wo) (c d : Cln) (hc : W.cs = [c, d]) (hl : W.pool.length <= 100000) : PM (cx true) 20 (woQ W) [.ptr 2000 0] (woQ W ++ [(1100, .row 26 3 (af W.pool))]) (.slc 1100) := by
 obtain ⟨k, cs, names, pool, given, told, bad, lost, now, n⟩ := W;simp only at hc hl;subst hc;refine pmv { own := oO [9, 600015] } Tryz.func20 ?_;refine goL ?_;refine ⟨Int.natCast_nonneg _, goL ?_⟩;refine ⟨by rw [ab]; show pool.length * 3 <= _; omega, goL ?_⟩;refine ⟨by rw [ab]; show 48 * pool.length <= _; omega, goL ?_⟩;refine ⟨by rw [List.length_replicate]; rfl, goL ?_⟩;refine ⟨by rw [ab]; show pool.length * 3 <= _; omega, goL ?_⟩;exact rR (gn [(1100, 9)])
end Go.Sl
