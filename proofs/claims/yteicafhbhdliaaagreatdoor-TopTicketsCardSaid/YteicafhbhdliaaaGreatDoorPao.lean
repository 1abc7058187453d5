/- The statement TopTickets, without a condition: a ticket of one KDC is none of another one's. Part 15: Ya Yb Yc Yd Ye. -/
import Derived.Test.YteicafhbhdliaaaGreatDoorPan
set_option linter.unusedSimpArgs false
set_option linter.unusedVariables false
set_option maxHeartbeats 4000000
namespace Go.Sl
open Go Go.Vc Go.Proofs Go.RowKit
structure Wo where
 k : Kd
 cs : List Cln
 names : List Bs
 pool : List Tm
 given : List Tm
 told : List Tm
 bad : List Bool
 lost : Bool
 now : Int
 n : Int
def clsP : List Cln → List SV
 | [_] => [.ptr 2020 0]
 | [_, _] => [.ptr 2020 0, .ptr 2030 0]
 | _ => []
def clsA (m1 m2 : Nat) : List Cln → List (Nat × AO)
 | [c] => [(2020, .var true 85 (clV c (.slc m1))), (m1, .row 227 2 (mkL c.marks))]
 | [c, d] => [(2020, .var true 85 (clV c (.slc m1))), (m1, .row 227 2 (mkL c.marks)), (2030, .var true 85 (clV d (.slc m2))), (m2, .row 227 2 (mkL d.marks))]
 | _ => []
abbrev kdVA (c : Nat) (k : Kd) (iss : SV) : SV := .mix [iv k.key.kind, sv k.key.name, lv k.key.kids, iv k.cookies.kind, sv k.cookies.name, lv k.cookies.kids, .ptr 2011 0, iv k.room, .ptr c 0, iv k.drawn, iss]
abbrev kdA (i c1 c2 : Nat) (k : Kd) : List (Nat × AO) :=
 [(2010, .var true 79 (kdVA c1 k (.slc i))),
  (2011, .var true 135 (.mix [.slc 2013])), (2013, .row 31 15 (usL k.us)),
  (c1, .var true 197 (.mix [iv k.room, .slc c2])), (c2, .mp 195 true (caL k.ca)),
  (i, .row 113 6 (isL k.iss))]
abbrev boolL (l : List Bool) : List PV := l.map .bool
abbrev woV (p q : Nat) (W : Wo) : SV := .mix [.ptr 2010 0, .slc 2001, .p (.lst (strL W.names)), .slc p, .slc 2006, .slc q, .slc 2005, bv W.lost, iv W.now, iv W.n]
abbrev woA (p q i m1 m2 c1 c2 : Nat) (W : Wo) : List (Nat × AO) :=
 (2000, .var true 117 (woV p q W)) :: (2001, .rp 37 (clsP W.cs)) :: (p, .row 26 3 (tmvs W.pool)) :: (2006, .row 26 3 (tmvs W.given)) :: (q, .row 26 3 (tmvs W.told)) :: (2005, .row 4 1 (boolL W.bad)) :: (kdA i c1 c2 W.k ++ clsA m1 m2 W.cs)
abbrev woO (W : Wo) : List (Nat × AO) := woA 1001 1003 1010 1020 1030 1012 1014 W
abbrev woQ (W : Wo) : List (Nat × AO) := woA 2101 2103 2110 2120 2130 2112 2114 W
abbrev gQ : Nat → Nat := gn [(2101, 1001), (2103, 1003), (2110, 1010), (2120, 1020), (2130, 1030), (2112, 1012), (2114, 1014)]
def pwW : Bs := [112, 97, 115, 115, 119, 111, 114, 100, 32]
def sdW : Bs := [115, 101, 101, 100, 32]
def pwT (s : Bs) : Tm := atomT (pwW ++ s)
def sdT (s : Bs) : Tm := atomT (sdW ++ s)
theorem password_ok (b : Bool) (s : Bs) (hs : s.length ≤ 1000000000) : K b 52 [sv s] (.pv (TV (pwT s))) := by
 refine PC_of_vc (cx_ok b) (mixed b) {} Tryz.func52 (by kernel_rfl) rfl rfl (by kernel_rfl) ?_
 refine goL ?_
 refine ⟨by show 9 + s.length ≤ _; omega, ?_⟩
 refine goL ?_
 refine ⟨_, CallVC.pr (atom_ok b (pwW ++ s)) rfl rfl, ?_⟩
 refine goL ?_
 exact LEP.refl _
theorem seed_ok (b : Bool) (s : Bs) (hs : s.length ≤ 1000000000) : K b 53 [sv s] (.pv (TV (sdT s))) := by
 refine PC_of_vc (cx_ok b) (mixed b) {} Tryz.func53 (by kernel_rfl) rfl rfl (by kernel_rfl) ?_
 refine goL ?_
 refine ⟨by show 5 + s.length ≤ _; omega, ?_⟩
 refine goL ?_
 refine ⟨_, CallVC.pr (atom_ok b (sdW ++ s)) rfl rfl, ?_⟩
 refine goL ?_
 exact LEP.refl _
def saidP (l : List Tm) (t : Tm) : List Tm := if isNoneB t = true then l else l ++ [t]
def saidT (W : Wo) (t : Tm) : Wo := { W with pool := saidP W.pool t }
theorem number_ok1 (W : Wo) (c : Cln) (hc : W.cs = [c]) (h0 : 0 ≤ W.n) (h1 : W.n < 1000000000000) : PM (cx true) 59 (woQ W) [.ptr 2000 0] (woQ { W with n := W.n + 1 }) (sv (Lib.itoa (W.n + 1))) := by
 obtain ⟨k, cs, names, pool, given, told, bad, lost, now, n⟩ := W
 simp only at hc h0 h1
 subst hc
 refine PM_of_vc (cx_ok true) (mixed true) {} Tryz.func59 (by kernel_rfl) rfl rfl (by kernel_rfl) ?_ ?_
 ·rfl
 refine goL ?_
 refine ⟨n + 1, wrapI (k := n + 1) (by omega) (by omega) rfl, ?_⟩
 refine goL ?_
 refine ⟨_, CallVC.pr (itoa_ok true (n + 1) (by omega) (by omega)) rfl rfl, ?_⟩
 refine goL ?_
 exact ⟨gI, ⟨rfl, LE.of rfl⟩, ⟨.inr (.inl rfl), .inr (.inl rfl), .inr (.inl rfl), .inr (.inl rfl), .inr (.inl rfl), .inr (.inl rfl), .inr (.inl rfl), .inr (.inl rfl), .inr (.inl rfl), .inr (.inl rfl), .inr (.inl rfl), .inr (.inl rfl), .inr (.inl rfl), .inr (.inl rfl), trivial⟩, rfl, rfl⟩
theorem is_ok1 (W : Wo) (c : Cln) (hc : W.cs = [c]) (i : Int) : PM (cx true) 57 (woQ W) [.ptr 2000 0, iv i] (woQ W) (.p (.bool (decide (0 ≤ i ∧ i < 1)))) := by
 obtain ⟨k, cs, names, pool, given, told, bad, lost, now, n⟩ := W
 simp only at hc
 subst hc
 refine PM_of_vc (cx_ok true) (mixed true) {} Tryz.func57 (by kernel_rfl) rfl rfl (by kernel_rfl) ?_ ?_
 ·rfl
 refine goL ?_
 refine @bool_rec _ _ _ ?_ ?_ <;> intro h1
 ·refine goL ?_
  exact ⟨gI, ⟨rfl, LE.of (congrArg (fun b => SV.p (.bool b)) (decide_eq_decide.2 ⟨fun h => ⟨of_decide_eq_true h1, h⟩, fun h => h.2⟩))⟩, ⟨.inr (.inl rfl), .inr (.inl rfl), .inr (.inl rfl), .inr (.inl rfl), .inr (.inl rfl), .inr (.inl rfl), .inr (.inl rfl), .inr (.inl rfl), .inr (.inl rfl), .inr (.inl rfl), .inr (.inl rfl), .inr (.inl rfl), .inr (.inl rfl), .inr (.inl rfl), trivial⟩, rfl, rfl⟩
 ·refine goL ?_
  exact ⟨gI, ⟨rfl, LE.of (congrArg (fun b => SV.p (.bool b)) (decide_eq_false fun h => of_decide_eq_false h1 h.1).symm)⟩, ⟨.inr (.inl rfl), .inr (.inl rfl), .inr (.inl rfl), .inr (.inl rfl), .inr (.inl rfl), .inr (.inl rfl), .inr (.inl rfl), .inr (.inl rfl), .inr (.inl rfl), .inr (.inl rfl), .inr (.inl rfl), .inr (.inl rfl), .inr (.inl rfl), .inr (.inl rfl), trivial⟩, rfl, rfl⟩
theorem said_ok1 (W : Wo) (c : Cln) (hc : W.cs = [c]) (t : Tm) (e : Int) (ht : wt t ≤ 1000000000) (hp : W.pool.length ≤ 1000000) : PM (cx true) 60 (woO W) [.ptr 2000 0, tv t, iv e] (woO (saidT W t)) (.tupS [tv t, iv e]) := by
 obtain ⟨k, cs, names, pool, given, told, bad, lost, now, n⟩ := W
 simp only at hc hp
 subst hc
 have hn := isnone_ok true t (wt_fit _ ht)
 unfold saidT saidP
 cases hb : isNoneB t with
 | true =>
  rw [show (unpackT noneW 0 t).isSome = true from hb] at hn
  rw [if_pos rfl]
  refine PM_of_vc (cx_ok true) (mixed true) {} Tryz.func60 (by kernel_rfl) rfl rfl (by kernel_rfl) ?_ ?_
  ·rfl
  refine goL ?_
  refine ⟨_, CallVC.pr hn rfl rfl, ?_⟩
  refine goL ?_
  exact ⟨gI, ⟨rfl, LE.of rfl, rfl, LE.of rfl, trivial⟩, ⟨.inr (.inl rfl), .inr (.inl rfl), .inr (.inl rfl), .inr (.inl rfl), .inr (.inl rfl), .inr (.inl rfl), .inr (.inl rfl), .inr (.inl rfl), .inr (.inl rfl), .inr (.inl rfl), .inr (.inl rfl), .inr (.inl rfl), .inr (.inl rfl), .inr (.inl rfl), trivial⟩, rfl, rfl⟩
 | false =>
  rw [show (unpackT noneW 0 t).isSome = false from hb] at hn
  rw [if_neg (by decide)]
  have hlt : (tmvs pool).length < (tmvs pool ++ [PV.agg [.int .i64 0, .str [], .nilS]]).length := by simp
  have hset : (tmvs pool ++ [PV.agg [.int .i64 0, .str [], .nilS]]).set (tmvs pool).length (TV t) = tmvs (pool ++ [t]) := by
   rw [List.set_append_right _ _ (Nat.le_refl _), Nat.sub_self, List.set_cons_zero, tmvs1, ← tmvs_append]
  refine PM_of_vc (cx_ok true) (mixed true) { own := fun q => Nat.beq q 18, tr := trT [(2, [0, 1, 3, 7, 0, 15, 0, 127, 255, 511, 255, 1279, 3327], .one 0 (.one 1 (.one 2 (.one 3 (.one 4 (.one 5 (.one 6 (.one 7 (.alt (.one 8 (.alt (.one 9 (.one 10 (.one 11 (.one 12 (.fin))))) (.one 10 (.alt (.one 9 (.one 11 (.one 12 (.fin)))) (.one 11 (.alt (.one 9 (.one 12 (.fin))) (.one 12 (.one 9 (.fin))))))))) (.one 10 (.alt (.one 8 (.alt (.one 9 (.one 11 (.one 12 (.fin)))) (.one 11 (.alt (.one 9 (.one 12 (.fin))) (.one 12 (.one 9 (.fin))))))) (.one 11 (.alt (.one 8 (.alt (.one 9 (.one 12 (.fin))) (.one 12 (.one 9 (.fin))))) (.one 12 (.one 8 (.one 9 (.fin)))))))))))))))))] } Tryz.func60 (by kernel_rfl) rfl rfl (by kernel_rfl) ?_ ?_
  ·rfl
  refine goL ?_
  refine ⟨_, CallVC.pr hn rfl rfl, ?_⟩
  refine goL ?_
  refine ⟨by show ((tmvs pool).length + 1) * 48 ≤ _; rw [tmvs_length]; omega, ?_⟩
  repeat' ((conv => whnf); first | refine IndepAnd (by kernel_rfl) ?_ | refine TreeAnd (by kernel_rfl) ?_ | refine ⟨rfl, ?_⟩ | refine ⟨by decide, ?_⟩ | refine ⟨trivial, ?_⟩ | refine ⟨⟨rfl, trivial⟩, ?_⟩ | refine ⟨Nat.le_of_ble_eq_true rfl, ?_⟩ | refine ⟨⟨_, rfl, rfl⟩, ?_⟩ | refine ⟨⟨rfl, rfl, trivial⟩, ?_⟩ | refine ⟨⟨rfl, rfl, rfl, trivial⟩, ?_⟩ | refine ⟨⟨rfl, rfl, rfl, rfl, trivial⟩, ?_⟩ | refine ⟨⟨rfl, rfl, rfl, rfl, rfl, trivial⟩, ?_⟩ | refine AltAnd ?_ ?_ | refine ⟨Int.natCast_nonneg _, hlt, ?_⟩ | refine ⟨hlt, rfl, rfl, rfl, ?_⟩ | fail)
  all_goals (conv => whnf)
  all_goals exact ⟨gI, ⟨rfl, LE.of rfl, rfl, LE.of rfl, trivial⟩, ⟨.inr (.inl rfl), .inr (.inl rfl), .inr (.inl (congrArg (AO.row 26 3) hset)), .inr (.inl rfl), .inr (.inl rfl), .inr (.inl rfl), .inr (.inl rfl), .inr (.inl rfl), .inr (.inl rfl), .inr (.inl rfl), .inr (.inl rfl), .inr (.inl rfl), .inr (.inl rfl), .inr (.inl rfl), trivial⟩, rfl, rfl⟩
end Go.Sl
namespace Go.Sl
open Go Go.Vc Go.Proofs Go.RowKit
structure BoxW (B : Prop) : Prop where
 un : B
theorem cutW {A B : Prop} (p : B) (h : BoxW B → A) : A := h ⟨p⟩
def asksT (W : Wo) (t : Tm) : Wo × Tm × Int := ({ W with k := (requestT W.k t W.now).1, pool := saidP W.pool (requestT W.k t W.now).2 }, (requestT W.k t W.now).2, 0)
def xW : Bs := [120, 32]
def xT (n : Int) : Tm := atomT (xW ++ Lib.itoa (n + 1))
def wtakesT (W : Wo) (i : Nat) (c : Cln) (t : Tm) : Wo × Tm × Int := ({ W with cs := W.cs.set i (takeT c t W.now (xT W.n)).1, pool := saidP W.pool (takeT c t W.now (xT W.n)).2.1, n := W.n + 1 }, (takeT c t W.now (xT W.n)).2.1, (takeT c t W.now (xT W.n)).2.2)
structure ClOk (c : Cln) : Prop where
 nonce : c.nonce.length ≤ 1000000000
 c0 : 0 ≤ c.ctr
 c1 : c.ctr ≤ 1000000000000
 marks : c.marks.length ≤ 1000000
abbrev gC : Nat → Nat := gn [(2012, 1012), (2014, 1014)]
def trE (ts os : List Nat) : Tr := .keep ts os (.one 20 (.one 21 (.one 22 (.one 23 (.one 24 .fin)))))
set_option maxHeartbeats 2000000 in
theorem asks_ok1 (W : Wo) (c : Cln) (hc : W.cs = [c]) (t : Tm) (ht : wt t ≤ 1000000000) (hk : KdOk W.k) (n0 : -1000000000000 ≤ W.now) (n1 : W.now ≤ 1000000000000) (hr : wt (requestT W.k t W.now).2 ≤ 1000000000) (hp : W.pool.length ≤ 1000000) :
  PM (cx true) 61 (woO W) [.ptr 2000 0, tv t] (woO (asksT W t).1) (.tupS [tv (asksT W t).2.1, iv (asksT W t).2.2]) := by
 obtain ⟨k, cs, names, pool, given, told, bad, lost, now, n⟩ := W
 simp only at hc hk n0 n1 hr hp
 subst hc
 unfold asksT
 simp only
 have hq := request_ok k t now hk ht n0 n1
 revert hq hr
 generalize requestT k t now = r
 obtain ⟨k2, r⟩ := r
 intro hr hq
 have hs := said_ok1 ⟨k2, [c], names, pool, given, told, bad, lost, now, n⟩ c rfl r 0 hr hp
 refine PM_of_vc (cx_ok true) (mixed true) { own := fun q => Nat.beq q 100016 || Nat.beq q 100017, tr := trT [(1, [0, 0, 2, 6, 14, 0, 0, 64, 192, 448, 1022, 2047, 4095, 4095, 16383, 32767], .pin 0 (.one 1 (.one 2 (.one 3 (.one 4 (.one 5 (.one 6 (.one 7 (.one 8 (.one 9 (.one 10 (.keep [4, 5, 6, 16] [4, 2000, 2001, 1001, 2006, 1003, 2005, 2010, 2011, 2013, 1012, 1014, 1010, 2020, 1020] (.one 11 (.one 12 (.one 13 (.one 14 (.one 15 (.fin))))))))))))))))))] } Tryz.func61 (by kernel_rfl) rfl rfl (by kernel_rfl) ?_ ?_
 ·rfl
 refine goL ?_
 refine ⟨_, MCallVC.pr gC hq ⟨LE.of rfl, LE.of rfl, LE.of rfl, trivial⟩ (by (conv => whnf); exact ⟨.inr (.inl rfl), .inr (.inl rfl), .inr (.inl rfl), .inr (.inl rfl), .inr (.inl rfl), .inr (.inl rfl), trivial⟩) rfl, ?_⟩
 refine goL ?_
 refine ⟨_, MCallVC.pr gI hs ⟨LE.of rfl, LE.of rfl, LE.of rfl, trivial⟩ (by (conv => whnf); exact ⟨.inr (.inl rfl), .inr (.inl rfl), .inr (.inl rfl), .inr (.inl rfl), .inr (.inl rfl), .inr (.inl rfl), .inr (.inl rfl), .inr (.inl rfl), .inr (.inl rfl), .inr (.inl rfl), .inr (.inl rfl), .inr (.inl rfl), .inr (.inl rfl), .inr (.inl rfl), trivial⟩) rfl, ?_⟩
 refine goL ?_
 exact ⟨gI, ⟨rfl, LE.of rfl, rfl, LE.of rfl, trivial⟩, ⟨.inr (.inl rfl), .inr (.inl rfl), .inr (.inl rfl), .inr (.inl rfl), .inr (.inl rfl), .inr (.inl rfl), .inr (.inl rfl), .inr (.inl rfl), .inr (.inl rfl), .inr (.inl rfl), .inr (.inl rfl), .inr (.inl rfl), .inr (.inl rfl), .inr (.inl rfl), trivial⟩, rfl, rfl⟩
set_option maxHeartbeats 4000000 in
theorem takes_ok10 (W : Wo) (c : Cln) (hc : W.cs = [c]) (t : Tm) (ht : wt t ≤ 1000000000) (h0 : 0 ≤ W.n) (h1 : W.n < 1000000000000) (hx : ClOk c) (n0 : -1000000000000 ≤ W.now) (n1 : W.now ≤ 1000000000000) (hr : wt (takeT c t W.now (xT W.n)).2.1 ≤ 1000000000) (hp : W.pool.length ≤ 1000000) :
  PM (cx true) 62 (woO W) [.ptr 2000 0, iv 0, tv t] (woO (wtakesT W 0 c t).1) (.tupS [tv (wtakesT W 0 c t).2.1, iv (wtakesT W 0 c t).2.2]) := by
 obtain ⟨k, cs, names, pool, given, told, bad, lost, now, n⟩ := W
 simp only at hc h0 h1 n0 n1 hr hp
 subst hc
 unfold wtakesT
 simp only
 have hil := itoa_len (n := n + 1) (by omega) (by omega)
 have hn := number_ok1 ⟨k, [c], names, pool, given, told, bad, lost, now, n⟩ c rfl h0 h1
 have hxw : wt (xT n) ≤ 1000000000 := by rw [wt_eq]; show (xW ++ Lib.itoa (n + 1)).length + 0 + 1 ≤ _; rw [List.length_append]; show 2 + _ + 0 + 1 ≤ _; omega
 have hq := take_ok c t now (xT n) ht hxw hx.nonce hx.c0 hx.c1 hx.marks n0 n1
 have hat : K true 49 [sv (xW ++ Lib.itoa (n + 1))] (.pv (TV (xT n))) := atom_ok true _
 revert hq hr hat
 generalize xT n = y
 generalize takeT c t now y = r
 obtain ⟨c2, r, e⟩ := r
 intro hr hq hat
 have hs := said_ok1 ⟨k, [c2], names, pool, given, told, bad, lost, now, n + 1⟩ c2 rfl r e hr hp
 simp only at hn
 have hlen : xW.length + (Lib.itoa (n + 1)).length ≤ 9223372036854775807 := by show 2 + _ ≤ _; omega
 refine PM_of_vc (cx_ok true) (mixed true) { own := fun q => Nat.beq q 100022 || Nat.beq q 700022 || Nat.beq q 900022 || Nat.beq q 100025 || Nat.beq q 100028, tr := trT [(1, [0, 0, 2, 6, 14, 0, 62, 126, 0, 0, 512, 1536, 3584, 0, 8192, 24576, 57344, 131070, 262142, 262142, 1048575, 2097151, 2097151, 8388607, 16777215], .pin 0 (.pin 8 (.one 1 (.one 2 (.one 3 (.one 5 (.one 9 (.one 10 (.one 11 (.one 13 (.alt (.one 4 (.alt (.one 6 (.alt (.one 7 (.alt (.one 12 (.one 14 (.one 15 (.one 16 (.one 17 (.one 18 (.one 19 (trE [0, 6, 7, 8, 26, 27] [6, 2000, 2001, 1001, 2006, 1003, 2005, 2010, 2011, 2013, 1012, 1014, 1010, 2020, 1020])))))))) (.one 14 (.one 12 (.one 15 (.one 16 (.one 17 (.one 18 (.one 19 (trE [0, 6, 7, 8, 26, 27] [6, 2000, 2001, 1001, 2006, 1003, 2005, 2010, 2011, 2013, 1012, 1014, 1010, 2020, 1020])))))))))) (.alt (.one 12 (.alt (.one 7 (.one 14 (.one 15 (.one 16 (.one 17 (.one 18 (.one 19 (trE [0, 6, 7, 8, 26, 27] [6, 2000, 2001, 1001, 2006, 1003, 2005, 2010, 2011, 2013, 1012, 1014, 1010, 2020, 1020])))))))) (.one 14 (.one 7 (.one 15 (.one 16 (.one 17 (.one 18 (.one 19 (trE [0, 6, 7, 8, 26, 27] [6, 2000, 2001, 1001, 2006, 1003, 2005, 2010, 2011, 2013, 1012, 1014, 1010, 2020, 1020])))))))))) (.one 14 (.one 7 (.one 12 (.one 15 (.one 16 (.one 17 (.one 18 (.one 19 (trE [0, 6, 7, 8, 26, 27] [6, 2000, 2001, 1001, 2006, 1003, 2005, 2010, 2011, 2013, 1012, 1014, 1010, 2020, 1020])))))))))))) (.alt (.one 12 (.alt (.one 6 (.alt (.one 7 (.one 14 (.one 15 (.one 16 (.one 17 (.one 18 (.one 19 (trE [0, 6, 7, 8, 26, 27] [6, 2000, 2001, 1001, 2006, 1003, 2005, 2010, 2011, 2013, 1012, 1014, 1010, 2020, 1020])))))))) (.one 14 (.one 7 (.one 15 (.one 16 (.one 17 (.one 18 (.one 19 (trE [0, 6, 7, 8, 26, 27] [6, 2000, 2001, 1001, 2006, 1003, 2005, 2010, 2011, 2013, 1012, 1014, 1010, 2020, 1020])))))))))) (.one 14 (.one 6 (.one 7 (.one 15 (.one 16 (.one 17 (.one 18 (.one 19 (trE [0, 6, 7, 8, 26, 27] [6, 2000, 2001, 1001, 2006, 1003, 2005, 2010, 2011, 2013, 1012, 1014, 1010, 2020, 1020]))))))))))) (.one 14 (.one 6 (.one 7 (.one 12 (.one 15 (.one 16 (.one 17 (.one 18 (.one 19 (trE [0, 6, 7, 8, 26, 27] [6, 2000, 2001, 1001, 2006, 1003, 2005, 2010, 2011, 2013, 1012, 1014, 1010, 2020, 1020]))))))))))))) (.alt (.one 12 (.alt (.one 4 (.alt (.one 6 (.alt (.one 7 (.one 14 (.one 15 (.one 16 (.one 17 (.one 18 (.one 19 (trE [0, 6, 7, 8, 26, 27] [6, 2000, 2001, 1001, 2006, 1003, 2005, 2010, 2011, 2013, 1012, 1014, 1010, 2020, 1020])))))))) (.one 14 (.one 7 (.one 15 (.one 16 (.one 17 (.one 18 (.one 19 (trE [0, 6, 7, 8, 26, 27] [6, 2000, 2001, 1001, 2006, 1003, 2005, 2010, 2011, 2013, 1012, 1014, 1010, 2020, 1020])))))))))) (.one 14 (.one 6 (.one 7 (.one 15 (.one 16 (.one 17 (.one 18 (.one 19 (trE [0, 6, 7, 8, 26, 27] [6, 2000, 2001, 1001, 2006, 1003, 2005, 2010, 2011, 2013, 1012, 1014, 1010, 2020, 1020]))))))))))) (.one 14 (.one 4 (.one 6 (.one 7 (.one 15 (.one 16 (.one 17 (.one 18 (.one 19 (trE [0, 6, 7, 8, 26, 27] [6, 2000, 2001, 1001, 2006, 1003, 2005, 2010, 2011, 2013, 1012, 1014, 1010, 2020, 1020])))))))))))) (.one 14 (.one 4 (.one 6 (.one 7 (.one 12 (.one 15 (.one 16 (.one 17 (.one 18 (.one 19 (trE [0, 6, 7, 8, 26, 27] [6, 2000, 2001, 1001, 2006, 1003, 2005, 2010, 2011, 2013, 1012, 1014, 1010, 2020, 1020])))))))))))))))))))))))] } Tryz.func62 (by kernel_rfl) rfl rfl (by kernel_rfl) ?_ ?_
 ·rfl
 apply @cutW
 case h =>
  intro fin
  repeat' ((conv => whnf); first | refine IndepAnd (by kernel_rfl) ?_ | refine TreeAnd (by kernel_rfl) ?_ | refine ⟨rfl, ?_⟩ | refine ⟨by decide, ?_⟩ | refine ⟨trivial, ?_⟩ | refine ⟨⟨rfl, trivial⟩, ?_⟩ | refine ⟨Nat.le_of_ble_eq_true rfl, ?_⟩ | refine ⟨⟨_, rfl, rfl⟩, ?_⟩ | refine ⟨⟨rfl, rfl, trivial⟩, ?_⟩ | refine ⟨⟨rfl, rfl, rfl, trivial⟩, ?_⟩ | refine ⟨⟨rfl, rfl, rfl, rfl, trivial⟩, ?_⟩ | refine ⟨⟨rfl, rfl, rfl, rfl, rfl, trivial⟩, ?_⟩ | refine AltAnd ?_ ?_ | refine ⟨_, MCallVC0.pr gQ hn ⟨LE.of rfl, trivial⟩ (by (conv => whnf); exact ⟨.inr (.inl rfl), .inr (.inl rfl), .inr (.inl rfl), .inr (.inl rfl), .inr (.inl rfl), .inr (.inl rfl), .inr (.inl rfl), .inr (.inl rfl), .inr (.inl rfl), .inr (.inl rfl), .inr (.inl rfl), .inr (.inl rfl), .inr (.inl rfl), .inr (.inl rfl), trivial⟩) rfl rfl rfl, ?_⟩ | refine ⟨hlen, ?_⟩ | refine ⟨_, CallVC.pr hat rfl rfl, ?_⟩ | refine ⟨_, MCallVC.pr gI hq ⟨LE.of rfl, LE.of rfl, LE.of rfl, LE.of rfl, trivial⟩ (by (conv => whnf); exact ⟨.inr (.inl rfl), .inr (.inl rfl), trivial⟩) rfl, ?_⟩ | fail)
  all_goals (conv => whnf)
  all_goals exact fin.un
 case p =>
  refine ⟨_, MCallVC.pr gI hs ⟨LE.of rfl, LE.of rfl, LE.of rfl, trivial⟩ (by (conv => whnf); exact ⟨.inr (.inl rfl), .inr (.inl rfl), .inr (.inl rfl), .inr (.inl rfl), .inr (.inl rfl), .inr (.inl rfl), .inr (.inl rfl), .inr (.inl rfl), .inr (.inl rfl), .inr (.inl rfl), .inr (.inl rfl), .inr (.inl rfl), .inr (.inl rfl), .inr (.inl rfl), trivial⟩) rfl, ?_⟩
  refine goL ?_
  exact ⟨gI, ⟨rfl, LE.of rfl, rfl, LE.of rfl, trivial⟩, ⟨.inr (.inl rfl), .inr (.inl rfl), .inr (.inl rfl), .inr (.inl rfl), .inr (.inl rfl), .inr (.inl rfl), .inr (.inl rfl), .inr (.inl rfl), .inr (.inl rfl), .inr (.inl rfl), .inr (.inl rfl), .inr (.inl rfl), .inr (.inl rfl), .inr (.inl rfl), trivial⟩, rfl, rfl⟩
end Go.Sl
namespace Go.Sl
open Go Go.Vc Go.Proofs Go.RowKit
def frT (W : Wo) : List Tm := W.given ++ W.pool ++ W.told
structure Stp where
 kind : Int
 who : Int
 pos : Int
 t : Tm
abbrev Stp.pv (s : Stp) : PV := .agg [.int .i64 s.kind, .int .i64 s.who, .int .i64 s.pos, .int .i64 s.t.kind, .str s.t.name, .lst (tmvs s.t.kids)]
noncomputable def mayT (W : Wo) (s : Stp) : Int :=
 if (s.kind = 1 ∨ s.kind = 7 ∨ s.kind = 3 ∨ s.kind = 5) ∧ ¬ (0 ≤ s.who ∧ s.who < (W.cs.length : Int)) then 3 else
 if (s.kind = 2 ∨ s.kind = 3) ∧ ¬ (0 ≤ s.pos ∧ s.pos < (W.pool.length : Int)) then 3 else
 if (s.kind = 4 ∨ s.kind = 5) ∧ ¬ (rightT s.t = true ∧ knT (frT W) s.t = true) then 4 else
 if s.kind < 1 ∨ 9 < s.kind then 1 else 0
end Go.Sl
namespace Go.Sl
open Go Go.Vc Go.Proofs Go.RowKit
theorem may_who {W : Wo} {s : Stp} (h : s.kind = 1 ∨ s.kind = 7 ∨ s.kind = 3 ∨ s.kind = 5) (hw : ¬ (0 ≤ s.who ∧ s.who < (W.cs.length : Int))) : mayT W s = 3 := by
 unfold mayT
 rw [if_pos ⟨h, hw⟩]
theorem may_pos {W : Wo} {s : Stp} (h : s.kind = 2 ∨ s.kind = 3) (hp : ¬ (0 ≤ s.pos ∧ s.pos < (W.pool.length : Int))) : mayT W s = 3 := by
 unfold mayT
 split
 ·rfl
 ·rw [if_pos ⟨h, hp⟩]
theorem may_yes {W : Wo} {s : Stp} (h0 : 1 ≤ s.kind) (h1 : s.kind ≤ 9) (hw : (s.kind = 1 ∨ s.kind = 7 ∨ s.kind = 3 ∨ s.kind = 5) → 0 ≤ s.who ∧ s.who < (W.cs.length : Int)) (hp : (s.kind = 2 ∨ s.kind = 3) → 0 ≤ s.pos ∧ s.pos < (W.pool.length : Int))
  (hk : (s.kind = 4 ∨ s.kind = 5) → rightT s.t = true ∧ knT (frT W) s.t = true) : mayT W s = 0 := by
 unfold mayT
 rw [if_neg (fun hc => hc.2 (hw hc.1)), if_neg (fun hc => hc.2 (hp hc.1)), if_neg (fun hc => hc.2 (hk hc.1)), if_neg (by omega)]
theorem may1_ok1 (W : Wo) (c : Cln) (hc : W.cs = [c]) (who pos : Int) (t : Tm) : PM (cx true) 58 (woQ W) [.ptr 2000 0, .p (Stp.pv ⟨1, who, pos, t⟩)] (woQ W) (iv (mayT W ⟨1, who, pos, t⟩)) := by
 obtain ⟨M, hM⟩ : ∃ M, M = mayT W ⟨1, who, pos, t⟩ := ⟨_, rfl⟩
 rw [← hM]
 have hi := is_ok1 W c hc who
 obtain ⟨k, cs, names, pool, given, told, bad, lost, now, n⟩ := W
 simp only at hc
 subst hc
 by_cases hw : 0 ≤ who ∧ who < 1
 rotate_left
 ·rw [decide_eq_false hw] at hi
  refine PM_of_vc (cx_ok true) (mixed true) { own := fun q => Nat.beq q 100015 || Nat.beq q 100044, tr := trT [(15, [0, 1, 3, 7, 15, 31, 63, 31, 159, 511, 1023, 2047], .one 0 (.one 1 (.one 2 (.one 3 (.one 4 (.one 5 (.alt (.one 6 (.one 7 (.one 8 (.one 9 (.one 10 (.one 11 (.fin))))))) (.one 7 (.alt (.one 6 (.one 8 (.one 9 (.one 10 (.one 11 (.fin)))))) (.one 8 (.one 6 (.one 9 (.one 10 (.one 11 (.fin)))))))))))))))] } Tryz.func58 (by kernel_rfl) rfl rfl (by kernel_rfl) ?_ ?_
  ·rfl
  refine goL ?_
  refine ⟨_, MCallVC.pr gI hi ⟨LE.of rfl, LE.of rfl, trivial⟩ (by (conv => whnf); exact ⟨.inr (.inl rfl), .inr (.inl rfl), .inr (.inl rfl), .inr (.inl rfl), .inr (.inl rfl), .inr (.inl rfl), .inr (.inl rfl), .inr (.inl rfl), .inr (.inl rfl), .inr (.inl rfl), .inr (.inl rfl), .inr (.inl rfl), .inr (.inl rfl), .inr (.inl rfl), trivial⟩) rfl, ?_⟩
  refine goL ?_
  exact ⟨gI, ⟨rfl, LE.of (congrArg iv (show (3 : Int) = M by rw [hM]; exact (may_who (W := ⟨k, [c], names, pool, given, told, bad, lost, now, n⟩) (s := ⟨1, who, pos, t⟩) (by simp) hw).symm))⟩, ⟨.inr (.inl rfl), .inr (.inl rfl), .inr (.inl rfl), .inr (.inl rfl), .inr (.inl rfl), .inr (.inl rfl), .inr (.inl rfl), .inr (.inl rfl), .inr (.inl rfl), .inr (.inl rfl), .inr (.inl rfl), .inr (.inl rfl), .inr (.inl rfl), .inr (.inl rfl), trivial⟩, rfl, rfl⟩
 rw [decide_eq_true hw] at hi
 refine PM_of_vc (cx_ok true) (mixed true) { own := fun q => Nat.beq q 100015 || Nat.beq q 100044, tr := trT [(15, [0, 1, 3, 7, 15, 31, 63, 31, 159, 511, 1023, 2047], .one 0 (.one 1 (.one 2 (.one 3 (.one 4 (.one 5 (.alt (.one 6 (.one 7 (.one 8 (.one 9 (.one 10 (.one 11 (.fin))))))) (.one 7 (.alt (.one 6 (.one 8 (.one 9 (.one 10 (.one 11 (.fin)))))) (.one 8 (.one 6 (.one 9 (.one 10 (.one 11 (.fin)))))))))))))))] } Tryz.func58 (by kernel_rfl) rfl rfl (by kernel_rfl) ?_ ?_
 ·rfl
 refine goL ?_
 refine ⟨_, MCallVC.pr gI hi ⟨LE.of rfl, LE.of rfl, trivial⟩ (by (conv => whnf); exact ⟨.inr (.inl rfl), .inr (.inl rfl), .inr (.inl rfl), .inr (.inl rfl), .inr (.inl rfl), .inr (.inl rfl), .inr (.inl rfl), .inr (.inl rfl), .inr (.inl rfl), .inr (.inl rfl), .inr (.inl rfl), .inr (.inl rfl), .inr (.inl rfl), .inr (.inl rfl), trivial⟩) rfl, ?_⟩
 refine goL ?_
 exact ⟨gI, ⟨rfl, LE.of (congrArg iv (show (0 : Int) = M by rw [hM]; exact (may_yes (W := ⟨k, [c], names, pool, given, told, bad, lost, now, n⟩) (s := ⟨1, who, pos, t⟩) (by decide : (1 : Int) ≤ 1) (by decide : (1 : Int) ≤ 9) (fun h => hw) (fun h => absurd h (by simp)) (fun h => absurd h (by simp))).symm))⟩, ⟨.inr (.inl rfl), .inr (.inl rfl), .inr (.inl rfl), .inr (.inl rfl), .inr (.inl rfl), .inr (.inl rfl), .inr (.inl rfl), .inr (.inl rfl), .inr (.inl rfl), .inr (.inl rfl), .inr (.inl rfl), .inr (.inl rfl), .inr (.inl rfl), .inr (.inl rfl), trivial⟩, rfl, rfl⟩
theorem may2_ok1 (W : Wo) (c : Cln) (hc : W.cs = [c]) (who pos : Int) (t : Tm) : PM (cx true) 58 (woQ W) [.ptr 2000 0, .p (Stp.pv ⟨2, who, pos, t⟩)] (woQ W) (iv (mayT W ⟨2, who, pos, t⟩)) := by
 obtain ⟨M, hM⟩ : ∃ M, M = mayT W ⟨2, who, pos, t⟩ := ⟨_, rfl⟩
 rw [← hM]
 obtain ⟨k, cs, names, pool, given, told, bad, lost, now, n⟩ := W
 simp only at hc
 subst hc
 refine PM_of_vc (cx_ok true) (mixed true) { own := fun q => Nat.beq q 100015 || Nat.beq q 100044, tr := trT [(15, [0, 1, 3, 7, 15, 31, 63, 31, 159, 511, 1023, 2047], .one 0 (.one 1 (.one 2 (.one 3 (.one 4 (.one 5 (.alt (.one 6 (.one 7 (.one 8 (.one 9 (.one 10 (.one 11 (.fin))))))) (.one 7 (.alt (.one 6 (.one 8 (.one 9 (.one 10 (.one 11 (.fin)))))) (.one 8 (.one 6 (.one 9 (.one 10 (.one 11 (.fin)))))))))))))))] } Tryz.func58 (by kernel_rfl) rfl rfl (by kernel_rfl) ?_ ?_
 ·rfl
 refine goL ?_
 refine @bool_rec _ _ _ ?_ ?_ <;> intro h2
 ·refine goL ?_
  exact ⟨gI, ⟨rfl, LE.of (congrArg iv (show (3 : Int) = M by rw [hM]; exact (may_pos (W := ⟨k, [c], names, pool, given, told, bad, lost, now, n⟩) (s := ⟨2, who, pos, t⟩) (by simp) (fun h => by have h1 : (0 : Int) ≤ pos := h.1; have q : pos < 0 := of_decide_eq_true h2; omega)).symm))⟩, ⟨.inr (.inl rfl), .inr (.inl rfl), .inr (.inl rfl), .inr (.inl rfl), .inr (.inl rfl), .inr (.inl rfl), .inr (.inl rfl), .inr (.inl rfl), .inr (.inl rfl), .inr (.inl rfl), .inr (.inl rfl), .inr (.inl rfl), .inr (.inl rfl), .inr (.inl rfl), trivial⟩, rfl, rfl⟩
 refine goL ?_
 refine @bool_rec _ _ _ ?_ ?_ <;> intro h3
 ·refine goL ?_
  exact ⟨gI, ⟨rfl, LE.of (congrArg iv (show (3 : Int) = M by rw [hM]; exact (may_pos (W := ⟨k, [c], names, pool, given, told, bad, lost, now, n⟩) (s := ⟨2, who, pos, t⟩) (by simp) (fun h => by have h1 : pos < ((pool.length : Nat) : Int) := h.2; have q : ((tmvs pool).length : Int) ≤ pos := of_decide_eq_true h3; rw [tmvs_length] at q; omega)).symm))⟩, ⟨.inr (.inl rfl), .inr (.inl rfl), .inr (.inl rfl), .inr (.inl rfl), .inr (.inl rfl), .inr (.inl rfl), .inr (.inl rfl), .inr (.inl rfl), .inr (.inl rfl), .inr (.inl rfl), .inr (.inl rfl), .inr (.inl rfl), .inr (.inl rfl), .inr (.inl rfl), trivial⟩, rfl, rfl⟩
 ·refine goL ?_
  exact ⟨gI, ⟨rfl, LE.of (congrArg iv (show (0 : Int) = M by rw [hM]; exact (may_yes (W := ⟨k, [c], names, pool, given, told, bad, lost, now, n⟩) (s := ⟨2, who, pos, t⟩) (by decide : (1 : Int) ≤ 2) (by decide : (2 : Int) ≤ 9) (fun h => absurd h (by simp)) (fun h => ⟨by have q : ¬ pos < 0 := of_decide_eq_false h2; show (0 : Int) ≤ pos; omega, by have q : ¬ ((tmvs pool).length : Int) ≤ pos := of_decide_eq_false h3; rw [tmvs_length] at q; show pos < ((pool.length : Nat) : Int); omega⟩) (fun h => absurd h (by simp))).symm))⟩, ⟨.inr (.inl rfl), .inr (.inl rfl), .inr (.inl rfl), .inr (.inl rfl), .inr (.inl rfl), .inr (.inl rfl), .inr (.inl rfl), .inr (.inl rfl), .inr (.inl rfl), .inr (.inl rfl), .inr (.inl rfl), .inr (.inl rfl), .inr (.inl rfl), .inr (.inl rfl), trivial⟩, rfl, rfl⟩
theorem may3_ok1 (W : Wo) (c : Cln) (hc : W.cs = [c]) (who pos : Int) (t : Tm) : PM (cx true) 58 (woQ W) [.ptr 2000 0, .p (Stp.pv ⟨3, who, pos, t⟩)] (woQ W) (iv (mayT W ⟨3, who, pos, t⟩)) := by
 obtain ⟨M, hM⟩ : ∃ M, M = mayT W ⟨3, who, pos, t⟩ := ⟨_, rfl⟩
 rw [← hM]
 have hi := is_ok1 W c hc who
 obtain ⟨k, cs, names, pool, given, told, bad, lost, now, n⟩ := W
 simp only at hc
 subst hc
 by_cases hw : 0 ≤ who ∧ who < 1
 rotate_left
 ·rw [decide_eq_false hw] at hi
  refine PM_of_vc (cx_ok true) (mixed true) { own := fun q => Nat.beq q 100015 || Nat.beq q 100044, tr := trT [(15, [0, 1, 3, 7, 15, 31, 63, 31, 159, 511, 1023, 2047], .one 0 (.one 1 (.one 2 (.one 3 (.one 4 (.one 5 (.alt (.one 6 (.one 7 (.one 8 (.one 9 (.one 10 (.one 11 (.fin))))))) (.one 7 (.alt (.one 6 (.one 8 (.one 9 (.one 10 (.one 11 (.fin)))))) (.one 8 (.one 6 (.one 9 (.one 10 (.one 11 (.fin)))))))))))))))] } Tryz.func58 (by kernel_rfl) rfl rfl (by kernel_rfl) ?_ ?_
  ·rfl
  refine goL ?_
  refine ⟨_, MCallVC.pr gI hi ⟨LE.of rfl, LE.of rfl, trivial⟩ (by (conv => whnf); exact ⟨.inr (.inl rfl), .inr (.inl rfl), .inr (.inl rfl), .inr (.inl rfl), .inr (.inl rfl), .inr (.inl rfl), .inr (.inl rfl), .inr (.inl rfl), .inr (.inl rfl), .inr (.inl rfl), .inr (.inl rfl), .inr (.inl rfl), .inr (.inl rfl), .inr (.inl rfl), trivial⟩) rfl, ?_⟩
  refine goL ?_
  exact ⟨gI, ⟨rfl, LE.of (congrArg iv (show (3 : Int) = M by rw [hM]; exact (may_who (W := ⟨k, [c], names, pool, given, told, bad, lost, now, n⟩) (s := ⟨3, who, pos, t⟩) (by simp) hw).symm))⟩, ⟨.inr (.inl rfl), .inr (.inl rfl), .inr (.inl rfl), .inr (.inl rfl), .inr (.inl rfl), .inr (.inl rfl), .inr (.inl rfl), .inr (.inl rfl), .inr (.inl rfl), .inr (.inl rfl), .inr (.inl rfl), .inr (.inl rfl), .inr (.inl rfl), .inr (.inl rfl), trivial⟩, rfl, rfl⟩
 rw [decide_eq_true hw] at hi
 refine PM_of_vc (cx_ok true) (mixed true) { own := fun q => Nat.beq q 100015 || Nat.beq q 100044, tr := trT [(15, [0, 1, 3, 7, 15, 31, 63, 31, 159, 511, 1023, 2047], .one 0 (.one 1 (.one 2 (.one 3 (.one 4 (.one 5 (.alt (.one 6 (.one 7 (.one 8 (.one 9 (.one 10 (.one 11 (.fin))))))) (.one 7 (.alt (.one 6 (.one 8 (.one 9 (.one 10 (.one 11 (.fin)))))) (.one 8 (.one 6 (.one 9 (.one 10 (.one 11 (.fin)))))))))))))))] } Tryz.func58 (by kernel_rfl) rfl rfl (by kernel_rfl) ?_ ?_
 ·rfl
 refine goL ?_
 refine ⟨_, MCallVC.pr gI hi ⟨LE.of rfl, LE.of rfl, trivial⟩ (by (conv => whnf); exact ⟨.inr (.inl rfl), .inr (.inl rfl), .inr (.inl rfl), .inr (.inl rfl), .inr (.inl rfl), .inr (.inl rfl), .inr (.inl rfl), .inr (.inl rfl), .inr (.inl rfl), .inr (.inl rfl), .inr (.inl rfl), .inr (.inl rfl), .inr (.inl rfl), .inr (.inl rfl), trivial⟩) rfl, ?_⟩
 refine goL ?_
 refine @bool_rec _ _ _ ?_ ?_ <;> intro h2
 ·refine goL ?_
  exact ⟨gI, ⟨rfl, LE.of (congrArg iv (show (3 : Int) = M by rw [hM]; exact (may_pos (W := ⟨k, [c], names, pool, given, told, bad, lost, now, n⟩) (s := ⟨3, who, pos, t⟩) (by simp) (fun h => by have h1 : (0 : Int) ≤ pos := h.1; have q : pos < 0 := of_decide_eq_true h2; omega)).symm))⟩, ⟨.inr (.inl rfl), .inr (.inl rfl), .inr (.inl rfl), .inr (.inl rfl), .inr (.inl rfl), .inr (.inl rfl), .inr (.inl rfl), .inr (.inl rfl), .inr (.inl rfl), .inr (.inl rfl), .inr (.inl rfl), .inr (.inl rfl), .inr (.inl rfl), .inr (.inl rfl), trivial⟩, rfl, rfl⟩
 refine goL ?_
 refine @bool_rec _ _ _ ?_ ?_ <;> intro h3
 ·refine goL ?_
  exact ⟨gI, ⟨rfl, LE.of (congrArg iv (show (3 : Int) = M by rw [hM]; exact (may_pos (W := ⟨k, [c], names, pool, given, told, bad, lost, now, n⟩) (s := ⟨3, who, pos, t⟩) (by simp) (fun h => by have h1 : pos < ((pool.length : Nat) : Int) := h.2; have q : ((tmvs pool).length : Int) ≤ pos := of_decide_eq_true h3; rw [tmvs_length] at q; omega)).symm))⟩, ⟨.inr (.inl rfl), .inr (.inl rfl), .inr (.inl rfl), .inr (.inl rfl), .inr (.inl rfl), .inr (.inl rfl), .inr (.inl rfl), .inr (.inl rfl), .inr (.inl rfl), .inr (.inl rfl), .inr (.inl rfl), .inr (.inl rfl), .inr (.inl rfl), .inr (.inl rfl), trivial⟩, rfl, rfl⟩
 ·refine goL ?_
  exact ⟨gI, ⟨rfl, LE.of (congrArg iv (show (0 : Int) = M by rw [hM]; exact (may_yes (W := ⟨k, [c], names, pool, given, told, bad, lost, now, n⟩) (s := ⟨3, who, pos, t⟩) (by decide : (1 : Int) ≤ 3) (by decide : (3 : Int) ≤ 9) (fun h => hw) (fun h => ⟨by have q : ¬ pos < 0 := of_decide_eq_false h2; show (0 : Int) ≤ pos; omega, by have q : ¬ ((tmvs pool).length : Int) ≤ pos := of_decide_eq_false h3; rw [tmvs_length] at q; show pos < ((pool.length : Nat) : Int); omega⟩) (fun h => absurd h (by simp))).symm))⟩, ⟨.inr (.inl rfl), .inr (.inl rfl), .inr (.inl rfl), .inr (.inl rfl), .inr (.inl rfl), .inr (.inl rfl), .inr (.inl rfl), .inr (.inl rfl), .inr (.inl rfl), .inr (.inl rfl), .inr (.inl rfl), .inr (.inl rfl), .inr (.inl rfl), .inr (.inl rfl), trivial⟩, rfl, rfl⟩
end Go.Sl
namespace Go.Sl
open Go Go.Vc Go.Proofs Go.RowKit
def nW : Bs := [110]
def sbW : Bs := [115, 117, 98, 32]
def nT (n : Int) : Bs := nW ++ Lib.itoa (n + 1)
def sbT (n : Int) : Tm := atomT (sbW ++ Lib.itoa (n + 1))
def wstartT (W : Wo) (i : Nat) (c : Cln) : Wo × Tm × Int := ({ W with cs := W.cs.set i (startT c (nT W.n) (sbT W.n)), pool := saidP W.pool (saysT (startT c (nT W.n) (sbT W.n)) noneT noneT), n := W.n + 1 }, saysT (startT c (nT W.n) (sbT W.n)) noneT noneT, 0)
def tickT (W : Wo) (pos : Int) : Wo := { W with now := W.now + (1 + max pos 0 % 8) }
def corruptT (W : Wo) (i : Nat) : Wo := { W with bad := if W.bad.getD i false = true then W.bad else W.bad.set i true, told := if W.bad.getD i false = true then W.told else W.told ++ [pwT (W.names.getD i []), sdT (W.names.getD i [])] }
def loseT (W : Wo) : Wo := { W with lost := true, told := if W.lost = true then W.told else W.told ++ [atomT [104, 111, 115, 116]] }
def restartT (W : Wo) : Wo := { W with k := { W.k with ca := [] } }
theorem doR_ok1 (W : Wo) (c : Cln) (hc : W.cs = [c]) (s : Stp) (M : Int) (hM : M ≠ 0) (hm : PM (cx true) 58 (woQ W) [.ptr 2000 0, .p s.pv] (woQ W) (iv M)) :
  PM (cx true) 24 (woO W) [.ptr 2000 0, .p s.pv] (woO W) (.tupS [tv noneT, iv M]) := by
 obtain ⟨k, cs, names, pool, given, told, bad, lost, now, n⟩ := W
 simp only at hc
 subst hc
 refine PM_of_vc (cx_ok true) (mixed true) { own := fun q => Nat.beq q 100010 || Nat.beq q 100036 || Nat.beq q 100051 || Nat.beq q 100052 || Nat.beq q 100067 || Nat.beq q 100084 || Nat.beq q 100168 || Nat.beq q 139 || Nat.beq q 160 } Tryz.func24 (by kernel_rfl) rfl rfl (by kernel_rfl) ?_ ?_
 ·rfl
 refine goL ?_
 refine ⟨_, MCallVC.pr gQ hm ⟨LE.of rfl, LE.of rfl, trivial⟩ (by (conv => whnf); exact ⟨.inr (.inl rfl), .inr (.inl rfl), .inr (.inl rfl), .inr (.inl rfl), .inr (.inl rfl), .inr (.inl rfl), .inr (.inl rfl), .inr (.inl rfl), .inr (.inl rfl), .inr (.inl rfl), .inr (.inl rfl), .inr (.inl rfl), .inr (.inl rfl), .inr (.inl rfl), trivial⟩) rfl, ?_⟩
 refine goL ?_
 refine @bool_rec _ _ _ ?_ ?_ <;> intro h1
 ·refine goL ?_
  refine ⟨_, CallVC.pr (mnone_ok true) rfl rfl, ?_⟩
  refine goL ?_
  refine ⟨gI, ?_, ?_, ?_, ?_⟩
  ·repeat ((conv => whnf); first | refine ⟨rfl, ?_⟩ | refine ⟨LE.of rfl, ?_⟩)
   trivial
  ·repeat ((conv => whnf); refine ⟨.inr (.inl rfl), ?_⟩)
   trivial
  ·rfl
  ·rfl
 ·exact absurd (by simpa using h1) hM
set_option maxHeartbeats 8000000 in
theorem do1_ok10 (W : Wo) (c : Cln) (hc : W.cs = [c]) (pos : Int) (t : Tm) (hm : PM (cx true) 58 (woQ W) [.ptr 2000 0, .p (Stp.pv ⟨1, 0, pos, t⟩)] (woQ W) (iv 0)) (h0 : 0 ≤ W.n) (h1 : W.n < 1000000000000) (hx : c.name.length ≤ 1000000000) (hr : wt (saysT (startT c (nT W.n) (sbT W.n)) noneT noneT) ≤ 1000000000) (hp : W.pool.length ≤ 1000000) :
  PM (cx true) 24 (woO W) [.ptr 2000 0, .p (Stp.pv ⟨1, 0, pos, t⟩)] (woO (wstartT W 0 c).1) (.tupS [tv (wstartT W 0 c).2.1, iv (wstartT W 0 c).2.2]) := by
 obtain ⟨k, cs, names, pool, given, told, bad, lost, now, n⟩ := W
 simp only at hc hm h0 h1 hr hp
 subst hc
 unfold wstartT
 simp only
 have hil := itoa_len (n := n + 1) (by omega) (by omega)
 have hn := number_ok1 ⟨k, [c], names, pool, given, told, bad, lost, now, n⟩ c rfl h0 h1
 simp only at hn
 have hnl : (nT n).length ≤ 1000000000 := by unfold nT; rw [List.length_append]; show 1 + _ ≤ _; omega
 have hq := start_ok c (nT n) (sbT n) hx hnl
 have hat : K true 49 [sv (sbW ++ Lib.itoa (n + 1))] (.pv (TV (sbT n))) := atom_ok true _
 have hl1 : nW.length + (Lib.itoa (n + 1)).length ≤ 9223372036854775807 := by show 1 + _ ≤ _; omega
 have hl2 : sbW.length + (Lib.itoa (n + 1)).length ≤ 9223372036854775807 := by show 4 + _ ≤ _; omega
 revert hr hq
 generalize startT c (nT n) (sbT n) = c2
 intro hr hq
 have hs := said_ok1 ⟨k, [c2], names, pool, given, told, bad, lost, now, n + 1⟩ c2 rfl (saysT c2 noneT noneT) 0 hr hp
 revert hq hs
 generalize saysT c2 noneT noneT = y
 intro hq hs
 dsimp only [Stp.pv] at hm ⊢
 refine PM_of_vc (cx_ok true) (mixed true) { own := fun q => Nat.beq q 100010 || Nat.beq q 100036 || Nat.beq q 100051 || Nat.beq q 100052 || Nat.beq q 100067 || Nat.beq q 100084 || Nat.beq q 100168 || Nat.beq q 139 || Nat.beq q 160, tr := trT [(15, [0, 0, 2, 6, 14, 0, 32, 126, 254, 0, 512, 0, 2048, 6144, 16382, 32767, 65535, 65535, 262143, 524287], .pin 0 (.one 1 (.one 2 (.one 3 (.one 4 (.one 5 (.one 6 (.one 7 (.one 8 (.one 9 (.one 10 (.one 11 (.one 12 (.one 13 (.one 14 (.keep [4, 5, 37, 51] [4, 2000, 2001, 1001, 2006, 1003, 2005, 2010, 2011, 2013, 1012, 1014, 1010, 2020, 1020] (.one 15 (.one 16 (.one 17 (.one 18 (.one 19 (.fin)))))))))))))))))))))), (23, [0, 1, 3, 7, 0, 16, 48, 112, 0, 256, 1008, 2032, 4080, 0, 8192, 24576, 57344, 0, 131072, 516096, 1040384, 2097136, 15, 0, 16777215, 33554431, 67108863, 4194319, 268435455, 536870911, 33554431, 1107296255, 3254779903], .one 0 (.one 1 (.one 2 (.one 3 (.one 4 (.one 5 (.one 6 (.one 7 (.one 8 (.one 9 (.one 10 (.one 11 (.one 12 (.one 13 (.one 14 (.one 15 (.one 16 (.one 17 (.one 18 (.one 19 (.one 20 (.one 21 (.one 22 (.one 23 (.alt (.one 24 (.one 27 (.one 30 (.one 31 (.alt (.one 25 (.alt (.one 26 (.alt (.one 28 (.alt (.one 29 (.one 32 (.fin))) (.one 32 (.one 29 (.fin))))) (.one 32 (.one 28 (.one 29 (.fin)))))) (.one 32 (.one 26 (.one 28 (.one 29 (.fin))))))) (.one 32 (.one 25 (.one 26 (.one 28 (.one 29 (.fin))))))))))) (.one 27 (.one 24 (.one 30 (.one 31 (.alt (.one 25 (.alt (.one 26 (.alt (.one 28 (.alt (.one 29 (.one 32 (.fin))) (.one 32 (.one 29 (.fin))))) (.one 32 (.one 28 (.one 29 (.fin)))))) (.one 32 (.one 26 (.one 28 (.one 29 (.fin))))))) (.one 32 (.one 25 (.one 26 (.one 28 (.one 29 (.fin)))))))))))))))))))))))))))))))))))), (26, [0, 1, 3, 7, 0, 15, 0, 127, 255, 511, 255, 1279, 3327], .one 0 (.one 1 (.one 2 (.one 3 (.one 4 (.one 5 (.one 6 (.one 7 (.one 10 (.one 11 (.alt (.one 8 (.alt (.one 9 (.one 12 (.fin))) (.one 12 (.one 9 (.fin))))) (.one 12 (.one 8 (.one 9 (.fin)))))))))))))))] } Tryz.func24 (by kernel_rfl) rfl rfl (by kernel_rfl) ?_ ?_
 ·rfl
 refine goL ?_
 refine ⟨_, MCallVC.pr gQ hm ⟨LE.of rfl, LE.of rfl, trivial⟩ (by (conv => whnf); exact ⟨.inr (.inl rfl), .inr (.inl rfl), .inr (.inl rfl), .inr (.inl rfl), .inr (.inl rfl), .inr (.inl rfl), .inr (.inl rfl), .inr (.inl rfl), .inr (.inl rfl), .inr (.inl rfl), .inr (.inl rfl), .inr (.inl rfl), .inr (.inl rfl), .inr (.inl rfl), trivial⟩) rfl, ?_⟩
 refine goL ?_
 refine ⟨_, MCallVC.pr gQ hn ⟨LE.of rfl, trivial⟩ (by (conv => whnf); exact ⟨.inr (.inl rfl), .inr (.inl rfl), .inr (.inl rfl), .inr (.inl rfl), .inr (.inl rfl), .inr (.inl rfl), .inr (.inl rfl), .inr (.inl rfl), .inr (.inl rfl), .inr (.inl rfl), .inr (.inl rfl), .inr (.inl rfl), .inr (.inl rfl), .inr (.inl rfl), trivial⟩) rfl, ?_⟩
 repeat' ((conv => whnf); first | refine IndepAnd (by kernel_rfl) ?_ | refine TreeAnd (by kernel_rfl) ?_ | refine ⟨rfl, ?_⟩ | refine ⟨by decide, ?_⟩ | refine ⟨trivial, ?_⟩ | refine ⟨⟨rfl, trivial⟩, ?_⟩ | refine ⟨Nat.le_of_ble_eq_true rfl, ?_⟩ | refine ⟨⟨_, rfl, rfl⟩, ?_⟩ | refine ⟨⟨rfl, rfl, trivial⟩, ?_⟩ | refine ⟨⟨rfl, rfl, rfl, trivial⟩, ?_⟩ | refine ⟨⟨rfl, rfl, rfl, rfl, trivial⟩, ?_⟩ | refine ⟨⟨rfl, rfl, rfl, rfl, rfl, trivial⟩, ?_⟩ | refine AltAnd ?_ ?_ | refine ⟨hl1, ?_⟩ | refine ⟨hl2, ?_⟩ | refine ⟨_, CallVC.pr hat rfl rfl, ?_⟩ | refine ⟨_, MCallVC.pr gI hq ⟨LE.of rfl, LE.of rfl, LE.of rfl, trivial⟩ (by (conv => whnf); exact ⟨.inr (.inl rfl), .inr (.inl rfl), trivial⟩) rfl, ?_⟩ | refine ⟨_, MCallVC.pr gI hs ⟨LE.of rfl, LE.of rfl, LE.of rfl, trivial⟩ (by (conv => whnf); exact ⟨.inr (.inl rfl), .inr (.inl rfl), .inr (.inl rfl), .inr (.inl rfl), .inr (.inl rfl), .inr (.inl rfl), .inr (.inl rfl), .inr (.inl rfl), .inr (.inl rfl), .inr (.inl rfl), .inr (.inl rfl), .inr (.inl rfl), .inr (.inl rfl), .inr (.inl rfl), trivial⟩) rfl, ?_⟩ | fail)
 all_goals (conv => whnf)
 all_goals
  refine ⟨gI, ?_, ?_, ?_, ?_⟩
  ·repeat ((conv => whnf); first | refine ⟨rfl, ?_⟩ | refine ⟨LE.of rfl, ?_⟩)
   trivial
  ·repeat ((conv => whnf); refine ⟨.inr (.inl rfl), ?_⟩)
   trivial
  ·rfl
  ·rfl
set_option maxHeartbeats 8000000 in
theorem do2_ok1 (W : Wo) (c : Cln) (hc : W.cs = [c]) (who : Int) (pos : Int) (t : Tm) (hm : PM (cx true) 58 (woQ W) [.ptr 2000 0, .p (Stp.pv ⟨2, who, pos, t⟩)] (woQ W) (iv 0)) (ha : PM (cx true) 61 (woO W) [.ptr 2000 0, tv (at_ W.pool pos.toNat)] (woO (asksT W (at_ W.pool pos.toNat)).1) (.tupS [tv (asksT W (at_ W.pool pos.toNat)).2.1, iv (asksT W (at_ W.pool pos.toNat)).2.2])) (p0 : 0 ≤ pos) (p1 : pos.toNat < W.pool.length) :
  PM (cx true) 24 (woO W) [.ptr 2000 0, .p (Stp.pv ⟨2, who, pos, t⟩)] (woO (asksT W (at_ W.pool pos.toNat)).1) (.tupS [tv (asksT W (at_ W.pool pos.toNat)).2.1, iv (asksT W (at_ W.pool pos.toNat)).2.2]) := by
 obtain ⟨k, cs, names, pool, given, told, bad, lost, now, n⟩ := W
 simp only at hc hm ha p1
 subst hc
 revert ha
 unfold asksT
 simp only
 generalize (requestT k _ now).1 = k2
 generalize (requestT k _ now).2 = r
 generalize saidP pool r = pool2
 intro ha
 dsimp only [Stp.pv] at hm ⊢
 refine PM_of_vc (cx_ok true) (mixed true) { own := fun q => Nat.beq q 100010 || Nat.beq q 100036 || Nat.beq q 100051 || Nat.beq q 100052 || Nat.beq q 100067 || Nat.beq q 100084 || Nat.beq q 100168 || Nat.beq q 139 || Nat.beq q 160, tr := trT [(15, [0, 0, 2, 6, 14, 0, 32, 126, 254, 0, 512, 0, 2048, 6144, 16382, 32767, 65535, 65535, 262143, 524287], .pin 0 (.one 1 (.one 2 (.one 3 (.one 4 (.one 5 (.one 6 (.one 7 (.one 8 (.one 9 (.one 10 (.one 11 (.one 12 (.one 13 (.one 14 (.keep [4, 5, 37, 51] [4, 2000, 2001, 1001, 2006, 1003, 2005, 2010, 2011, 2013, 1012, 1014, 1010, 2020, 1020] (.one 15 (.one 16 (.one 17 (.one 18 (.one 19 (.fin)))))))))))))))))))))), (23, [0, 1, 3, 7, 0, 16, 48, 112, 0, 256, 1008, 2032, 4080, 0, 8192, 24576, 57344, 0, 131072, 516096, 1040384, 2097136, 15, 0, 16777215, 33554431, 67108863, 4194319, 268435455, 536870911, 33554431, 1107296255, 3254779903], .one 0 (.one 1 (.one 2 (.one 3 (.one 4 (.one 5 (.one 6 (.one 7 (.one 8 (.one 9 (.one 10 (.one 11 (.one 12 (.one 13 (.one 14 (.one 15 (.one 16 (.one 17 (.one 18 (.one 19 (.one 20 (.one 21 (.one 22 (.one 23 (.alt (.one 24 (.one 27 (.one 30 (.one 31 (.alt (.one 25 (.alt (.one 26 (.alt (.one 28 (.alt (.one 29 (.one 32 (.fin))) (.one 32 (.one 29 (.fin))))) (.one 32 (.one 28 (.one 29 (.fin)))))) (.one 32 (.one 26 (.one 28 (.one 29 (.fin))))))) (.one 32 (.one 25 (.one 26 (.one 28 (.one 29 (.fin))))))))))) (.one 27 (.one 24 (.one 30 (.one 31 (.alt (.one 25 (.alt (.one 26 (.alt (.one 28 (.alt (.one 29 (.one 32 (.fin))) (.one 32 (.one 29 (.fin))))) (.one 32 (.one 28 (.one 29 (.fin)))))) (.one 32 (.one 26 (.one 28 (.one 29 (.fin))))))) (.one 32 (.one 25 (.one 26 (.one 28 (.one 29 (.fin)))))))))))))))))))))))))))))))))))), (26, [0, 1, 3, 7, 0, 15, 0, 127, 255, 511, 255, 1279, 3327], .one 0 (.one 1 (.one 2 (.one 3 (.one 4 (.one 5 (.one 6 (.one 7 (.one 10 (.one 11 (.alt (.one 8 (.alt (.one 9 (.one 12 (.fin))) (.one 12 (.one 9 (.fin))))) (.one 12 (.one 8 (.one 9 (.fin)))))))))))))))] } Tryz.func24 (by kernel_rfl) rfl rfl (by kernel_rfl) ?_ ?_
 ·rfl
 refine goL ?_
 refine ⟨_, MCallVC.pr gQ hm ⟨LE.of rfl, LE.of rfl, trivial⟩ (by (conv => whnf); exact ⟨.inr (.inl rfl), .inr (.inl rfl), .inr (.inl rfl), .inr (.inl rfl), .inr (.inl rfl), .inr (.inl rfl), .inr (.inl rfl), .inr (.inl rfl), .inr (.inl rfl), .inr (.inl rfl), .inr (.inl rfl), .inr (.inl rfl), .inr (.inl rfl), .inr (.inl rfl), trivial⟩) rfl, ?_⟩
 refine goL ?_
 refine ⟨p0, by rw [tmvs_length]; exact p1, ?_⟩
 refine goL ?_
 refine ⟨_, tmvs_at (l := pool) (i := pos.toNat) p1, rfl, rfl, rfl, ?_⟩
 refine goL ?_
 refine ⟨_, MCallVC.pr gI ha ⟨LE.of rfl, LE.of rfl, trivial⟩ (by (conv => whnf); exact ⟨.inr (.inl rfl), .inr (.inl rfl), .inr (.inl rfl), .inr (.inl rfl), .inr (.inl rfl), .inr (.inl rfl), .inr (.inl rfl), .inr (.inl rfl), .inr (.inl rfl), .inr (.inl rfl), .inr (.inl rfl), .inr (.inl rfl), .inr (.inl rfl), .inr (.inl rfl), trivial⟩) rfl, ?_⟩
 refine goL ?_
 refine ⟨gI, ?_, ?_, ?_, ?_⟩
 ·repeat ((conv => whnf); first | refine ⟨rfl, ?_⟩ | refine ⟨LE.of rfl, ?_⟩)
  trivial
 ·repeat ((conv => whnf); refine ⟨.inr (.inl rfl), ?_⟩)
  trivial
 ·rfl
 ·rfl
set_option maxHeartbeats 8000000 in
theorem do3_ok10 (W : Wo) (c : Cln) (hc : W.cs = [c]) (pos : Int) (t : Tm) (hm : PM (cx true) 58 (woQ W) [.ptr 2000 0, .p (Stp.pv ⟨3, 0, pos, t⟩)] (woQ W) (iv 0)) (ha : PM (cx true) 62 (woO W) [.ptr 2000 0, iv 0, tv (at_ W.pool pos.toNat)] (woO (wtakesT W 0 c (at_ W.pool pos.toNat)).1) (.tupS [tv (wtakesT W 0 c (at_ W.pool pos.toNat)).2.1, iv (wtakesT W 0 c (at_ W.pool pos.toNat)).2.2])) (p0 : 0 ≤ pos) (p1 : pos.toNat < W.pool.length) :
  PM (cx true) 24 (woO W) [.ptr 2000 0, .p (Stp.pv ⟨3, 0, pos, t⟩)] (woO (wtakesT W 0 c (at_ W.pool pos.toNat)).1) (.tupS [tv (wtakesT W 0 c (at_ W.pool pos.toNat)).2.1, iv (wtakesT W 0 c (at_ W.pool pos.toNat)).2.2]) := by
 obtain ⟨k, cs, names, pool, given, told, bad, lost, now, n⟩ := W
 simp only at hc hm ha p1
 subst hc
 revert ha
 unfold wtakesT
 simp only
 generalize (takeT c _ now (xT n)).1 = c2
 generalize (takeT c _ now (xT n)).2.1 = r
 generalize (takeT c _ now (xT n)).2.2 = e
 generalize saidP pool r = pool2
 intro ha
 dsimp only [Stp.pv] at hm ⊢
 refine PM_of_vc (cx_ok true) (mixed true) { own := fun q => Nat.beq q 100010 || Nat.beq q 100036 || Nat.beq q 100051 || Nat.beq q 100052 || Nat.beq q 100067 || Nat.beq q 100084 || Nat.beq q 100168 || Nat.beq q 139 || Nat.beq q 160, tr := trT [(15, [0, 0, 2, 6, 14, 0, 32, 126, 254, 0, 512, 0, 2048, 6144, 16382, 32767, 65535, 65535, 262143, 524287], .pin 0 (.one 1 (.one 2 (.one 3 (.one 4 (.one 5 (.one 6 (.one 7 (.one 8 (.one 9 (.one 10 (.one 11 (.one 12 (.one 13 (.one 14 (.keep [4, 5, 37, 51] [4, 2000, 2001, 1001, 2006, 1003, 2005, 2010, 2011, 2013, 1012, 1014, 1010, 2020, 1020] (.one 15 (.one 16 (.one 17 (.one 18 (.one 19 (.fin)))))))))))))))))))))), (23, [0, 1, 3, 7, 0, 16, 48, 112, 0, 256, 1008, 2032, 4080, 0, 8192, 24576, 57344, 0, 131072, 516096, 1040384, 2097136, 15, 0, 16777215, 33554431, 67108863, 4194319, 268435455, 536870911, 33554431, 1107296255, 3254779903], .one 0 (.one 1 (.one 2 (.one 3 (.one 4 (.one 5 (.one 6 (.one 7 (.one 8 (.one 9 (.one 10 (.one 11 (.one 12 (.one 13 (.one 14 (.one 15 (.one 16 (.one 17 (.one 18 (.one 19 (.one 20 (.one 21 (.one 22 (.one 23 (.alt (.one 24 (.one 27 (.one 30 (.one 31 (.alt (.one 25 (.alt (.one 26 (.alt (.one 28 (.alt (.one 29 (.one 32 (.fin))) (.one 32 (.one 29 (.fin))))) (.one 32 (.one 28 (.one 29 (.fin)))))) (.one 32 (.one 26 (.one 28 (.one 29 (.fin))))))) (.one 32 (.one 25 (.one 26 (.one 28 (.one 29 (.fin))))))))))) (.one 27 (.one 24 (.one 30 (.one 31 (.alt (.one 25 (.alt (.one 26 (.alt (.one 28 (.alt (.one 29 (.one 32 (.fin))) (.one 32 (.one 29 (.fin))))) (.one 32 (.one 28 (.one 29 (.fin)))))) (.one 32 (.one 26 (.one 28 (.one 29 (.fin))))))) (.one 32 (.one 25 (.one 26 (.one 28 (.one 29 (.fin)))))))))))))))))))))))))))))))))))), (26, [0, 1, 3, 7, 0, 15, 0, 127, 255, 511, 255, 1279, 3327], .one 0 (.one 1 (.one 2 (.one 3 (.one 4 (.one 5 (.one 6 (.one 7 (.one 10 (.one 11 (.alt (.one 8 (.alt (.one 9 (.one 12 (.fin))) (.one 12 (.one 9 (.fin))))) (.one 12 (.one 8 (.one 9 (.fin)))))))))))))))] } Tryz.func24 (by kernel_rfl) rfl rfl (by kernel_rfl) ?_ ?_
 ·rfl
 refine goL ?_
 refine ⟨_, MCallVC.pr gQ hm ⟨LE.of rfl, LE.of rfl, trivial⟩ (by (conv => whnf); exact ⟨.inr (.inl rfl), .inr (.inl rfl), .inr (.inl rfl), .inr (.inl rfl), .inr (.inl rfl), .inr (.inl rfl), .inr (.inl rfl), .inr (.inl rfl), .inr (.inl rfl), .inr (.inl rfl), .inr (.inl rfl), .inr (.inl rfl), .inr (.inl rfl), .inr (.inl rfl), trivial⟩) rfl, ?_⟩
 refine goL ?_
 refine ⟨p0, by rw [tmvs_length]; exact p1, ?_⟩
 refine goL ?_
 refine ⟨_, tmvs_at (l := pool) (i := pos.toNat) p1, rfl, rfl, rfl, ?_⟩
 refine goL ?_
 refine ⟨_, MCallVC.pr gI ha ⟨LE.of rfl, LE.of rfl, LE.of rfl, trivial⟩ (by (conv => whnf); exact ⟨.inr (.inl rfl), .inr (.inl rfl), .inr (.inl rfl), .inr (.inl rfl), .inr (.inl rfl), .inr (.inl rfl), .inr (.inl rfl), .inr (.inl rfl), .inr (.inl rfl), .inr (.inl rfl), .inr (.inl rfl), .inr (.inl rfl), .inr (.inl rfl), .inr (.inl rfl), trivial⟩) rfl, ?_⟩
 refine goL ?_
 refine ⟨gI, ?_, ?_, ?_, ?_⟩
 ·repeat ((conv => whnf); first | refine ⟨rfl, ?_⟩ | refine ⟨LE.of rfl, ?_⟩)
  trivial
 ·repeat ((conv => whnf); refine ⟨.inr (.inl rfl), ?_⟩)
  trivial
 ·rfl
 ·rfl
end Go.Sl
