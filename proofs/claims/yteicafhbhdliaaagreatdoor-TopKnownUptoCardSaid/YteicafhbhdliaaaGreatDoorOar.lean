/- Part 18 of the proof: Yf Yq Yw. -/
import Derived.Test.YteicafhbhdliaaaGreatDoorOaq
set_option linter.unusedSimpArgs false
set_option linter.unusedVariables false
set_option maxHeartbeats 4000000
namespace Go.Sl
open Go Go.Vc Go.Proofs Go.RowKit
def kyT : Tm := cI [107, 100, 99]
def hoT : Tm := cI [104, 111, 115, 116]
def evT : Tm := cI [101, 118, 105, 108]
def ckT : Tm := cI [99, 111, 111, 107, 105, 101]
def j8 : Tm := iE kyT hoT
def eT (n : Int) : Tm := cI ([101, 32] ++ Lib.itoa n)
def giv : Nat -> List Tm
 | 0 => [iE kyT evT, evT, j8]
 | 1 => [iE kyT evT, evT, j8, eT 1]
 | 2 => [iE kyT evT, evT, j8, eT 1, eT 2]
 | _ => [iE kyT evT, evT, j8, eT 1, eT 2, eT 3]
def usT (nm : Bs) (set : List Bs) : Us := ⟨nm, jp (pwT nm) (oL ++ nm), set, sdT nm, ⟨0, 3, 10, 0, 0, 5⟩, 0⟩
def cfT (nm : Bs) : Cf := ⟨nm, pwT nm, sdT nm, 0, j8, hoT⟩
def Gw : List Bs := [[97], [98]]
def wC (sets : List (List Bs)) (room : Int) : Wo :=
 {k := ⟨kyT, ckT, List.zipWith usT Gw sets, room, [], 0, []⟩, cs := List.zipWith (fun nm _ => jB (cfT nm)) Gw sets, names := List.zipWith (fun nm _ => nm) Gw sets, pool := [], given := giv 3, told := [], bad := sets.map fun _ => false, lost := false, now := 0, n := 0 }
set_option maxHeartbeats 8000000 in
theorem Cq (s0 : List Bs) (room : Int) (hg : qE [usT [97] s0]) (r0 : 0 <= room) (r1 : room <= 64) (l0 : s0.length <= 1000000000) : PM (cx true) 15 [] [.p (.lst [.lst (aC s0)]), iv room] (woO (wC [s0] room)) (.tupS [.ptr 2000 0, iv 0]) := by
 have hk := xC kyT ckT [usT [97] s0] room hg r0 r1;have hky : K true 49 [sv [107, 100, 99]] (.pv (TV kyT)) := bl true _;have hho : K true 49 [sv [104, 111, 115, 116]] (.pv (TV hoT)) := bl true _;have hev : K true 49 [sv [101, 118, 105, 108]] (.pv (TV evT)) := bl true _;have hck : K true 49 [sv [99, 111, 111, 107, 105, 101]] (.pv (TV ckT)) := bl true _;have ht1 : K true 50 [tv kyT, tv hoT] (.pv (TV j8)) := jR true kyT hoT;have ht2 := jR true kyT evT;have he1 : K true 49 [sv ([101, 32] ++ Lib.itoa 1)] (.pv (TV (eT 1))) := bl true _;have hi1 : K true 51 [iv 1] (.pv (.str (Lib.itoa 1))) := cL true 1 (by decide) (by decide);have hl1 : ([101, 32] : Bs).length + (Lib.itoa 1).length <= 9223372036854775807 := by have := bj (n := 1) (by decide) (by decide); show 2 + _ <= _; omega
 have he2 : K true 49 [sv ([101, 32] ++ Lib.itoa 2)] (.pv (TV (eT 2))) := bl true _;have hi2 : K true 51 [iv 2] (.pv (.str (Lib.itoa 2))) := cL true 2 (by decide) (by decide);have hl2 : ([101, 32] : Bs).length + (Lib.itoa 2).length <= 9223372036854775807 := by have := bj (n := 2) (by decide) (by decide); show 2 + _ <= _; omega
 have he3 : K true 49 [sv ([101, 32] ++ Lib.itoa 3)] (.pv (TV (eT 3))) := bl true _;have hi3 : K true 51 [iv 3] (.pv (.str (Lib.itoa 3))) := cL true 3 (by decide) (by decide);have hl3 : ([101, 32] : Bs).length + (Lib.itoa 3).length <= 9223372036854775807 := by have := bj (n := 3) (by decide) (by decide); show 2 + _ <= _; omega
 have hp0 := fk true [97] (by decide);have hs0 := lH true [97] (by decide);have hlg0 := iF true (pwT [97]) [97] (by decide);have hc0 := r9 (cfT [97]) (by decide);have hcl0 := dU true s0 l0;refine pmv { own := oO [12, 34, 40, 57, 80, 96, 400111, 400112, 100110, 100121, 700110], fz := fun r => cond (Nat.beq r 20) [12] (cond (Nat.beq r 24) [80] []), nl := fun r => cond (Nat.beq r 24) [(1520, 36, 1530, 227, 2), (42, 3, 1503, 26, 3), (42, 5, 1505, 26, 3)] [], tr := trT [(5, [0, 1, 3, 0, 0, 24, 0, 0, 248, 511, 1023, 2047], qQ [0, 1, 2, 3, 4, 5, 6, 7, 8, 9, 10, 11] .fin), (9, [0, 1, 3, 7, 0, 16, 48, 112, 240, 15, 0, 2047, 4095, 8191, 4095, 20479, 53247], qQ [0, 1, 2, 3, 4, 5, 6, 7, 8, 9, 10, 11, 14, 15] (.alt (.one 12 (.alt (qQ [13, 16] .fin) (qQ [16, 13] .fin))) (qQ [16, 12, 13] .fin))), (18, [0, 0, 2, 6, 14, 0, 0, 64, 0, 448, 0, 0, 4064, 8160, 16352, 32766, 65535, 131071, 262143], qQ [1, 2, 3, 5, 6, 7, 8, 9, 10, 11, 12] (.alt (.one 0 (.alt (qQ [4, 13, 14, 15, 16, 17, 18] .fin) (qQ [13, 4, 14, 15, 16, 17, 18] .fin))) (.alt (qQ [4, 13, 14] (.alt (qQ [0, 15, 16, 17, 18] .fin) (qQ [15, 0, 16, 17, 18] .fin))) (qQ [13, 4, 14] (.alt (qQ [0, 15, 16, 17, 18] .fin) (qQ [15, 0, 16, 17, 18] .fin))))))] } Tryz.func15 ?_
 refine goL ?_;refine cC hky (goL ?_);refine cC hho (goL ?_);refine cC hev (goL ?_);refine cC ht1 (goL ?_);refine ⟨Int.natCast_nonneg _, goL ?_⟩;refine cC ht2 (goL ?_);refine ⟨Fin 4, fun i => S.of [(0, .p (.lst [.lst (aC s0)])), (1, iv room), (6, .ptr 6 0), (7, .ptr 7 0), (9, .ptr 9 0), (10, .ptr 42 0), (43, iv (match i with | 0 => 0 | 1 => 1 | 2 => 2 | 3 => 3))] [(6, .var true 26 (.p (TV kyT))), (7, .var true 26 (.p (TV hoT))), (9, .var true 26 (.p (TV j8))), (34, .row 4 1 (ni [false])), (40, .row 26 3 (af (giv i.1))), (42, .var true 117 (.mix [.p (.exact (.pointer none)), .p .nilS, .p .nilS, .p .nilS, .slc 40, .p .nilS, .slc 34, bv false, iv 0, iv 0]))], fun i => 4 - i.1, 0, ?_, ?_⟩
 ·exact Ge.go
 intro i
 match i with
 | 0 =>
  refine goL ?_;refine ⟨_, rfl, ?_⟩
  repeat' ((conv => whnf); first | refine sS ?_ | refine aQ ?_ ?_ | refine ⟨_, ar.pr hi1 rfl rfl, ?_⟩ | refine ⟨hl1, ?_⟩ | refine ⟨_, ar.pr he1 rfl rfl, ?_⟩ | refine ⟨_, rfl, ?_⟩ | fail)
  all_goals (conv => whnf)
  all_goals refine ⟨1, ?_, by decide⟩
  all_goals
   exact Ge.go
 | 1 =>
  refine goL ?_;refine ⟨_, rfl, ?_⟩
  repeat' ((conv => whnf); first | refine sS ?_ | refine aQ ?_ ?_ | refine ⟨_, ar.pr hi2 rfl rfl, ?_⟩ | refine ⟨hl2, ?_⟩ | refine ⟨_, ar.pr he2 rfl rfl, ?_⟩ | refine ⟨_, rfl, ?_⟩ | fail)
  all_goals (conv => whnf)
  all_goals refine ⟨2, ?_, by decide⟩
  all_goals
   exact Ge.go
 | 2 =>
  refine goL ?_;refine ⟨_, rfl, ?_⟩
  repeat' ((conv => whnf); first | refine sS ?_ | refine aQ ?_ ?_ | refine ⟨_, ar.pr hi3 rfl rfl, ?_⟩ | refine ⟨hl3, ?_⟩ | refine ⟨_, ar.pr he3 rfl rfl, ?_⟩ | refine ⟨_, rfl, ?_⟩ | fail)
  all_goals (conv => whnf)
  all_goals refine ⟨3, ?_, by decide⟩
  all_goals
   exact Ge.go
 | 3 =>
  refine goL ?_;refine ⟨Fin 2, fun i => S.of [(0, .p (.lst [.lst (aC s0)])), (1, iv room), (6, .ptr 6 0), (7, .ptr 7 0), (9, .ptr 9 0), (10, .ptr 42 0), (12, .slc 12), (62, .p (.lst [.lst (aC s0)])), (63, iv 1), (64, iv (match i with | 0 => 0 | 1 => 1))] (match i with | 0 => [(6, .var true 26 (.p (TV kyT))), (7, .var true 26 (.p (TV hoT))), (9, .var true 26 (.p (TV j8))), (34, .row 4 1 (ni [false])), (40, .row 26 3 (af (giv 3))), (12, .row 31 15 (usL [])), (42, .var true 117 (.mix [.p (.exact (.pointer none)), .p .nilS, .p .nilS, .p .nilS, .slc 40, .p .nilS, .slc 34, bv false, iv 0, iv 0]))] | 1 => [(6, .var true 26 (.p (TV kyT))), (7, .var true 26 (.p (TV hoT))), (9, .var true 26 (.p (TV j8))), (34, .row 4 1 (ni [false])), (40, .row 26 3 (af (giv 3))), (12, .row 31 15 (usL [usT [97] s0])), (42, .var true 117 (.mix [.p (.exact (.pointer none)), .slc 1511, .slc 80, .p .nilS, .slc 40, .p .nilS, .slc 34, bv false, iv 0, iv 0])), (80, .row 9 1 (aC [[97]])), (1511, .rp 37 [.ptr 1520 0]), (1520, .var true 85 (clV (jB (cfT [97])) (.p .nilS)))]), fun i => 2 - i.1, 0, ?_, ?_⟩
  ·exact Ge.go
  intro i
  match i with
  | 0 =>
   refine goL ?_
   repeat' ((conv => whnf); first | refine sS ?_ | refine aQ ?_ ?_ | refine ⟨[97], by decide, ?_⟩ | refine ⟨_, ar.pr hp0 rfl rfl, ?_⟩ | refine ⟨_, ar.pr hlg0 rfl rfl, ?_⟩ | refine ⟨_, ar.pr hcl0 rfl rfl, ?_⟩ | refine ⟨_, ar.pr hs0 rfl rfl, ?_⟩ | refine ⟨_, cH.pr (gn [(2020, 110)]) hc0 ⟨LE.of rfl, trivial⟩ (by (conv => whnf); exact trivial) rfl rfl rfl, ?_⟩ | refine ⟨_, rfl, rfl, rfl, ?_⟩ | refine ⟨_, rfl, ?_⟩ | fail)
   all_goals (conv => whnf)
   all_goals refine ⟨1, ?_, by decide⟩
   all_goals
    refine Ge.ren [(1511, 112), (1520, 110)] rfl rfl ?_ ?_
    ·repeat (conv => whnf); refine ⟨LE.of rfl, ?_⟩
     trivial
    ·repeat (conv => whnf); refine ⟨OLE.of rfl, ?_⟩
     trivial
  | 1 =>
   refine goL ?_;refine cC hck (goL ?_);refine ac.go (gn [(2010, 1540), (2011, 1541), (2013, 1543), (2012, 1542), (2014, 1544), (1010, 1545)]) hk (goL ?_);exact rR (gn [(2000, 42), (2001, 1511), (1001, 1503), (2006, 40), (1003, 1505), (2005, 34), (2010, 1540), (2011, 1541), (2013, 1543), (1012, 1542), (1014, 1544), (1010, 1545), (2020, 1520), (1020, 1530)]) ⟨rfl, LE.of rfl, rfl, LE.of rfl, trivial⟩
set_option maxHeartbeats 8000000 in
theorem Cr (s0 s1 : List Bs) (room : Int) (hg : qE [usT [97] s0, usT [98] s1]) (r0 : 0 <= room) (r1 : room <= 64) (l0 : s0.length <= 1000000000) (l1 : s1.length <= 1000000000) : PM (cx true) 15 [] [.p (.lst [.lst (aC s0), .lst (aC s1)]), iv room] (woO (wC [s0, s1] room)) (.tupS [.ptr 2000 0, iv 0]) := by
 have hk := xC kyT ckT [usT [97] s0, usT [98] s1] room hg r0 r1;have hky : K true 49 [sv [107, 100, 99]] (.pv (TV kyT)) := bl true _;have hho : K true 49 [sv [104, 111, 115, 116]] (.pv (TV hoT)) := bl true _;have hev : K true 49 [sv [101, 118, 105, 108]] (.pv (TV evT)) := bl true _;have hck : K true 49 [sv [99, 111, 111, 107, 105, 101]] (.pv (TV ckT)) := bl true _;have ht1 : K true 50 [tv kyT, tv hoT] (.pv (TV j8)) := jR true kyT hoT;have ht2 := jR true kyT evT;have he1 : K true 49 [sv ([101, 32] ++ Lib.itoa 1)] (.pv (TV (eT 1))) := bl true _;have hi1 : K true 51 [iv 1] (.pv (.str (Lib.itoa 1))) := cL true 1 (by decide) (by decide);have hl1 : ([101, 32] : Bs).length + (Lib.itoa 1).length <= 9223372036854775807 := by have := bj (n := 1) (by decide) (by decide); show 2 + _ <= _; omega
 have he2 : K true 49 [sv ([101, 32] ++ Lib.itoa 2)] (.pv (TV (eT 2))) := bl true _;have hi2 : K true 51 [iv 2] (.pv (.str (Lib.itoa 2))) := cL true 2 (by decide) (by decide);have hl2 : ([101, 32] : Bs).length + (Lib.itoa 2).length <= 9223372036854775807 := by have := bj (n := 2) (by decide) (by decide); show 2 + _ <= _; omega
 have he3 : K true 49 [sv ([101, 32] ++ Lib.itoa 3)] (.pv (TV (eT 3))) := bl true _;have hi3 : K true 51 [iv 3] (.pv (.str (Lib.itoa 3))) := cL true 3 (by decide) (by decide);have hl3 : ([101, 32] : Bs).length + (Lib.itoa 3).length <= 9223372036854775807 := by have := bj (n := 3) (by decide) (by decide); show 2 + _ <= _; omega
 have hp0 := fk true [97] (by decide);have hs0 := lH true [97] (by decide);have hlg0 := iF true (pwT [97]) [97] (by decide);have hc0 := r9 (cfT [97]) (by decide);have hcl0 := dU true s0 l0;have hp1 := fk true [98] (by decide);have hs1 := lH true [98] (by decide);have hlg1 := iF true (pwT [98]) [98] (by decide);have hc1 := r9 (cfT [98]) (by decide);have hcl1 := dU true s1 l1;refine pmv { own := oO [12, 34, 40, 57, 80, 96, 400111, 400112, 100110, 100121, 700110], fz := fun r => cond (Nat.beq r 20) [12] (cond (Nat.beq r 24) [80] []), nl := fun r => cond (Nat.beq r 24) [(1520, 36, 1530, 227, 2), (1521, 36, 1531, 227, 2), (42, 3, 1503, 26, 3), (42, 5, 1505, 26, 3)] [], tr := trT [(5, [0, 1, 3, 0, 0, 24, 0, 0, 248, 511, 1023, 2047], qQ [0, 1, 2, 3, 4, 5, 6, 7, 8, 9, 10, 11] .fin), (9, [0, 1, 3, 7, 0, 16, 48, 112, 240, 15, 0, 2047, 4095, 8191, 4095, 20479, 53247], qQ [0, 1, 2, 3, 4, 5, 6, 7, 8, 9, 10, 11, 14, 15] (.alt (.one 12 (.alt (qQ [13, 16] .fin) (qQ [16, 13] .fin))) (qQ [16, 12, 13] .fin))), (18, [0, 0, 2, 6, 14, 0, 0, 64, 0, 448, 0, 0, 4064, 8160, 16352, 32766, 65535, 131071, 262143], qQ [1, 2, 3, 5, 6, 7, 8, 9, 10, 11, 12] (.alt (.one 0 (.alt (qQ [4, 13, 14, 15, 16, 17, 18] .fin) (qQ [13, 4, 14, 15, 16, 17, 18] .fin))) (.alt (qQ [4, 13, 14] (.alt (qQ [0, 15, 16, 17, 18] .fin) (qQ [15, 0, 16, 17, 18] .fin))) (qQ [13, 4, 14] (.alt (qQ [0, 15, 16, 17, 18] .fin) (qQ [15, 0, 16, 17, 18] .fin))))))] } Tryz.func15 ?_
 refine goL ?_;refine cC hky (goL ?_);refine cC hho (goL ?_);refine cC hev (goL ?_);refine cC ht1 (goL ?_);refine ⟨Int.natCast_nonneg _, goL ?_⟩;refine cC ht2 (goL ?_);refine ⟨Fin 4, fun i => S.of [(0, .p (.lst [.lst (aC s0), .lst (aC s1)])), (1, iv room), (6, .ptr 6 0), (7, .ptr 7 0), (9, .ptr 9 0), (10, .ptr 42 0), (43, iv (match i with | 0 => 0 | 1 => 1 | 2 => 2 | 3 => 3))] [(6, .var true 26 (.p (TV kyT))), (7, .var true 26 (.p (TV hoT))), (9, .var true 26 (.p (TV j8))), (34, .row 4 1 (ni [false, false])), (40, .row 26 3 (af (giv i.1))), (42, .var true 117 (.mix [.p (.exact (.pointer none)), .p .nilS, .p .nilS, .p .nilS, .slc 40, .p .nilS, .slc 34, bv false, iv 0, iv 0]))], fun i => 4 - i.1, 0, ?_, ?_⟩
 ·exact Ge.go
 intro i
 match i with
 | 0 =>
  refine goL ?_;refine ⟨_, rfl, ?_⟩
  repeat' ((conv => whnf); first | refine sS ?_ | refine aQ ?_ ?_ | refine ⟨_, ar.pr hi1 rfl rfl, ?_⟩ | refine ⟨hl1, ?_⟩ | refine ⟨_, ar.pr he1 rfl rfl, ?_⟩ | refine ⟨_, rfl, ?_⟩ | fail)
  all_goals (conv => whnf)
  all_goals refine ⟨1, ?_, by decide⟩
  all_goals
   exact Ge.go
 | 1 =>
  refine goL ?_;refine ⟨_, rfl, ?_⟩
  repeat' ((conv => whnf); first | refine sS ?_ | refine aQ ?_ ?_ | refine ⟨_, ar.pr hi2 rfl rfl, ?_⟩ | refine ⟨hl2, ?_⟩ | refine ⟨_, ar.pr he2 rfl rfl, ?_⟩ | refine ⟨_, rfl, ?_⟩ | fail)
  all_goals (conv => whnf)
  all_goals refine ⟨2, ?_, by decide⟩
  all_goals
   exact Ge.go
 | 2 =>
  refine goL ?_;refine ⟨_, rfl, ?_⟩
  repeat' ((conv => whnf); first | refine sS ?_ | refine aQ ?_ ?_ | refine ⟨_, ar.pr hi3 rfl rfl, ?_⟩ | refine ⟨hl3, ?_⟩ | refine ⟨_, ar.pr he3 rfl rfl, ?_⟩ | refine ⟨_, rfl, ?_⟩ | fail)
  all_goals (conv => whnf)
  all_goals refine ⟨3, ?_, by decide⟩
  all_goals
   exact Ge.go
 | 3 =>
  refine goL ?_;refine ⟨Fin 3, fun i => S.of [(0, .p (.lst [.lst (aC s0), .lst (aC s1)])), (1, iv room), (6, .ptr 6 0), (7, .ptr 7 0), (9, .ptr 9 0), (10, .ptr 42 0), (12, .slc 12), (62, .p (.lst [.lst (aC s0), .lst (aC s1)])), (63, iv 2), (64, iv (match i with | 0 => 0 | 1 => 1 | 2 => 2))] (match i with | 0 => [(6, .var true 26 (.p (TV kyT))), (7, .var true 26 (.p (TV hoT))), (9, .var true 26 (.p (TV j8))), (34, .row 4 1 (ni [false, false])), (40, .row 26 3 (af (giv 3))), (12, .row 31 15 (usL [])), (42, .var true 117 (.mix [.p (.exact (.pointer none)), .p .nilS, .p .nilS, .p .nilS, .slc 40, .p .nilS, .slc 34, bv false, iv 0, iv 0]))] | 1 => [(6, .var true 26 (.p (TV kyT))), (7, .var true 26 (.p (TV hoT))), (9, .var true 26 (.p (TV j8))), (34, .row 4 1 (ni [false, false])), (40, .row 26 3 (af (giv 3))), (12, .row 31 15 (usL [usT [97] s0])), (42, .var true 117 (.mix [.p (.exact (.pointer none)), .slc 1511, .slc 80, .p .nilS, .slc 40, .p .nilS, .slc 34, bv false, iv 0, iv 0])), (80, .row 9 1 (aC [[97]])), (1511, .rp 37 [.ptr 1520 0]), (1520, .var true 85 (clV (jB (cfT [97])) (.p .nilS)))] | 2 => [(6, .var true 26 (.p (TV kyT))), (7, .var true 26 (.p (TV hoT))), (9, .var true 26 (.p (TV j8))), (34, .row 4 1 (ni [false, false])), (40, .row 26 3 (af (giv 3))), (12, .row 31 15 (usL [usT [97] s0, usT [98] s1])), (42, .var true 117 (.mix [.p (.exact (.pointer none)), .slc 1511, .slc 80, .p .nilS, .slc 40, .p .nilS, .slc 34, bv false, iv 0, iv 0])), (80, .row 9 1 (aC [[97], [98]])), (1511, .rp 37 [.ptr 1520 0, .ptr 1521 0]), (1520, .var true 85 (clV (jB (cfT [97])) (.p .nilS))), (1521, .var true 85 (clV (jB (cfT [98])) (.p .nilS)))]), fun i => 3 - i.1, 0, ?_, ?_⟩
  ·exact Ge.go
  intro i
  match i with
  | 0 =>
   refine goL ?_
   repeat' ((conv => whnf); first | refine sS ?_ | refine aQ ?_ ?_ | refine ⟨[97], by decide, ?_⟩ | refine ⟨_, ar.pr hp0 rfl rfl, ?_⟩ | refine ⟨_, ar.pr hlg0 rfl rfl, ?_⟩ | refine ⟨_, ar.pr hcl0 rfl rfl, ?_⟩ | refine ⟨_, ar.pr hs0 rfl rfl, ?_⟩ | refine ⟨_, cH.pr (gn [(2020, 110)]) hc0 ⟨LE.of rfl, trivial⟩ (by (conv => whnf); exact trivial) rfl rfl rfl, ?_⟩ | refine ⟨_, rfl, rfl, rfl, ?_⟩ | refine ⟨_, rfl, ?_⟩ | fail)
   all_goals (conv => whnf)
   all_goals refine ⟨1, ?_, by decide⟩
   all_goals
    refine Ge.ren [(1511, 112), (1520, 110)] rfl rfl ?_ ?_
    ·repeat (conv => whnf); refine ⟨LE.of rfl, ?_⟩
     trivial
    ·repeat (conv => whnf); refine ⟨OLE.of rfl, ?_⟩
     trivial
  | 1 =>
   refine goL ?_
   repeat' ((conv => whnf); first | refine sS ?_ | refine aQ ?_ ?_ | refine ⟨[98], by decide, ?_⟩ | refine ⟨_, ar.pr hp1 rfl rfl, ?_⟩ | refine ⟨_, ar.pr hlg1 rfl rfl, ?_⟩ | refine ⟨_, ar.pr hcl1 rfl rfl, ?_⟩ | refine ⟨_, ar.pr hs1 rfl rfl, ?_⟩ | refine ⟨_, cH.pr (gn [(2020, 110)]) hc1 ⟨LE.of rfl, trivial⟩ (by (conv => whnf); exact trivial) rfl rfl rfl, ?_⟩ | refine ⟨_, rfl, rfl, rfl, ?_⟩ | refine ⟨_, rfl, ?_⟩ | fail)
   all_goals (conv => whnf)
   all_goals refine ⟨2, ?_, by decide⟩
   all_goals
    refine Ge.ren [(1511, 112), (1521, 110)] rfl rfl ?_ ?_
    ·repeat (conv => whnf); refine ⟨LE.of rfl, ?_⟩
     trivial
    ·repeat (conv => whnf); refine ⟨OLE.of rfl, ?_⟩
     trivial
  | 2 =>
   refine goL ?_;refine cC hck (goL ?_);refine ac.go (gn [(2010, 1540), (2011, 1541), (2013, 1543), (2012, 1542), (2014, 1544), (1010, 1545)]) hk (goL ?_);exact rR (gn [(2000, 42), (2001, 1511), (1001, 1503), (2006, 40), (1003, 1505), (2005, 34), (2010, 1540), (2011, 1541), (2013, 1543), (1012, 1542), (1014, 1544), (1010, 1545), (2020, 1520), (1020, 1530), (2030, 1521), (1030, 1531)]) ⟨rfl, LE.of rfl, rfl, LE.of rfl, trivial⟩
end Go.Sl
namespace Go.Sl
open Go Go.Vc Go.Proofs Go.RowKit
def cl0 : Cln := jB ⟨[], aD, aD, 0, aD, aD⟩
noncomputable def doT (W : Wo) (s : Stp) : Wo × Tm × Int :=
 if a8 W s ≠ 0 then (W, aw, a8 W s) else
 if s.kind = 1 then bU W s.who.toNat (W.cs.getD s.who.toNat cl0) else
 if s.kind = 2 then bA W (at_ W.pool s.pos.toNat) else
 if s.kind = 4 then bA W s.t else
 if s.kind = 3 then au W s.who.toNat (W.cs.getD s.who.toNat cl0) (at_ W.pool s.pos.toNat) else
 if s.kind = 5 then au W s.who.toNat (W.cs.getD s.who.toNat cl0) s.t else
 if s.kind = 6 then (pb W s.pos, aw, 0) else
 if s.kind = 7 then (aZ W s.who.toNat, aw, 0) else
 if s.kind = 8 then (gK W, aw, 0) else
 (gj W, aw, 0)
structure dZ (j : Nat) (c : Cln) : Prop where
 on : c.on = true -> G 2 200 4 c.body /\ G 5 600 30 c.wrap /\ G 4 300 10 c.ak
 nonce : c.nonce.length <= 30
 c0 : 0 <= c.ctr
 c1 : c.ctr <= j
 marks : c.marks.length <= j
 name : c.name.length <= 1
 tick : c.tick = j8
 host : c.host = hoT
 key : G 2 200 3 c.key
 seed : G 1 100 1 c.seed
theorem dZ.mono {j j' : Nat} {c : Cln} (h : dZ j c) (hj : j <= j') : dZ j' c :=
 {h with c1 := by have := h.c1; omega, marks := by have := h.marks; omega }
theorem dZ.g {j : Nat} {c : Cln} (h : dZ j c) (hj : j <= 1000000) (hon : c.on = true) : ClG c :=
 {body := (h.on hon).1, wrap := (h.on hon).2.1, ak := (h.on hon).2.2, key := h.key, seed := h.seed, c0 := h.c0, c1 := by have := h.c1; omega }
theorem dZ.ok {j : Nat} {c : Cln} (h : dZ j c) (hj : j <= 1000000) : ED c :=
 {nonce := by have := h.nonce; omega, c0 := h.c0, c1 := by have := h.c1; omega, marks := by have := h.marks; omega }
theorem Fp : G 3 200 8 j8 := by
 have hl : co.length = 4 := rfl;have hk : G 1 10 1 kyT := G.atom (by decide) (Nat.le_refl _) (by decide) (Nat.le_refl _);have hh : G 1 10 1 hoT := G.atom (by decide) (Nat.le_refl _) (by decide) (Nat.le_refl _);exact (G.shut (n := 2) hk (G.pack (d := 1) (tag := co) (by decide) (Nat.le_refl _) (GL.cons hh GL.nil)) (by decide) (by decide)).mono (Nat.le_refl _) (by omega) (by omega)
theorem Gx {n : Int} (h0 : 0 <= n) (h1 : n <= 1000000) : (nT n).length <= 21 := by
 unfold nT nW;have := bj (n := n + 1) (by omega) (by omega);rw [List.length_append];show 1 + _ <= _;omega
theorem HD {n : Int} (h0 : 0 <= n) (h1 : n <= 1000000) : G 1 60 1 (sbT n) := by
 have hl := cB (n := n + 1) (by omega) (by omega);refine G.atom (by unfold sbW; simp) (Nat.le_refl _) ?_ (Nat.le_refl _);unfold sbW;rw [List.length_append];show 4 + _ + 1 <= _;omega
theorem IN {n : Int} (h0 : 0 <= n) (h1 : n <= 1000000) : G 1 100 1 (xT n) := by
 have hl := cB (n := n + 1) (by omega) (by omega);refine G.atom (by unfold xW; simp) (Nat.le_refl _) ?_ (Nat.le_refl _);unfold xW;rw [List.length_append];show 2 + _ + 1 <= _;omega
theorem dZ.start {j : Nat} {c : Cln} (h : dZ j c) {n : Int} (h0 : 0 <= n) (h1 : n <= 1000000) : dZ j (dg c (nT n) (sbT n)) := by
 have hn := Gx h0 h1;have hs := HD h0 h1;have hh : G 1 10 1 hoT := G.atom (by decide) (Nat.le_refl _) (by decide) (Nat.le_refl _);have l1 : m9.length = 4 := rfl;have l2 : dH.length = 5 := rfl;have l3 : cM.length = 4 := rfl;have hname := h.name;refine { h with on := fun _ => ⟨?_, ?_, ?_⟩, nonce := ?_ }
 ·exact (G.pack (d := 1) (tag := m9) (by decide) (Nat.le_refl _) (GL.cons (d9 (c := 61) h.name (Nat.le_refl _)) (GL.cons (d9 (c := 61) hn (Nat.le_refl _)) GL.nil))).mono (Nat.le_refl _) (by omega) (by omega)
 ·show G 5 600 30 (Bk c.tick c.host (sbT n));rw [h.tick, h.host];exact (G.pack (d := 4) (tag := dH) (by decide) (by omega) (GL.cons (Fp.mono (by omega) (Nat.le_refl _) (Nat.le_refl _)) (GL.cons (G.shut (d := 2) (n := 11) (hh.mono (by omega) (Nat.le_refl _) (Nat.le_refl _)) (G.pack (d := 2) (tag := cM) (by decide) (by omega) (GL.cons (hs.mono (by omega) (Nat.le_refl _) (Nat.le_refl _)) GL.nil)) (by decide) (by decide)) GL.nil))).mono (by omega) (by omega) (by omega)
 ·show G 4 300 10 (db (sbT n) c.host mh hY);rw [h.host];exact (G.join hs hh (by decide) (by decide)).mono (Nat.le_refl _) (by omega) (by omega)
 ·show (nT n).length <= 30;omega
theorem dZ.more {j : Nat} {c : Cln} (h : dZ j c) {b : Tm} {m : List (Bs × Bs)} (hm : m.length <= j) : dZ j { c with base := b, done := true, marks := m } :=
 {on := h.on, nonce := h.nonce, c0 := h.c0, c1 := h.c1, marks := hm, name := h.name, tick := h.tick, host := h.host, key := h.key, seed := h.seed }
theorem Cs {c : Cln} {t : Tm} {now : Int} {x : Tm} {j : Nat} (h : dZ j c) : dZ (j + 1) (bz c t now x).1 := by
 have hoff : dZ (j + 1) { c with on := false } := { h.mono (Nat.le_succ j) with on := fun h => by cases h }
 have hd : dZ (j + 1) (dr c (at_ (ba (bn c.ak c.nonce t).1 (bn c.ak c.nonce t).2 cO 2).1 0) now x).1 /\ (dr c (at_ (ba (bn c.ak c.nonce t).1 (bn c.ak c.nonce t).2 cO 2).1 0) now x).1.marks = c.marks := by
  unfold dr;split
  ·exact ⟨h.mono (Nat.le_succ j), rfl⟩
  split
  ·simp only;split
   ·exact ⟨{ h.mono (Nat.le_succ j) with c0 := by have := h.c0; show (0 : Int) <= c.ctr + 1; omega, c1 := by have := h.c1; show c.ctr + 1 <= ((j + 1 : Nat) : Int); omega }, rfl⟩
   ·exact ⟨h.mono (Nat.le_succ j), rfl⟩
  split <;> exact ⟨h.mono (Nat.le_succ j), rfl⟩
 unfold bz;split
 ·exact h.mono (Nat.le_succ j)
 split
 ·exact hoff
 split
 ·unfold nh;split
  ·exact h.mono (Nat.le_succ j)
  split
  ·exact h.mono (Nat.le_succ j)
  split
  ·exact h.mono (Nat.le_succ j)
  simp only;split
  ·exact h.mono (Nat.le_succ j)
  split
  ·exact h.mono (Nat.le_succ j)
  exact { h.mono (Nat.le_succ j) with on := fun h => by cases h }
 split
 ·exact h.mono (Nat.le_succ j)
 simp only;split
 ·exact hd.1
 ·refine dZ.more hd.1 ?_;rw [hd.2, List.length_append, List.length_singleton];have := h.marks;omega
structure dL (j : Nat) (k : Kd) : Prop where
 key : k.key = kyT
 ck : k.cookies = ckT
 few : k.us.length <= 3
 ukey : ∀ u ∈ k.us, G 2 200 3 u.key
 set0 : ∀ u ∈ k.us, 0 < u.set.length
 set3 : ∀ u ∈ k.us, u.set.length <= 3
 words : ∀ u ∈ k.us, ∀ s ∈ u.set, s.length <= 20
 f0 : ∀ u ∈ k.us, 0 <= u.fails
 f1 : ∀ u ∈ k.us, u.fails <= j
 room0 : 0 <= k.room
 room1 : k.room <= 64
 nod : (k.ca.map (·.1)).Nodup
 cal : (k.ca.length : Int) <= k.room
 d0 : 0 <= k.drawn
 d1 : k.drawn <= 2 * j
 iss : k.iss.length <= j
theorem dL.ok {j : Nat} {k : Kd} (h : dL j k) (hj : j <= 10000) : wm k :=
 {key := by rw [h.key]; decide, cookies := by rw [h.ck]; decide, few := by have := h.few; omega, sets := fun u hu => ⟨h.set0 u hu, h.set3 u hu⟩,
  words := fun u hu s hs => by have := h.words u hu s hs; omega, fails := fun u hu => ⟨h.f0 u hu, by have := h.f1 u hu; omega⟩, room0 := h.room0, room1 := h.room1, nod := h.nod,
  cal := by have := h.cal; have := h.room1; omega, d0 := h.d0, d1 := by have := h.d1; omega, iss := by have := h.iss; omega }
theorem dL.g {j : Nat} {k : Kd} (h : dL j k) (hj : j <= 10000) : KdG k :=
 {key := by rw [h.key]; exact G.atom (by decide) (Nat.le_refl _) (by decide) (Nat.le_refl _), ck := by rw [h.ck]; exact G.atom (by decide) (Nat.le_refl _) (by decide) (Nat.le_refl _),
  fits := by rw [h.ck]; exact qK (by decide), ukey := h.ukey, set0 := h.set0, set3 := h.set3, words := h.words, d0 := h.d0, d1 := by have := h.d1; omega }
theorem dL.mono {j j' : Nat} {k : Kd} (h : dL j k) (hj : j <= j') : dL j' k :=
 {h with f1 := fun u hu => by have := h.f1 u hu; omega, d1 := by have := h.d1; omega, iss := by have := h.iss; omega }
theorem Ct {n : Bs} {l : List Us} {g : Int -> Int} {u : Us} (hu : u ∈ setU n l g) : u ∈ l \/ ∃ v ∈ l, u = { v with fails := g v.fails } := by
 unfold setU at hu;split at hu
 ·rename_i h;rcases List.mem_or_eq_of_mem_set hu with hu | rfl
  ·exact .inl hu
  ·exact .inr ⟨_, List.getElem_mem h, rfl⟩
 ·exact .inl hu
theorem zf {n : Bs} {l : List Us} {hits : List Int} {u : Us} (hu : u ∈ (codeU n l hits).1) : u ∈ l \/ ∃ v ∈ l, ∃ t, u = { v with tok := t } := by
 unfold codeU at hu;split at hu
 ·rename_i h;split at hu
  ·exact .inl hu
  ·rcases List.mem_or_eq_of_mem_set hu with hu | rfl
   ·exact .inl hu
   ·exact .inr ⟨_, List.getElem_mem h, _, rfl⟩
 ·exact .inl hu
theorem dL.setU {j : Nat} {k : Kd} (h : dL j k) {n : Bs} {g : Int -> Int} (hg : ∀ x : Int, 0 <= x -> x <= j -> 0 <= g x /\ g x <= ((j + 1 : Nat) : Int)) : dL (j + 1) { k with us := setU n k.us g } := by
 have h' := h.mono (Nat.le_succ j);have key : ∀ {P : Us -> Prop}, (∀ u ∈ k.us, P u) -> (∀ u ∈ k.us, P { u with fails := g u.fails }) -> ∀ u ∈ Go.Sl.setU n k.us g, P u := by
  intro P h1 h2 u hu;rcases Ct hu with hu | ⟨v, hv, rfl⟩
  ·exact h1 u hu
  ·exact h2 v hv
 exact { h' with
  few := by show (Go.Sl.setU n k.us g).length <= 3; rw [uq]; exact h.few
  ukey := key h.ukey h.ukey, set0 := key h.set0 h.set0, set3 := key h.set3 h.set3, words := key (P := fun u => ∀ s ∈ u.set, s.length <= 20) h.words h.words
  f0 := key h.f0 fun u hu => (hg _ (h.f0 u hu) (h.f1 u hu)).1, f1 := key h'.f1 fun u hu => (hg _ (h.f0 u hu) (h.f1 u hu)).2 }
theorem dL.codeU {j : Nat} {k : Kd} (h : dL j k) {n : Bs} {hits : List Int} : dL j { k with us := (codeU n k.us hits).1 } := by
 have key : ∀ {P : Us -> Prop}, (∀ u ∈ k.us, P u) -> (∀ u ∈ k.us, ∀ t, P { u with tok := t }) -> ∀ u ∈ (Go.Sl.codeU n k.us hits).1, P u := by
  intro P h1 h2 u hu;rcases zf hu with hu | ⟨v, hv, t, rfl⟩
  ·exact h1 u hu
  ·exact h2 v hv t
 exact { h with
  few := by show (Go.Sl.codeU n k.us hits).1.length <= 3; rw [qH]; exact h.few
  ukey := key h.ukey fun u hu _ => h.ukey u hu, set0 := key h.set0 fun u hu _ => h.set0 u hu, set3 := key h.set3 fun u hu _ => h.set3 u hu, words := key (P := fun u => ∀ s ∈ u.set, s.length <= 20) h.words fun u hu _ => h.words u hu
  f0 := key h.f0 fun u hu _ => h.f0 u hu, f1 := key h.f1 fun u hu _ => h.f1 u hu }
theorem pc {s : Bs} {u : Int} : ∀ {c : Ca} {v : Int}, lB s c = some v -> (kf s u c).length = c.length /\ (kf s u c).map (·.1) = c.map (·.1)
 | [], v, h => by cases h
 | (k, x) :: r, v, h => by
  unfold lB at h;unfold kf
  by_cases e : s = k
  ·rw [if_pos e];subst e;exact ⟨rfl, rfl⟩
  ·rw [if_neg e] at h ⊢;obtain ⟨h1, h2⟩ := pc (u := u) h;exact ⟨by simp [h1], by simp [h2]⟩
theorem pe {s : Bs} {u : Int} : ∀ {c : Ca}, lB s c = none -> kf s u c = c ++ [(s, u)] /\ s ∉ c.map (·.1)
 | [], h => ⟨rfl, by simp⟩
 | (k, x) :: r, h => by
  unfold lB at h;unfold kf
  by_cases e : s = k
  ·rw [if_pos e] at h; cases h
  ·rw [if_neg e] at h ⊢;obtain ⟨h1, h2⟩ := pe (u := u) h;refine ⟨by rw [h1]; rfl, ?_⟩;simp only [List.map_cons, List.mem_cons, not_or];exact ⟨e, h2⟩
theorem zg {room : Int} {c : Ca} {id : Bs} {til now : Int} (hn : (c.map (·.1)).Nodup) (hl : (c.length : Int) <= room) : ((dV room c id til now).1.map (·.1)).Nodup /\ ((dV room c id til now).1.length : Int) <= room := by
 have hp : ((dK c now).map (·.1)).Nodup /\ ((dK c now).length : Int) <= room := by
  unfold dK;refine ⟨(List.filter_sublist.map _).nodup hn, ?_⟩;have := List.length_filter_le (fun x : Bs × Int => decide (now < x.2)) c;omega
 unfold dV;split
 ·exact ⟨hn, hl⟩
 split
 ·rename_i old e;obtain ⟨h1, h2⟩ := pc (u := max old til) e;rw [h1, h2];exact hp
 ·rename_i e;split
  ·exact hp
  ·rename_i h3;obtain ⟨h1, h2⟩ := pe (u := til) e;rw [h1, List.map_append, List.length_append];refine ⟨List.nodup_append.2 ⟨hp.1, by simp, fun a ha b hb => ?_⟩, ?_⟩
   ·simp only [List.map_cons, List.map_nil, List.mem_singleton] at hb;subst hb
    rintro rfl
    exact h2 ha
   ·have := hp.2;show (((dK c now).length + 1 : Nat) : Int) <= room;omega
theorem dL.ca {j : Nat} {k : Kd} (h : dL j k) {c : Ca} (h1 : (c.map (·.1)).Nodup) (h2 : (c.length : Int) <= k.room) : dL j { k with ca := c } :=
 {h with nod := h1, cal := h2 }
theorem dL.takes {j : Nat} {k : Kd} (h : dL j k) (ta : Ta) : dL (j + 1) (bJ k ta).1 := by
 obtain ⟨c1, c2⟩ := zg (id := aG ta.pd) (til := ta.now + 100 + 1) (now := ta.now) h.nod h.cal;have hs := (h.mono (Nat.le_succ j)).ca c1 c2;unfold bJ;split
 ·exact h.mono (Nat.le_succ j)
 split
 ·exact h.setU fun x h0 h1 => ⟨by omega, by omega⟩
 split
 ·exact h.mono (Nat.le_succ j)
 split
 ·exact hs
 split
 ·exact hs.codeU (n := ta.ck.client) (hits := (aU ta).2.1)
 ·exact hs
theorem dL.offer {j : Nat} {k : Kd} (h : dL j k) (ta : Ta) : dL (j + 1) (fv k ta).1 /\ (fv k ta).1.iss = k.iss := by
 have h' := h.mono (Nat.le_succ j);have hd : dL (j + 1) { k with drawn := k.drawn + 1 } := { h' with d0 := by have := h.d0; show (0 : Int) <= k.drawn + 1; omega, d1 := by have := h.d1; show k.drawn + 1 <= 2 * ((j + 1 : Nat) : Int); omega }
 unfold fv;split
 ·exact ⟨hd, rfl⟩
 split
 ·exact ⟨hd, rfl⟩
 ·exact ⟨h', rfl⟩
theorem dL.ticket {j : Nat} {k : Kd} (h : dL j k) (ta : Ta) : dL (j + 1) (lD k ta) := by
 have hs := h.setU (n := ta.ck.client) (g := fun _ => 0) fun x h0 h1 => ⟨Int.le_refl _, by omega⟩
 exact { hs with
  d0 := by have := h.d0; show (0 : Int) <= k.drawn + 1 + 1; omega
  d1 := by have := h.d1; show k.drawn + 1 + 1 <= 2 * ((j + 1 : Nat) : Int); omega
  iss := by have := h.iss; show (k.iss ++ [_]).length <= j + 1; rw [List.length_append, List.length_singleton]; omega }
theorem Gy {k : Kd} {j : Nat} (hk : dL j k) {m : Tm} {now : Int} {ta : Ta} (hm : lG m) (h : Opd k m now ta) (n0 : -1000000000000 <= now) (n1 : now <= 1000000000000) : TaG k ta /\ G 56 20000000 2000 ta.pd := by
 obtain ⟨sub, host, kept, e1, e2⟩ := h.eq;obtain ⟨g1, g2, g3, g4⟩ := Gu hm e1;refine ⟨{ ak := ?_, ukey := hk.ukey _ h.u, client := by have := h.client; omega, nonce := by have := h.nonce; omega, words := fun s hs => hk.words _ h.u s (h.done s hs), few := by have := h.less; have := hk.set3 _ h.u; omega, n0 := by rw [h.now]; exact n0, n1 := by rw [h.now]; exact n1 }, g4⟩;rw [e2];exact (G.join g1 g2 (by decide) (by decide)).mono (by omega) (by omega) (by omega)
theorem Cu {k : Kd} {ta : Ta} (h : TaG k ta) (hl : ta.ck.done.length < ta.u.set.length) (h3 : ta.u.set.length <= 3) (hw : ∀ s ∈ ta.u.set, s.length <= 20) : TaG k (bE ta) :=
 {ak := h.ak, ukey := h.ukey, client := h.client, nonce := h.nonce, n0 := h.n0, n1 := h.n1
  words := fun s hs => by
   rcases List.mem_append.1 (show s ∈ ta.ck.done ++ [bF ta] from hs) with hs | hs
   ·exact h.words s hs
   ·rw [List.mem_singleton] at hs;subst hs;exact hw _ (qI hl)
  few := by show (ta.ck.done ++ [bF ta]).length <= 3; rw [List.length_append, List.length_singleton]; omega }
theorem TaG.any {k k' : Kd} {ta : Ta} (h : TaG k ta) : TaG k' ta :=
 {ak := h.ak, ukey := h.ukey, client := h.client, nonce := h.nonce, words := h.words, few := h.few, n0 := h.n0, n1 := h.n1 }
theorem sn {k : Kd} {j : Nat} (hk : dL j k) (hj : j <= 1000) {m : Tm} {now : Int} (hm : lG m) (n0 : -1000000000000 <= now) (n1 : now <= 1000000000000) : dL (j + 3) (bg k m now).1 /\ cY (bg k m now).2 := by
 unfold bg;split
 ·exact ⟨hk.mono (by omega), qL (oW k m now)⟩
 rename_i h0;have ho := BS k m now hm.shp hk.set0 (Classical.not_not.1 h0);revert ho;generalize (aK k m now).1 = ta;intro ho;obtain ⟨hg, hpd⟩ := Gy hk hm ho n0 n1;split
 ·exact ⟨(hk.offer ta).1.mono (by omega), o4 (hk.g (by omega)) hg⟩
 split
 ·exact ⟨(hk.takes ta).mono (by omega), qL (oY k ta)⟩
 rename_i h1;obtain ⟨b1, b2⟩ := wx (Classical.not_not.1 h1);have hk' := hk.takes ta;have hd := (Cu hg ho.less (hk.set3 _ ho.u) (hk.words _ ho.u)).any (k' := (bJ k ta).1);split
 ·exact ⟨(hk'.ticket (bE ta)).mono (by omega), uC (hk'.g (by omega)) hd (by rw [b1]; exact BU hg hpd b2)⟩
 ·exact ⟨(hk'.offer (bE ta)).1.mono (by omega), o4 (hk'.g (by omega)) hd⟩
structure aM (N j : Nat) (W : Wo) : Prop where
 len : W.cs.length = N
 cs : ∀ c ∈ W.cs, dZ j c
 k : dL j W.k
 given : W.given = giv 3
 names : ∀ s ∈ W.names, s.length <= 1
 nlen : W.names.length = N
 bad : W.bad.length = N
 told : ∀ t ∈ W.told, G 1 60 1 t
 tlen : W.told.length <= j
 pool : ∀ p ∈ W.pool, cY p
 plen : W.pool.length <= j
 t0 : 0 <= W.now
 t1 : W.now <= 8 * j
 n0 : 0 <= W.n
 n1 : W.n <= j
theorem mG {j : Nat} {l : List Tm} {t : Tm} (h : ∀ p ∈ l, cY p) (hl : l.length <= j) (ht : t = aw \/ cY t) : (∀ p ∈ dW l t, cY p) /\ (dW l t).length <= j + 1 := by
 unfold dW;split
 ·exact ⟨h, by omega⟩
 ·rename_i hn;refine ⟨fun p hp => ?_, by rw [List.length_append, List.length_singleton]; omega⟩;rcases List.mem_append.1 hp with hp | hp
  ·exact h p hp
  ·rw [List.mem_singleton] at hp;subst hp;rcases ht with rfl | ht
   ·exact absurd (by decide) hn
   ·exact ht
theorem aM.mono {N j j' : Nat} {W : Wo} (h : aM N j W) (hj : j <= j') : aM N j' W :=
 {h with cs := fun c hc => (h.cs c hc).mono hj, k := h.k.mono hj, tlen := by have := h.tlen; omega, plen := by have := h.plen; omega, t1 := by have := h.t1; omega, n1 := by have := h.n1; omega }
theorem xL {P : Cln -> Prop} {l : List Cln} {i : Nat} {c : Cln} (h : ∀ c ∈ l, P c) (hc : P c) : ∀ x ∈ l.set i c, P x := fun x hx => by
 rcases List.mem_or_eq_of_mem_set hx with hx | rfl
 ·exact h x hx
 ·exact hc
theorem aM.start {N j : Nat} {W : Wo} (h : aM N j W) (hj : j <= 1000) {i : Nat} {c : Cln} (hc : dZ j c) : aM N (j + 3) (bU W i c).1 := by
 have h3 := h.mono (j' := j + 3) (by omega);have hn0 := h.n0;have hn1 := h.n1;have hs := hc.start (n := W.n) h.n0 (by omega);obtain ⟨p1, p2⟩ := mG h.pool h.plen (.inr (iN (hs.g (by omega) rfl)));exact { h3 with len := by show (W.cs.set i _).length = N; rw [List.length_set]; exact h.len, cs := xL h3.cs (hs.mono (by omega)), pool := p1, plen := Nat.le_trans p2 (by omega), n0 := by show (0 : Int) <= W.n + 1; omega, n1 := by show W.n + 1 <= ((j + 3 : Nat) : Int); omega }
theorem aM.asks {N j : Nat} {W : Wo} (h : aM N j W) (hj : j <= 1000) {t : Tm} (ht : lG t) : aM N (j + 3) (bA W t).1 /\ cY (bg W.k t W.now).2 := by
 have h3 := h.mono (j' := j + 3) (by omega);have t0 := h.t0;have t1 := h.t1;obtain ⟨k1, k2⟩ := sn h.k hj ht (now := W.now) (by omega) (by omega);obtain ⟨p1, p2⟩ := mG h.pool h.plen (.inr k2);exact ⟨{ h3 with k := k1, pool := p1, plen := Nat.le_trans p2 (by omega) }, k2⟩
theorem aM.takes {N j : Nat} {W : Wo} (h : aM N j W) (hj : j <= 1000) {i : Nat} {c : Cln} (hc : dZ j c) {t : Tm} (ht : lG t) : aM N (j + 3) (au W i c t).1 /\ ((bz c t W.now (xT W.n)).2.1 = aw \/ cY (bz c t W.now (xT W.n)).2.1) := by
 have h3 := h.mono (j' := j + 3) (by omega);have t0 := h.t0;have t1 := h.t1;have hn0 := h.n0;have hn1 := h.n1;have hp := y6 (c := c) (fun hon => hc.g (by omega) hon) (IN (n := W.n) h.n0 (by omega)) (now := W.now) (by omega) (by omega) ht;obtain ⟨p1, p2⟩ := mG h.pool h.plen hp;exact ⟨{ h3 with len := by show (W.cs.set i _).length = N; rw [List.length_set]; exact h.len, cs := xL h3.cs ((Cs hc).mono (by omega)), pool := p1, plen := Nat.le_trans p2 (by omega), n0 := by show (0 : Int) <= W.n + 1; omega, n1 := by show W.n + 1 <= ((j + 3 : Nat) : Int); omega }, hp⟩
theorem aM.tick {N j : Nat} {W : Wo} (h : aM N j W) {pos : Int} : aM N (j + 3) (pb W pos) := by
 have h3 := h.mono (j' := j + 3) (by omega);have t0 := h.t0;have t1 := h.t1;have hm0 : 0 <= max pos 0 % 8 := Int.emod_nonneg _ (by decide);have hm8 : max pos 0 % 8 < 8 := Int.emod_lt_of_pos _ (by decide);exact { h3 with t0 := by show (0 : Int) <= W.now + (1 + max pos 0 % 8); omega, t1 := by show W.now + (1 + max pos 0 % 8) <= 8 * ((j + 3 : Nat) : Int); omega }
theorem HE {s : Bs} (h : s.length <= 1) : G 1 60 1 (pwT s) := by
 refine G.atom (by unfold pwW; simp) (Nat.le_refl _) ?_ (Nat.le_refl _);unfold pwW;rw [List.length_append];show 9 + s.length + 1 <= 60;omega
theorem HF {s : Bs} (h : s.length <= 1) : G 1 60 1 (sdT s) := by
 refine G.atom (by unfold sdW; simp) (Nat.le_refl _) ?_ (Nat.le_refl _);unfold sdW;rw [List.length_append];show 5 + s.length + 1 <= 60;omega
theorem uF {N j : Nat} {W : Wo} (h : aM N j W) (i : Nat) : (W.names.getD i []).length <= 1 := by
 rw [List.getD_eq_getElem?_getD];cases e : W.names[i]? with
 | none => exact Nat.zero_le _
 | some s => exact h.names s (List.mem_of_getElem? e)
theorem aM.corrupt {N j : Nat} {W : Wo} (h : aM N j W) {i : Nat} : aM N (j + 3) (aZ W i) := by
 have h3 := h.mono (j' := j + 3) (by omega);have hl := h.tlen;refine { h3 with bad := ?_, told := ?_, tlen := ?_ }
 ·unfold aZ;simp only;split
  ·exact h.bad
  ·rw [List.length_set]; exact h.bad
 ·unfold aZ;simp only;split
  ·exact h.told
  ·intro t ht;rcases List.mem_append.1 ht with ht | ht
   ·exact h.told t ht
   ·rcases List.mem_cons.1 ht with rfl | ht
    ·exact HE (uF h i)
    ·rw [List.mem_singleton] at ht;subst ht;exact HF (uF h i)
 ·unfold aZ;simp only;split
  ·omega
  ·rw [List.length_append];show _ + 2 <= _;omega
theorem aM.lose {N j : Nat} {W : Wo} (h : aM N j W) : aM N (j + 3) (gK W) := by
 have h3 := h.mono (j' := j + 3) (by omega);have hl := h.tlen;refine { h3 with told := ?_, tlen := ?_ }
 ·unfold gK;simp only;split
  ·exact h.told
  ·intro t ht;rcases List.mem_append.1 ht with ht | ht
   ·exact h.told t ht
   ·rw [List.mem_singleton] at ht;subst ht;exact G.atom (by decide) (Nat.le_refl _) (by decide) (Nat.le_refl _)
 ·unfold gK;simp only;split
  ·omega
  ·rw [List.length_append];show _ + 1 <= _;omega
theorem aM.restart {N j : Nat} {W : Wo} (h : aM N j W) : aM N (j + 3) (gj W) := by
 have h3 := h.mono (j' := j + 3) (by omega);exact { h3 with k := h3.k.ca (c := []) List.nodup_nil (by have := h.k.room0; show (0 : Int) <= _; exact this) }
theorem Cv : ∀ t ∈ giv 3, G 5 300 20 t := by
 have hl : co.length = 4 := rfl;have hk : G 1 10 1 kyT := G.atom (by decide) (Nat.le_refl _) (by decide) (Nat.le_refl _);have hv : G 1 10 1 evT := G.atom (by decide) (Nat.le_refl _) (by decide) (Nat.le_refl _);have he : ∀ n : Int, 0 <= n -> n <= 10 -> G 1 60 1 (eT n) := fun n h0 h1 => by
  have hi := cB (n := n) (by omega) (by omega);refine G.atom (by simp) (Nat.le_refl _) ?_ (Nat.le_refl _);rw [List.length_append];show 2 + _ + 1 <= _;omega
 have htv : G 3 200 8 (iE kyT evT) := (G.shut (n := 2) hk (G.pack (d := 1) (tag := co) (by decide) (Nat.le_refl _) (GL.cons hv GL.nil)) (by decide) (by decide)).mono (Nat.le_refl _) (by omega) (by omega);intro t ht;simp only [giv, List.mem_cons, List.not_mem_nil, or_false] at ht;rcases ht with rfl | rfl | rfl | rfl | rfl | rfl
 ·exact htv.mono (by omega) (by omega) (by omega)
 ·exact hv.mono (by omega) (by omega) (by omega)
 ·exact Fp.mono (by omega) (by omega) (by omega)
 ·exact (he 1 (by decide) (by decide)).mono (by omega) (by omega) (by omega)
 ·exact (he 2 (by decide) (by decide)).mono (by omega) (by omega) (by omega)
 ·exact (he 3 (by decide) (by decide)).mono (by omega) (by omega) (by omega)
theorem lJ {n : Nat} : ∀ {l : List Tm}, (∀ t ∈ l, t.size <= n) -> Tm.sizes l <= l.length * n
 | [], _ => Nat.zero_le _
 | t :: l, h => by
  have h1 := h t (List.mem_cons_self ..);have h2 := lJ (l := l) fun u hu => h u (List.mem_cons_of_mem _ hu)
  rw [List.length_cons, Nat.succ_mul];simp only [Tm.sizes];omega
theorem aM.frame {N j : Nat} {W : Wo} (h : aM N j W) (hj : j <= 300) : EE (frT W) := by
 have hp : W.pool.length <= 300 := Nat.le_trans h.plen hj;have hg := h.given;have hm : ∀ t ∈ frT W, (t ∈ giv 3 \/ t ∈ W.pool) \/ t ∈ W.told := fun t ht => by
  unfold frT at ht;rw [hg] at ht;rcases List.mem_append.1 ht with ht | ht
  ·exact .inl (List.mem_append.1 ht)
  ·exact .inr ht
 refine ⟨fun t ht => ?_, ?_, fun t ht => ?_⟩
 ·rcases hm t ht with (ht | ht) | ht
  ·have := (Cv t ht).wt; omega
  ·have := (h.pool t ht).g.wt; omega
  ·have := (h.told t ht).wt; omega
 ·unfold frT;rw [hg, Tm.sizes_append, Tm.sizes_append];have h1 := lJ (l := giv 3) fun t ht => (Cv t ht).sz
  have h2 := lJ (l := W.pool) fun t ht => (h.pool t ht).g.sz
  have h3 := lJ (l := W.told) fun t ht => (h.told t ht).sz
  have h4 := h.tlen;have h5 : W.pool.length * 10000 <= 300 * 10000 := Nat.mul_le_mul_right _ hp;have h6 : (giv 3).length = 6 := rfl;rw [h6] at h1;omega
 ·rcases hm t ht with (ht | ht) | ht
  ·have := (Cv t ht).sz; omega
  ·have := (h.pool t ht).g.sz; omega
  ·have := (h.told t ht).sz; omega
end Go.Sl
namespace Go.Sl
open Go Go.Vc Go.Proofs Go.RowKit
def ins (x : Int) : List Int -> List Int
 | [] => [x]
 | y :: l => if x <= y then x :: y :: l else y :: ins x l
def uG : List Int -> List Int
 | [] => []
 | x :: l => ins x (uG l)
theorem pf (x : Int) : ∀ l : List Int, (ins x l).Perm (x :: l)
 | [] => List.Perm.refl _
 | y :: l => by
  unfold ins;split
  ·exact List.Perm.refl _
  ·exact ((pf x l).cons y).trans (List.Perm.swap _ _ _)
theorem pg : ∀ l : List Int, (uG l).Perm l
 | [] => List.Perm.refl _
 | x :: l => (pf x _).trans ((pg l).cons x)
theorem ph (x : Int) : ∀ {l : List Int}, l.Pairwise (· <= ·) -> (ins x l).Pairwise (· <= ·)
 | [], _ => by unfold ins; simp
 | y :: l, h => by
  unfold ins;rw [List.pairwise_cons] at h;split
  ·rename_i hxy;rw [List.pairwise_cons, List.pairwise_cons];refine ⟨fun z hz => ?_, h⟩;rcases List.mem_cons.1 hz with rfl | hz
   ·exact hxy
   ·have := h.1 z hz; omega
  ·rename_i hxy;rw [List.pairwise_cons];refine ⟨fun z hz => ?_, ph x h.2⟩;rcases List.mem_cons.1 ((pf x l).mem_iff.1 hz) with rfl | hz
   ·omega
   ·exact h.1 z hz
theorem lK : ∀ l : List Int, (uG l).Pairwise (· <= ·)
 | [] => List.Pairwise.nil
 | x :: l => ph x (lK l)
theorem uH (zs : List Int) : iU zs = uG zs := by
 refine List.Perm.eq_of_pairwise (le := fun a b : Int => a <= b) (fun a b _ _ h1 h2 => by omega) ?_ (lK zs) ((List.mergeSort_perm zs _).trans (pg zs).symm);have := List.pairwise_mergeSort (le := fun x y : Int => decide (x <= y)) (fun a b c h1 h2 => by simp at h1 h2 ⊢; omega) (fun a b => by simp; omega) zs;exact this.imp fun h => by simpa using h
def pi (ak nonce p seed : Tm) (t : Tok) : List Int × Int :=
 match ao cW 1 p with
 | none => ([], 2)
 | some l =>
  if (aI ak 45 (at_ l 0)).2 = 0 then
   (match ao lp 2 (aI ak 45 (at_ l 0)).1 with
   | none => ([], 2)
   | some r => if at_ r 0 = nonce then (if cp t = true then ((Lib.compact (uG (iJ t))).filter fun c => decide (at_ r 1 = er seed kB c), 0) else ([], 0)) else ([], 6))
  else ([], (aI ak 45 (at_ l 0)).2)
theorem EK : jx = pi := by
 funext ak nonce p seed t
 unfold jx pi xw;simp only [uH];rfl
def cE (h : Tm -> Tm -> Tm -> Tm -> Tok -> List Int × Int) (t : Ta) : Tm × List Int × Int :=
 if bF t = cW then (er t.ak mg 46, (h t.ak t.ck.secret t.pd t.u.seed t.u.tok).1, (h t.ak t.ck.secret t.pd t.u.seed t.u.tok).2) else
 if bF t = spW then ((bx t.u.key t.body t.ck.secret t.pd).1, [], (bx t.u.key t.body t.ck.secret t.pd).2) else
 (t.u.key, [], eJ t.ak t.u.key t.body t.pd t.now)
def kE (h : Tm -> Tm -> Tm -> Tm -> Tok -> List Int × Int) (k : Kd) (t : Ta) : Kd × Tm × List Int × Int :=
 if fq t.pd ≠ bF t \/ (bF t ≠ chW /\ b7 t.ck.secret = true) then (k, aD, [], 11) else
 if (cE h t).2.2 = 6 then ({ k with us := setU t.ck.client k.us (· + 1) }, (cE h t).1, (cE h t).2.1, 6) else
 if (cE h t).2.2 ≠ 0 then (k, (cE h t).1, (cE h t).2.1, (cE h t).2.2) else
 if (dV k.room k.ca (aG t.pd) (t.now + 100 + 1) t.now).2 ≠ 0 then ({ k with ca := (dV k.room k.ca (aG t.pd) (t.now + 100 + 1) t.now).1 }, (cE h t).1, (cE h t).2.1, (dV k.room k.ca (aG t.pd) (t.now + 100 + 1) t.now).2) else
 if bF t = cW then ({ k with ca := (dV k.room k.ca (aG t.pd) (t.now + 100 + 1) t.now).1, us := (codeU t.ck.client k.us (cE h t).2.1).1 }, (cE h t).1, (cE h t).2.1, (codeU t.ck.client k.us (cE h t).2.1).2.2) else
 ({ k with ca := (dV k.room k.ca (aG t.pd) (t.now + 100 + 1) t.now).1 }, (cE h t).1, (cE h t).2.1, 0)
def pj (h : Tm -> Tm -> Tm -> Tm -> Tok -> List Int × Int) (k : Kd) (m : Tm) (now : Int) : Kd × Tm :=
 if (aK k m now).2 ≠ 0 then (k, tU (aK k m now).2) else
 if b7 (aK k m now).1.pd = true then fv k (aK k m now).1 else
 if (kE h k (aK k m now).1).2.2.2 ≠ 0 then ((kE h k (aK k m now).1).1, tU (kE h k (aK k m now).1).2.2.2) else
 if (bE (aK k m now).1).ck.done.length = (bE (aK k m now).1).u.set.length then (lD (kE h k (aK k m now).1).1 (bE (aK k m now).1), jZ (kE h k (aK k m now).1).1 (bE (aK k m now).1) (kE h k (aK k m now).1).2.1) else
 fv (kE h k (aK k m now).1).1 (bE (aK k m now).1)
theorem zh (k : Kd) (m : Tm) (now : Int) : bg k m now = pj pi k m now := by
 rw [<- EK];rfl
def mH (W : Wo) (t : Tm) : Wo := { W with k := (pj pi W.k t W.now).1, pool := dW W.pool (pj pi W.k t W.now).2 }
theorem Gz (W : Wo) (t : Tm) : (bA W t).1 = mH W t := by
 unfold bA mH;rw [zh]
def wk0 : Wo := wC [[spW, cW]] 8
def wk1 : Wo := (bU wk0 0 (wk0.cs.getD 0 cl0)).1
def wk2 : Wo := mH wk1 (at_ wk1.pool 0)
def wk3 : Wo := (au wk2 0 (wk2.cs.getD 0 cl0) (at_ wk2.pool 1)).1
def wk4 : Wo := mH wk3 (at_ wk3.pool 2)
def wk5 : Wo := (au wk4 0 (wk4.cs.getD 0 cl0) (at_ wk4.pool 3)).1
def wk6 : Wo := mH wk5 (at_ wk5.pool 4)
def wk7 : Wo := (au wk6 0 (wk6.cs.getD 0 cl0) (at_ wk6.pool 5)).1
def wkB : Bool := (o1 (wk7.cs.getD 0 cl0)).2.2 && (decide (wk7.k.iss.length = 1) && (decide (wk1.pool.length = 1) && (decide (wk2.pool.length = 2) && (decide (wk3.pool.length = 3) && (decide (wk4.pool.length = 4) && (decide (wk5.pool.length = 5) && decide (wk6.pool.length = 6)))))))
theorem EL : wkB = true := by decide +kernel
end Go.Sl
