/- The statement TopTickets, without a condition: a ticket of one KDC is none of another one's. Part 16: Yf Yq Yw Yr Ba. -/
import Derived.Test.YteicafhbhdliaaaGreatDoorPao
import Derived.Test.YteicafhbhdliaaaGreatDoorProg
import Derived.Test.YteicafhbhdliaaaGreatDoorSh
import Derived.KernelRfl
import Derived.Lib.LaidTab
import Derived.Lib.ItoaNum
set_option linter.unusedSimpArgs false
set_option linter.unusedVariables false
set_option maxHeartbeats 4000000
namespace Go.Sl
open Go Go.Vc Go.Proofs Go.RowKit
def kyT : Tm := atomT [107, 100, 99]
def hoT : Tm := atomT [104, 111, 115, 116]
def evT : Tm := atomT [101, 118, 105, 108]
def ckT : Tm := atomT [99, 111, 111, 107, 105, 101]
def tktT : Tm := ticketT kyT hoT
def eT (n : Int) : Tm := atomT ([101, 32] ++ Lib.itoa n)
def giv : Nat → List Tm
 | 0 => [ticketT kyT evT, evT, tktT]
 | 1 => [ticketT kyT evT, evT, tktT, eT 1]
 | 2 => [ticketT kyT evT, evT, tktT, eT 1, eT 2]
 | _ => [ticketT kyT evT, evT, tktT, eT 1, eT 2, eT 3]
def usT (nm : Bs) (set : List Bs) : Us := ⟨nm, kdfT (pwT nm) (longW ++ nm), set, sdT nm, ⟨0, 3, 10, 0, 0, 5⟩, 0⟩
def cfT (nm : Bs) : Cf := ⟨nm, pwT nm, sdT nm, 0, tktT, hoT⟩
def nmsT : List Bs := [[97], [98]]
def newW (sets : List (List Bs)) (room : Int) : Wo :=
 {k := ⟨kyT, ckT, List.zipWith usT nmsT sets, room, [], 0, []⟩, cs := List.zipWith (fun nm _ => newCl (cfT nm)) nmsT sets, names := List.zipWith (fun nm _ => nm) nmsT sets, pool := [], given := giv 3, told := [], bad := sets.map fun _ => false, lost := false, now := 0, n := 0 }
set_option maxHeartbeats 8000000 in
theorem wnew_ok1 (s0 : List Bs) (room : Int) (hg : GoodU [usT [97] s0]) (r0 : 0 ≤ room) (r1 : room ≤ 64) (l0 : s0.length ≤ 1000000000) : PM (cx true) 15 [] [.p (.lst [.lst (strL s0)]), iv room] (woO (newW [s0] room)) (.tupS [.ptr 2000 0, iv 0]) := by
 have hk := knew_ok kyT ckT [usT [97] s0] room hg r0 r1
 have hky : K true 49 [sv [107, 100, 99]] (.pv (TV kyT)) := atom_ok true _
 have hho : K true 49 [sv [104, 111, 115, 116]] (.pv (TV hoT)) := atom_ok true _
 have hev : K true 49 [sv [101, 118, 105, 108]] (.pv (TV evT)) := atom_ok true _
 have hck : K true 49 [sv [99, 111, 111, 107, 105, 101]] (.pv (TV ckT)) := atom_ok true _
 have ht1 : K true 50 [tv kyT, tv hoT] (.pv (TV tktT)) := ticket_ok true kyT hoT
 have ht2 := ticket_ok true kyT evT
 have he1 : K true 49 [sv ([101, 32] ++ Lib.itoa 1)] (.pv (TV (eT 1))) := atom_ok true _
 have hi1 : K true 51 [iv 1] (.pv (.str (Lib.itoa 1))) := itoa_ok true 1 (by decide) (by decide)
 have hl1 : ([101, 32] : Bs).length + (Lib.itoa 1).length ≤ 9223372036854775807 := by have := itoa_len (n := 1) (by decide) (by decide); show 2 + _ ≤ _; omega
 have he2 : K true 49 [sv ([101, 32] ++ Lib.itoa 2)] (.pv (TV (eT 2))) := atom_ok true _
 have hi2 : K true 51 [iv 2] (.pv (.str (Lib.itoa 2))) := itoa_ok true 2 (by decide) (by decide)
 have hl2 : ([101, 32] : Bs).length + (Lib.itoa 2).length ≤ 9223372036854775807 := by have := itoa_len (n := 2) (by decide) (by decide); show 2 + _ ≤ _; omega
 have he3 : K true 49 [sv ([101, 32] ++ Lib.itoa 3)] (.pv (TV (eT 3))) := atom_ok true _
 have hi3 : K true 51 [iv 3] (.pv (.str (Lib.itoa 3))) := itoa_ok true 3 (by decide) (by decide)
 have hl3 : ([101, 32] : Bs).length + (Lib.itoa 3).length ≤ 9223372036854775807 := by have := itoa_len (n := 3) (by decide) (by decide); show 2 + _ ≤ _; omega
 have hp0 := password_ok true [97] (by decide)
 have hs0 := seed_ok true [97] (by decide)
 have hlg0 := keylong_ok true (pwT [97]) [97] (by decide)
 have hc0 := cnew_ok (cfT [97]) (by decide)
 have hcl0 := cloneS_ok true s0 l0
 refine PM_of_vc (cx_ok true) (mixed true) { own := fun q => Nat.beq q 12 || Nat.beq q 34 || Nat.beq q 40 || Nat.beq q 57 || Nat.beq q 80 || Nat.beq q 96 || Nat.beq q 400111 || Nat.beq q 400112 || Nat.beq q 100110 || Nat.beq q 100121 || Nat.beq q 700110, fz := fun r => cond (Nat.beq r 20) [12] (cond (Nat.beq r 24) [80] []), nl := fun r => cond (Nat.beq r 24) [(1520, 36, 1530, 227, 2), (42, 3, 1503, 26, 3), (42, 5, 1505, 26, 3)] [], tr := trT [(5, [0, 1, 3, 0, 0, 24, 0, 0, 248, 511, 1023, 2047], .one 0 (.one 1 (.one 2 (.one 3 (.one 4 (.one 5 (.one 6 (.one 7 (.one 8 (.one 9 (.one 10 (.one 11 (.fin))))))))))))), (9, [0, 1, 3, 7, 0, 16, 48, 112, 240, 15, 0, 2047, 4095, 8191, 4095, 20479, 53247], .one 0 (.one 1 (.one 2 (.one 3 (.one 4 (.one 5 (.one 6 (.one 7 (.one 8 (.one 9 (.one 10 (.one 11 (.one 14 (.one 15 (.alt (.one 12 (.alt (.one 13 (.one 16 (.fin))) (.one 16 (.one 13 (.fin))))) (.one 16 (.one 12 (.one 13 (.fin))))))))))))))))))), (18, [0, 0, 2, 6, 14, 0, 0, 64, 0, 448, 0, 0, 4064, 8160, 16352, 32766, 65535, 131071, 262143], .one 1 (.one 2 (.one 3 (.one 5 (.one 6 (.one 7 (.one 8 (.one 9 (.one 10 (.one 11 (.one 12 (.alt (.one 0 (.alt (.one 4 (.one 13 (.one 14 (.one 15 (.one 16 (.one 17 (.one 18 (.fin)))))))) (.one 13 (.one 4 (.one 14 (.one 15 (.one 16 (.one 17 (.one 18 (.fin)))))))))) (.alt (.one 4 (.one 13 (.one 14 (.alt (.one 0 (.one 15 (.one 16 (.one 17 (.one 18 (.fin)))))) (.one 15 (.one 0 (.one 16 (.one 17 (.one 18 (.fin)))))))))) (.one 13 (.one 4 (.one 14 (.alt (.one 0 (.one 15 (.one 16 (.one 17 (.one 18 (.fin)))))) (.one 15 (.one 0 (.one 16 (.one 17 (.one 18 (.fin)))))))))))))))))))))))] } Tryz.func15 (by kernel_rfl) rfl rfl (by kernel_rfl) ?_ ?_
 ·rfl
 refine goL ?_
 refine ⟨_, CallVC.pr hky rfl rfl, ?_⟩
 refine goL ?_
 refine ⟨_, CallVC.pr hho rfl rfl, ?_⟩
 refine goL ?_
 refine ⟨_, CallVC.pr hev rfl rfl, ?_⟩
 refine goL ?_
 refine ⟨_, CallVC.pr ht1 rfl rfl, ?_⟩
 refine goL ?_
 refine ⟨Int.natCast_nonneg _, ?_⟩
 refine goL ?_
 refine ⟨_, CallVC.pr ht2 rfl rfl, ?_⟩
 refine goL ?_
 refine ⟨Fin 4, fun i => S.of [(0, .p (.lst [.lst (strL s0)])), (1, iv room), (6, .ptr 6 0), (7, .ptr 7 0), (9, .ptr 9 0), (10, .ptr 42 0), (43, iv (match i with | 0 => 0 | 1 => 1 | 2 => 2 | 3 => 3))] [(6, .var true 26 (.p (TV kyT))), (7, .var true 26 (.p (TV hoT))), (9, .var true 26 (.p (TV tktT))), (34, .row 4 1 (boolL [false])), (40, .row 26 3 (tmvs (giv i.1))), (42, .var true 117 (.mix [.p (.exact (.pointer none)), .p .nilS, .p .nilS, .p .nilS, .slc 40, .p .nilS, .slc 34, bv false, iv 0, iv 0]))], fun i => 4 - i.1, 0, ?_, ?_⟩
 ·exact Ge.go
 intro i
 match i with
 | 0 =>
  refine goL ?_
  refine ⟨_, rfl, ?_⟩
  repeat' ((conv => whnf); first | refine IndepAnd (by kernel_rfl) ?_ | refine TreeAnd (by kernel_rfl) ?_ | refine ⟨rfl, ?_⟩ | refine ⟨by decide, ?_⟩ | refine ⟨trivial, ?_⟩ | refine ⟨⟨rfl, trivial⟩, ?_⟩ | refine ⟨Nat.le_of_ble_eq_true rfl, ?_⟩ | refine ⟨⟨_, rfl, rfl⟩, ?_⟩ | refine ⟨⟨rfl, rfl, trivial⟩, ?_⟩ | refine ⟨⟨rfl, rfl, rfl, trivial⟩, ?_⟩ | refine ⟨⟨rfl, rfl, rfl, rfl, trivial⟩, ?_⟩ | refine ⟨⟨rfl, rfl, rfl, rfl, rfl, trivial⟩, ?_⟩ | refine AltAnd ?_ ?_ | refine ⟨_, CallVC.pr hi1 rfl rfl, ?_⟩ | refine ⟨hl1, ?_⟩ | refine ⟨_, CallVC.pr he1 rfl rfl, ?_⟩ | refine ⟨_, rfl, ?_⟩ | fail)
  all_goals (conv => whnf)
  all_goals refine ⟨1, ?_, by decide⟩
  all_goals
   exact Ge.go
 | 1 =>
  refine goL ?_
  refine ⟨_, rfl, ?_⟩
  repeat' ((conv => whnf); first | refine IndepAnd (by kernel_rfl) ?_ | refine TreeAnd (by kernel_rfl) ?_ | refine ⟨rfl, ?_⟩ | refine ⟨by decide, ?_⟩ | refine ⟨trivial, ?_⟩ | refine ⟨⟨rfl, trivial⟩, ?_⟩ | refine ⟨Nat.le_of_ble_eq_true rfl, ?_⟩ | refine ⟨⟨_, rfl, rfl⟩, ?_⟩ | refine ⟨⟨rfl, rfl, trivial⟩, ?_⟩ | refine ⟨⟨rfl, rfl, rfl, trivial⟩, ?_⟩ | refine ⟨⟨rfl, rfl, rfl, rfl, trivial⟩, ?_⟩ | refine ⟨⟨rfl, rfl, rfl, rfl, rfl, trivial⟩, ?_⟩ | refine AltAnd ?_ ?_ | refine ⟨_, CallVC.pr hi2 rfl rfl, ?_⟩ | refine ⟨hl2, ?_⟩ | refine ⟨_, CallVC.pr he2 rfl rfl, ?_⟩ | refine ⟨_, rfl, ?_⟩ | fail)
  all_goals (conv => whnf)
  all_goals refine ⟨2, ?_, by decide⟩
  all_goals
   exact Ge.go
 | 2 =>
  refine goL ?_
  refine ⟨_, rfl, ?_⟩
  repeat' ((conv => whnf); first | refine IndepAnd (by kernel_rfl) ?_ | refine TreeAnd (by kernel_rfl) ?_ | refine ⟨rfl, ?_⟩ | refine ⟨by decide, ?_⟩ | refine ⟨trivial, ?_⟩ | refine ⟨⟨rfl, trivial⟩, ?_⟩ | refine ⟨Nat.le_of_ble_eq_true rfl, ?_⟩ | refine ⟨⟨_, rfl, rfl⟩, ?_⟩ | refine ⟨⟨rfl, rfl, trivial⟩, ?_⟩ | refine ⟨⟨rfl, rfl, rfl, trivial⟩, ?_⟩ | refine ⟨⟨rfl, rfl, rfl, rfl, trivial⟩, ?_⟩ | refine ⟨⟨rfl, rfl, rfl, rfl, rfl, trivial⟩, ?_⟩ | refine AltAnd ?_ ?_ | refine ⟨_, CallVC.pr hi3 rfl rfl, ?_⟩ | refine ⟨hl3, ?_⟩ | refine ⟨_, CallVC.pr he3 rfl rfl, ?_⟩ | refine ⟨_, rfl, ?_⟩ | fail)
  all_goals (conv => whnf)
  all_goals refine ⟨3, ?_, by decide⟩
  all_goals
   exact Ge.go
 | 3 =>
  refine goL ?_
  refine ⟨Fin 2, fun i => S.of [(0, .p (.lst [.lst (strL s0)])), (1, iv room), (6, .ptr 6 0), (7, .ptr 7 0), (9, .ptr 9 0), (10, .ptr 42 0), (12, .slc 12), (62, .p (.lst [.lst (strL s0)])), (63, iv 1), (64, iv (match i with | 0 => 0 | 1 => 1))] (match i with | 0 => [(6, .var true 26 (.p (TV kyT))), (7, .var true 26 (.p (TV hoT))), (9, .var true 26 (.p (TV tktT))), (34, .row 4 1 (boolL [false])), (40, .row 26 3 (tmvs (giv 3))), (12, .row 31 15 (usL [])), (42, .var true 117 (.mix [.p (.exact (.pointer none)), .p .nilS, .p .nilS, .p .nilS, .slc 40, .p .nilS, .slc 34, bv false, iv 0, iv 0]))] | 1 => [(6, .var true 26 (.p (TV kyT))), (7, .var true 26 (.p (TV hoT))), (9, .var true 26 (.p (TV tktT))), (34, .row 4 1 (boolL [false])), (40, .row 26 3 (tmvs (giv 3))), (12, .row 31 15 (usL [usT [97] s0])), (42, .var true 117 (.mix [.p (.exact (.pointer none)), .slc 1511, .slc 80, .p .nilS, .slc 40, .p .nilS, .slc 34, bv false, iv 0, iv 0])), (80, .row 9 1 (strL [[97]])), (1511, .rp 37 [.ptr 1520 0]), (1520, .var true 85 (clV (newCl (cfT [97])) (.p .nilS)))]), fun i => 2 - i.1, 0, ?_, ?_⟩
  ·exact Ge.go
  intro i
  match i with
  | 0 =>
   refine goL ?_
   repeat' ((conv => whnf); first | refine IndepAnd (by kernel_rfl) ?_ | refine TreeAnd (by kernel_rfl) ?_ | refine ⟨rfl, ?_⟩ | refine ⟨by decide, ?_⟩ | refine ⟨trivial, ?_⟩ | refine ⟨⟨rfl, trivial⟩, ?_⟩ | refine ⟨Nat.le_of_ble_eq_true rfl, ?_⟩ | refine ⟨⟨_, rfl, rfl⟩, ?_⟩ | refine ⟨⟨rfl, rfl, trivial⟩, ?_⟩ | refine ⟨⟨rfl, rfl, rfl, trivial⟩, ?_⟩ | refine ⟨⟨rfl, rfl, rfl, rfl, trivial⟩, ?_⟩ | refine ⟨⟨rfl, rfl, rfl, rfl, rfl, trivial⟩, ?_⟩ | refine AltAnd ?_ ?_ | refine ⟨[97], by decide, ?_⟩ | refine ⟨_, CallVC.pr hp0 rfl rfl, ?_⟩ | refine ⟨_, CallVC.pr hlg0 rfl rfl, ?_⟩ | refine ⟨_, CallVC.pr hcl0 rfl rfl, ?_⟩ | refine ⟨_, CallVC.pr hs0 rfl rfl, ?_⟩ | refine ⟨_, MCallVC0.pr (gn [(2020, 110)]) hc0 ⟨LE.of rfl, trivial⟩ (by (conv => whnf); exact trivial) rfl rfl rfl, ?_⟩ | refine ⟨_, rfl, rfl, rfl, ?_⟩ | refine ⟨_, rfl, ?_⟩ | fail)
   all_goals (conv => whnf)
   all_goals refine ⟨1, ?_, by decide⟩
   all_goals
    refine Ge.ren [(1511, 112), (1520, 110)] rfl rfl ?_ ?_
    ·repeat (conv => whnf); refine ⟨LE.of rfl, ?_⟩
     trivial
    ·repeat (conv => whnf); refine ⟨OLE.of rfl, ?_⟩
     trivial
  | 1 =>
   refine goL ?_
   refine ⟨_, CallVC.pr hck rfl rfl, ?_⟩
   refine goL ?_
   refine ⟨_, MCallVC.pr (gn [(2010, 1540), (2011, 1541), (2013, 1543), (2012, 1542), (2014, 1544), (1010, 1545)]) hk ⟨LE.of rfl, LE.of rfl, LE.of rfl, LE.of rfl, trivial⟩ (by (conv => whnf); exact trivial) rfl, ?_⟩
   refine goL ?_
   exact ⟨gn [(2000, 42), (2001, 1511), (1001, 1503), (2006, 40), (1003, 1505), (2005, 34), (2010, 1540), (2011, 1541), (2013, 1543), (1012, 1542), (1014, 1544), (1010, 1545), (2020, 1520), (1020, 1530)], ⟨rfl, LE.of rfl, rfl, LE.of rfl, trivial⟩, ⟨.inr (.inl rfl), .inr (.inl rfl), .inr (.inl rfl), .inr (.inl rfl), .inr (.inl rfl), .inr (.inl rfl), .inr (.inl rfl), .inr (.inl rfl), .inr (.inl rfl), .inr (.inl rfl), .inr (.inl rfl), .inr (.inl rfl), .inr (.inl rfl), .inr (.inl rfl), trivial⟩, rfl, rfl⟩
end Go.Sl
namespace Go.Sl
open Go Go.Vc Go.Proofs Go.RowKit
def cl0 : Cln := newCl ⟨[], zeroT, zeroT, 0, zeroT, zeroT⟩
noncomputable def doT (W : Wo) (s : Stp) : Wo × Tm × Int :=
 if mayT W s ≠ 0 then (W, noneT, mayT W s) else
 if s.kind = 1 then wstartT W s.who.toNat (W.cs.getD s.who.toNat cl0) else
 if s.kind = 2 then asksT W (at_ W.pool s.pos.toNat) else
 if s.kind = 4 then asksT W s.t else
 if s.kind = 3 then wtakesT W s.who.toNat (W.cs.getD s.who.toNat cl0) (at_ W.pool s.pos.toNat) else
 if s.kind = 5 then wtakesT W s.who.toNat (W.cs.getD s.who.toNat cl0) s.t else
 if s.kind = 6 then (tickT W s.pos, noneT, 0) else
 if s.kind = 7 then (corruptT W s.who.toNat, noneT, 0) else
 if s.kind = 8 then (loseT W, noneT, 0) else
 (restartT W, noneT, 0)
structure CInv (j : Nat) (c : Cln) : Prop where
 on : c.on = true → G 2 200 4 c.body ∧ G 5 600 30 c.wrap ∧ G 4 300 10 c.ak
 nonce : c.nonce.length ≤ 30
 c0 : 0 ≤ c.ctr
 c1 : c.ctr ≤ j
 marks : c.marks.length ≤ j
 name : c.name.length ≤ 1
 tick : c.tick = tktT
 host : c.host = hoT
 key : G 2 200 3 c.key
 seed : G 1 100 1 c.seed
theorem CInv.mono {j j' : Nat} {c : Cln} (h : CInv j c) (hj : j ≤ j') : CInv j' c :=
 {h with c1 := by have := h.c1; omega, marks := by have := h.marks; omega }
theorem CInv.g {j : Nat} {c : Cln} (h : CInv j c) (hj : j ≤ 1000000) (hon : c.on = true) : ClG c :=
 {body := (h.on hon).1, wrap := (h.on hon).2.1, ak := (h.on hon).2.2, key := h.key, seed := h.seed, c0 := h.c0, c1 := by have := h.c1; omega }
theorem CInv.ok {j : Nat} {c : Cln} (h : CInv j c) (hj : j ≤ 1000000) : ClOk c :=
 {nonce := by have := h.nonce; omega, c0 := h.c0, c1 := by have := h.c1; omega, marks := by have := h.marks; omega }
theorem tkt_G : G 3 200 8 tktT := by
 have hl : hostW.length = 4 := rfl
 have hk : G 1 10 1 kyT := G.atom (by decide) (Nat.le_refl _) (by decide) (Nat.le_refl _)
 have hh : G 1 10 1 hoT := G.atom (by decide) (Nat.le_refl _) (by decide) (Nat.le_refl _)
 exact (G.shut (n := 2) hk (G.pack (d := 1) (tag := hostW) (by decide) (Nat.le_refl _) (GL.cons hh GL.nil)) (by decide) (by decide)).mono (Nat.le_refl _) (by omega) (by omega)
theorem nT_len {n : Int} (h0 : 0 ≤ n) (h1 : n ≤ 1000000) : (nT n).length ≤ 21 := by
 unfold nT nW
 have := itoa_len (n := n + 1) (by omega) (by omega)
 rw [List.length_append]
 show 1 + _ ≤ _
 omega
theorem sbT_G {n : Int} (h0 : 0 ≤ n) (h1 : n ≤ 1000000) : G 1 60 1 (sbT n) := by
 have hl := itoa_len30 (n := n + 1) (by omega) (by omega)
 refine G.atom (by unfold sbW; simp) (Nat.le_refl _) ?_ (Nat.le_refl _)
 unfold sbW
 rw [List.length_append]
 show 4 + _ + 1 ≤ _
 omega
theorem xT_G {n : Int} (h0 : 0 ≤ n) (h1 : n ≤ 1000000) : G 1 100 1 (xT n) := by
 have hl := itoa_len30 (n := n + 1) (by omega) (by omega)
 refine G.atom (by unfold xW; simp) (Nat.le_refl _) ?_ (Nat.le_refl _)
 unfold xW
 rw [List.length_append]
 show 2 + _ + 1 ≤ _
 omega
theorem CInv.start {j : Nat} {c : Cln} (h : CInv j c) {n : Int} (h0 : 0 ≤ n) (h1 : n ≤ 1000000) : CInv j (startT c (nT n) (sbT n)) := by
 have hn := nT_len h0 h1
 have hs := sbT_G h0 h1
 have hh : G 1 10 1 hoT := G.atom (by decide) (Nat.le_refl _) (by decide) (Nat.le_refl _)
 have l1 : bodyW.length = 4 := rfl
 have l2 : armorW.length = 5 := rfl
 have l3 : authW.length = 4 := rfl
 have hname := h.name
 refine { h with on := fun _ => ⟨?_, ?_, ?_⟩, nonce := ?_ }
 ·exact (G.pack (d := 1) (tag := bodyW) (by decide) (Nat.le_refl _) (GL.cons (data_GB (c := 61) h.name (Nat.le_refl _)) (GL.cons (data_GB (c := 61) hn (Nat.le_refl _)) GL.nil))).mono (Nat.le_refl _) (by omega) (by omega)
 ·show G 5 600 30 (wrapT c.tick c.host (sbT n))
  rw [h.tick, h.host]
  exact (G.pack (d := 4) (tag := armorW) (by decide) (by omega) (GL.cons (tkt_G.mono (by omega) (Nat.le_refl _) (Nat.le_refl _)) (GL.cons (G.shut (d := 2) (n := 11) (hh.mono (by omega) (Nat.le_refl _) (Nat.le_refl _)) (G.pack (d := 2) (tag := authW) (by decide) (by omega) (GL.cons (hs.mono (by omega) (Nat.le_refl _) (Nat.le_refl _)) GL.nil)) (by decide) (by decide)) GL.nil))).mono (by omega) (by omega) (by omega)
 ·show G 4 300 10 (joinT (sbT n) c.host subW tickW)
  rw [h.host]
  exact (G.join hs hh (by decide) (by decide)).mono (Nat.le_refl _) (by omega) (by omega)
 ·show (nT n).length ≤ 30
  omega
theorem CInv.more {j : Nat} {c : Cln} (h : CInv j c) {b : Tm} {m : List (Bs × Bs)} (hm : m.length ≤ j) : CInv j { c with base := b, done := true, marks := m } :=
 {on := h.on, nonce := h.nonce, c0 := h.c0, c1 := h.c1, marks := hm, name := h.name, tick := h.tick, host := h.host, key := h.key, seed := h.seed }
theorem takeT_on {c : Cln} {t : Tm} {now : Int} {x : Tm} {j : Nat} (h : CInv j c) : CInv (j + 1) (takeT c t now x).1 := by
 have hoff : CInv (j + 1) { c with on := false } := { h.mono (Nat.le_succ j) with on := fun h => by cases h }
 have hd : CInv (j + 1) (doesT c (at_ (openedT (ansOfT c.ak c.nonce t).1 (ansOfT c.ak c.nonce t).2 moreW 2).1 0) now x).1 ∧ (doesT c (at_ (openedT (ansOfT c.ak c.nonce t).1 (ansOfT c.ak c.nonce t).2 moreW 2).1 0) now x).1.marks = c.marks := by
  unfold doesT
  split
  ·exact ⟨h.mono (Nat.le_succ j), rfl⟩
  split
  ·simp only
   split
   ·exact ⟨{ h.mono (Nat.le_succ j) with c0 := by have := h.c0; show (0 : Int) ≤ c.ctr + 1; omega, c1 := by have := h.c1; show c.ctr + 1 ≤ ((j + 1 : Nat) : Int); omega }, rfl⟩
   ·exact ⟨h.mono (Nat.le_succ j), rfl⟩
  split <;> exact ⟨h.mono (Nat.le_succ j), rfl⟩
 unfold takeT
 split
 ·exact h.mono (Nat.le_succ j)
 split
 ·exact hoff
 split
 ·unfold endsT
  split
  ·exact h.mono (Nat.le_succ j)
  split
  ·exact h.mono (Nat.le_succ j)
  split
  ·exact h.mono (Nat.le_succ j)
  simp only
  split
  ·exact h.mono (Nat.le_succ j)
  split
  ·exact h.mono (Nat.le_succ j)
  exact { h.mono (Nat.le_succ j) with on := fun h => by cases h }
 split
 ·exact h.mono (Nat.le_succ j)
 simp only
 split
 ·exact hd.1
 ·refine CInv.more hd.1 ?_
  rw [hd.2, List.length_append, List.length_singleton]
  have := h.marks
  omega
structure KInv (j : Nat) (k : Kd) : Prop where
 key : k.key = kyT
 ck : k.cookies = ckT
 few : k.us.length ≤ 3
 ukey : ∀ u ∈ k.us, G 2 200 3 u.key
 set0 : ∀ u ∈ k.us, 0 < u.set.length
 set3 : ∀ u ∈ k.us, u.set.length ≤ 3
 words : ∀ u ∈ k.us, ∀ s ∈ u.set, s.length ≤ 20
 f0 : ∀ u ∈ k.us, 0 ≤ u.fails
 f1 : ∀ u ∈ k.us, u.fails ≤ j
 room0 : 0 ≤ k.room
 room1 : k.room ≤ 64
 nod : (k.ca.map (·.1)).Nodup
 cal : (k.ca.length : Int) ≤ k.room
 d0 : 0 ≤ k.drawn
 d1 : k.drawn ≤ 2 * j
 iss : k.iss.length ≤ j
theorem KInv.ok {j : Nat} {k : Kd} (h : KInv j k) (hj : j ≤ 10000) : KdOk k :=
 {key := by rw [h.key]; decide, cookies := by rw [h.ck]; decide, few := by have := h.few; omega, sets := fun u hu => ⟨h.set0 u hu, h.set3 u hu⟩,
  words := fun u hu s hs => by have := h.words u hu s hs; omega, fails := fun u hu => ⟨h.f0 u hu, by have := h.f1 u hu; omega⟩, room0 := h.room0, room1 := h.room1, nod := h.nod,
  cal := by have := h.cal; have := h.room1; omega, d0 := h.d0, d1 := by have := h.d1; omega, iss := by have := h.iss; omega }
theorem KInv.g {j : Nat} {k : Kd} (h : KInv j k) (hj : j ≤ 10000) : KdG k :=
 {key := by rw [h.key]; exact G.atom (by decide) (Nat.le_refl _) (by decide) (Nat.le_refl _), ck := by rw [h.ck]; exact G.atom (by decide) (Nat.le_refl _) (by decide) (Nat.le_refl _),
  fits := by rw [h.ck]; exact fits_atom (by decide), ukey := h.ukey, set0 := h.set0, set3 := h.set3, words := h.words, d0 := h.d0, d1 := by have := h.d1; omega }
theorem KInv.mono {j j' : Nat} {k : Kd} (h : KInv j k) (hj : j ≤ j') : KInv j' k :=
 {h with f1 := fun u hu => by have := h.f1 u hu; omega, d1 := by have := h.d1; omega, iss := by have := h.iss; omega }
theorem setU_mem {n : Bs} {l : List Us} {g : Int → Int} {u : Us} (hu : u ∈ setU n l g) : u ∈ l ∨ ∃ v ∈ l, u = { v with fails := g v.fails } := by
 unfold setU at hu
 split at hu
 ·rename_i h
  rcases List.mem_or_eq_of_mem_set hu with hu | rfl
  ·exact .inl hu
  ·exact .inr ⟨_, List.getElem_mem h, rfl⟩
 ·exact .inl hu
theorem codeU_mem {n : Bs} {l : List Us} {hits : List Int} {u : Us} (hu : u ∈ (codeU n l hits).1) : u ∈ l ∨ ∃ v ∈ l, ∃ t, u = { v with tok := t } := by
 unfold codeU at hu
 split at hu
 ·rename_i h
  split at hu
  ·exact .inl hu
  ·rcases List.mem_or_eq_of_mem_set hu with hu | rfl
   ·exact .inl hu
   ·exact .inr ⟨_, List.getElem_mem h, _, rfl⟩
 ·exact .inl hu
theorem KInv.setU {j : Nat} {k : Kd} (h : KInv j k) {n : Bs} {g : Int → Int} (hg : ∀ x : Int, 0 ≤ x → x ≤ j → 0 ≤ g x ∧ g x ≤ ((j + 1 : Nat) : Int)) : KInv (j + 1) { k with us := setU n k.us g } := by
 have h' := h.mono (Nat.le_succ j)
 have key : ∀ {P : Us → Prop}, (∀ u ∈ k.us, P u) → (∀ u ∈ k.us, P { u with fails := g u.fails }) → ∀ u ∈ Go.Sl.setU n k.us g, P u := by
  intro P h1 h2 u hu
  rcases setU_mem hu with hu | ⟨v, hv, rfl⟩
  ·exact h1 u hu
  ·exact h2 v hv
 exact { h' with
  few := by show (Go.Sl.setU n k.us g).length ≤ 3; rw [setU_len]; exact h.few
  ukey := key h.ukey h.ukey, set0 := key h.set0 h.set0, set3 := key h.set3 h.set3, words := key (P := fun u => ∀ s ∈ u.set, s.length ≤ 20) h.words h.words
  f0 := key h.f0 fun u hu => (hg _ (h.f0 u hu) (h.f1 u hu)).1, f1 := key h'.f1 fun u hu => (hg _ (h.f0 u hu) (h.f1 u hu)).2 }
theorem KInv.codeU {j : Nat} {k : Kd} (h : KInv j k) {n : Bs} {hits : List Int} : KInv j { k with us := (codeU n k.us hits).1 } := by
 have key : ∀ {P : Us → Prop}, (∀ u ∈ k.us, P u) → (∀ u ∈ k.us, ∀ t, P { u with tok := t }) → ∀ u ∈ (Go.Sl.codeU n k.us hits).1, P u := by
  intro P h1 h2 u hu
  rcases codeU_mem hu with hu | ⟨v, hv, t, rfl⟩
  ·exact h1 u hu
  ·exact h2 v hv t
 exact { h with
  few := by show (Go.Sl.codeU n k.us hits).1.length ≤ 3; rw [codeU_len]; exact h.few
  ukey := key h.ukey fun u hu _ => h.ukey u hu, set0 := key h.set0 fun u hu _ => h.set0 u hu, set3 := key h.set3 fun u hu _ => h.set3 u hu, words := key (P := fun u => ∀ s ∈ u.set, s.length ≤ 20) h.words fun u hu _ => h.words u hu
  f0 := key h.f0 fun u hu _ => h.f0 u hu, f1 := key h.f1 fun u hu _ => h.f1 u hu }
theorem caPut_some {s : Bs} {u : Int} : ∀ {c : Ca} {v : Int}, caGet s c = some v → (caPut s u c).length = c.length ∧ (caPut s u c).map (·.1) = c.map (·.1)
 | [], v, h => by cases h
 | (k, x) :: r, v, h => by
  unfold caGet at h
  unfold caPut
  by_cases e : s = k
  ·rw [if_pos e]
   subst e
   exact ⟨rfl, rfl⟩
  ·rw [if_neg e] at h ⊢
   obtain ⟨h1, h2⟩ := caPut_some (u := u) h
   exact ⟨by simp [h1], by simp [h2]⟩
theorem caPut_none {s : Bs} {u : Int} : ∀ {c : Ca}, caGet s c = none → caPut s u c = c ++ [(s, u)] ∧ s ∉ c.map (·.1)
 | [], h => ⟨rfl, by simp⟩
 | (k, x) :: r, h => by
  unfold caGet at h
  unfold caPut
  by_cases e : s = k
  ·rw [if_pos e] at h; cases h
  ·rw [if_neg e] at h ⊢
   obtain ⟨h1, h2⟩ := caPut_none (u := u) h
   refine ⟨by rw [h1]; rfl, ?_⟩
   simp only [List.map_cons, List.mem_cons, not_or]
   exact ⟨e, h2⟩
theorem seenT_inv {room : Int} {c : Ca} {id : Bs} {til now : Int} (hn : (c.map (·.1)).Nodup) (hl : (c.length : Int) ≤ room) : ((seenT room c id til now).1.map (·.1)).Nodup ∧ ((seenT room c id til now).1.length : Int) ≤ room := by
 have hp : ((pruneC c now).map (·.1)).Nodup ∧ ((pruneC c now).length : Int) ≤ room := by
  unfold pruneC
  refine ⟨(List.filter_sublist.map _).nodup hn, ?_⟩
  have := List.length_filter_le (fun x : Bs × Int => decide (now < x.2)) c
  omega
 unfold seenT
 split
 ·exact ⟨hn, hl⟩
 split
 ·rename_i old e
  obtain ⟨h1, h2⟩ := caPut_some (u := max old til) e
  rw [h1, h2]
  exact hp
 ·rename_i e
  split
  ·exact hp
  ·rename_i h3
   obtain ⟨h1, h2⟩ := caPut_none (u := til) e
   rw [h1, List.map_append, List.length_append]
   refine ⟨List.nodup_append.2 ⟨hp.1, by simp, fun a ha b hb => ?_⟩, ?_⟩
   ·simp only [List.map_cons, List.map_nil, List.mem_singleton] at hb
    subst hb
    rintro rfl
    exact h2 ha
   ·have := hp.2
    show (((pruneC c now).length + 1 : Nat) : Int) ≤ room
    omega
theorem KInv.ca {j : Nat} {k : Kd} (h : KInv j k) {c : Ca} (h1 : (c.map (·.1)).Nodup) (h2 : (c.length : Int) ≤ k.room) : KInv j { k with ca := c } :=
 {h with nod := h1, cal := h2 }
theorem KInv.takes {j : Nat} {k : Kd} (h : KInv j k) (ta : Ta) : KInv (j + 1) (takesT k ta).1 := by
 obtain ⟨c1, c2⟩ := seenT_inv (id := txtT ta.pd) (til := ta.now + 100 + 1) (now := ta.now) h.nod h.cal
 have hs := (h.mono (Nat.le_succ j)).ca c1 c2
 unfold takesT
 split
 ·exact h.mono (Nat.le_succ j)
 split
 ·exact h.setU fun x h0 h1 => ⟨by omega, by omega⟩
 split
 ·exact h.mono (Nat.le_succ j)
 split
 ·exact hs
 split
 ·exact hs.codeU (n := ta.ck.client) (hits := (provesT ta).2.1)
 ·exact hs
theorem KInv.offer {j : Nat} {k : Kd} (h : KInv j k) (ta : Ta) : KInv (j + 1) (offerT k ta).1 ∧ (offerT k ta).1.iss = k.iss := by
 have h' := h.mono (Nat.le_succ j)
 have hd : KInv (j + 1) { k with drawn := k.drawn + 1 } := { h' with d0 := by have := h.d0; show (0 : Int) ≤ k.drawn + 1; omega, d1 := by have := h.d1; show k.drawn + 1 ≤ 2 * ((j + 1 : Nat) : Int); omega }
 unfold offerT
 split
 ·exact ⟨hd, rfl⟩
 split
 ·exact ⟨hd, rfl⟩
 ·exact ⟨h', rfl⟩
theorem KInv.ticket {j : Nat} {k : Kd} (h : KInv j k) (ta : Ta) : KInv (j + 1) (ticketK k ta) := by
 have hs := h.setU (n := ta.ck.client) (g := fun _ => 0) fun x h0 h1 => ⟨Int.le_refl _, by omega⟩
 exact { hs with
  d0 := by have := h.d0; show (0 : Int) ≤ k.drawn + 1 + 1; omega
  d1 := by have := h.d1; show k.drawn + 1 + 1 ≤ 2 * ((j + 1 : Nat) : Int); omega
  iss := by have := h.iss; show (k.iss ++ [_]).length ≤ j + 1; rw [List.length_append, List.length_singleton]; omega }
theorem opd_ta {k : Kd} {j : Nat} (hk : KInv j k) {m : Tm} {now : Int} {ta : Ta} (hm : InOk m) (h : Opd k m now ta) (n0 : -1000000000000 ≤ now) (n1 : now ≤ 1000000000000) : TaG k ta ∧ G 56 20000000 2000 ta.pd := by
 obtain ⟨sub, host, kept, e1, e2⟩ := h.eq
 obtain ⟨g1, g2, g3, g4⟩ := in_ask hm e1
 refine ⟨{ ak := ?_, ukey := hk.ukey _ h.u, client := by have := h.client; omega, nonce := by have := h.nonce; omega, words := fun s hs => hk.words _ h.u s (h.done s hs), few := by have := h.less; have := hk.set3 _ h.u; omega, n0 := by rw [h.now]; exact n0, n1 := by rw [h.now]; exact n1 }, g4⟩
 rw [e2]
 exact (G.join g1 g2 (by decide) (by decide)).mono (by omega) (by omega) (by omega)
theorem doneTa_G {k : Kd} {ta : Ta} (h : TaG k ta) (hl : ta.ck.done.length < ta.u.set.length) (h3 : ta.u.set.length ≤ 3) (hw : ∀ s ∈ ta.u.set, s.length ≤ 20) : TaG k (doneTa ta) :=
 {ak := h.ak, ukey := h.ukey, client := h.client, nonce := h.nonce, n0 := h.n0, n1 := h.n1
  words := fun s hs => by
   rcases List.mem_append.1 (show s ∈ ta.ck.done ++ [nextT ta] from hs) with hs | hs
   ·exact h.words s hs
   ·rw [List.mem_singleton] at hs
    subst hs
    exact hw _ (nextT_mem hl)
  few := by show (ta.ck.done ++ [nextT ta]).length ≤ 3; rw [List.length_append, List.length_singleton]; omega }
theorem TaG.any {k k' : Kd} {ta : Ta} (h : TaG k ta) : TaG k' ta :=
 {ak := h.ak, ukey := h.ukey, client := h.client, nonce := h.nonce, words := h.words, few := h.few, n0 := h.n0, n1 := h.n1 }
theorem request_pool {k : Kd} {j : Nat} (hk : KInv j k) (hj : j ≤ 1000) {m : Tm} {now : Int} (hm : InOk m) (n0 : -1000000000000 ≤ now) (n1 : now ≤ 1000000000000) : KInv (j + 3) (requestT k m now).1 ∧ PoolOk (requestT k m now).2 := by
 unfold requestT
 split
 ·exact ⟨hk.mono (by omega), refT_pool (opensT_err k m now)⟩
 rename_i h0
 have ho := opens_eq k m now hm.shp hk.set0 (Classical.not_not.1 h0)
 revert ho
 generalize (opensT k m now).1 = ta
 intro ho
 obtain ⟨hg, hpd⟩ := opd_ta hk hm ho n0 n1
 split
 ·exact ⟨(hk.offer ta).1.mono (by omega), offer_pool (hk.g (by omega)) hg⟩
 split
 ·exact ⟨(hk.takes ta).mono (by omega), refT_pool (takesT_err k ta)⟩
 rename_i h1
 obtain ⟨b1, b2⟩ := takes_base (Classical.not_not.1 h1)
 have hk' := hk.takes ta
 have hd := (doneTa_G hg ho.less (hk.set3 _ ho.u) (hk.words _ ho.u)).any (k' := (takesT k ta).1)
 split
 ·exact ⟨(hk'.ticket (doneTa ta)).mono (by omega), ticket_pool (hk'.g (by omega)) hd (by rw [b1]; exact proves_G hg hpd b2)⟩
 ·exact ⟨(hk'.offer (doneTa ta)).1.mono (by omega), offer_pool (hk'.g (by omega)) hd⟩
structure WInv (N j : Nat) (W : Wo) : Prop where
 len : W.cs.length = N
 cs : ∀ c ∈ W.cs, CInv j c
 k : KInv j W.k
 given : W.given = giv 3
 names : ∀ s ∈ W.names, s.length ≤ 1
 nlen : W.names.length = N
 bad : W.bad.length = N
 told : ∀ t ∈ W.told, G 1 60 1 t
 tlen : W.told.length ≤ j
 pool : ∀ p ∈ W.pool, PoolOk p
 plen : W.pool.length ≤ j
 t0 : 0 ≤ W.now
 t1 : W.now ≤ 8 * j
 n0 : 0 ≤ W.n
 n1 : W.n ≤ j
theorem saidP_inv {j : Nat} {l : List Tm} {t : Tm} (h : ∀ p ∈ l, PoolOk p) (hl : l.length ≤ j) (ht : t = noneT ∨ PoolOk t) : (∀ p ∈ saidP l t, PoolOk p) ∧ (saidP l t).length ≤ j + 1 := by
 unfold saidP
 split
 ·exact ⟨h, by omega⟩
 ·rename_i hn
  refine ⟨fun p hp => ?_, by rw [List.length_append, List.length_singleton]; omega⟩
  rcases List.mem_append.1 hp with hp | hp
  ·exact h p hp
  ·rw [List.mem_singleton] at hp
   subst hp
   rcases ht with rfl | ht
   ·exact absurd (by decide) hn
   ·exact ht
theorem WInv.mono {N j j' : Nat} {W : Wo} (h : WInv N j W) (hj : j ≤ j') : WInv N j' W :=
 {h with cs := fun c hc => (h.cs c hc).mono hj, k := h.k.mono hj, tlen := by have := h.tlen; omega, plen := by have := h.plen; omega, t1 := by have := h.t1; omega, n1 := by have := h.n1; omega }
theorem set_all {P : Cln → Prop} {l : List Cln} {i : Nat} {c : Cln} (h : ∀ c ∈ l, P c) (hc : P c) : ∀ x ∈ l.set i c, P x := fun x hx => by
 rcases List.mem_or_eq_of_mem_set hx with hx | rfl
 ·exact h x hx
 ·exact hc
theorem WInv.start {N j : Nat} {W : Wo} (h : WInv N j W) (hj : j ≤ 1000) {i : Nat} {c : Cln} (hc : CInv j c) : WInv N (j + 3) (wstartT W i c).1 := by
 have h3 := h.mono (j' := j + 3) (by omega)
 have hn0 := h.n0
 have hn1 := h.n1
 have hs := hc.start (n := W.n) h.n0 (by omega)
 obtain ⟨p1, p2⟩ := saidP_inv h.pool h.plen (.inr (start_pool (hs.g (by omega) rfl)))
 exact { h3 with len := by show (W.cs.set i _).length = N; rw [List.length_set]; exact h.len, cs := set_all h3.cs (hs.mono (by omega)), pool := p1, plen := Nat.le_trans p2 (by omega), n0 := by show (0 : Int) ≤ W.n + 1; omega, n1 := by show W.n + 1 ≤ ((j + 3 : Nat) : Int); omega }
theorem WInv.asks {N j : Nat} {W : Wo} (h : WInv N j W) (hj : j ≤ 1000) {t : Tm} (ht : InOk t) : WInv N (j + 3) (asksT W t).1 ∧ PoolOk (requestT W.k t W.now).2 := by
 have h3 := h.mono (j' := j + 3) (by omega)
 have t0 := h.t0
 have t1 := h.t1
 obtain ⟨k1, k2⟩ := request_pool h.k hj ht (now := W.now) (by omega) (by omega)
 obtain ⟨p1, p2⟩ := saidP_inv h.pool h.plen (.inr k2)
 exact ⟨{ h3 with k := k1, pool := p1, plen := Nat.le_trans p2 (by omega) }, k2⟩
theorem WInv.takes {N j : Nat} {W : Wo} (h : WInv N j W) (hj : j ≤ 1000) {i : Nat} {c : Cln} (hc : CInv j c) {t : Tm} (ht : InOk t) : WInv N (j + 3) (wtakesT W i c t).1 ∧ ((takeT c t W.now (xT W.n)).2.1 = noneT ∨ PoolOk (takeT c t W.now (xT W.n)).2.1) := by
 have h3 := h.mono (j' := j + 3) (by omega)
 have t0 := h.t0
 have t1 := h.t1
 have hn0 := h.n0
 have hn1 := h.n1
 have hp := take_pool (c := c) (fun hon => hc.g (by omega) hon) (xT_G (n := W.n) h.n0 (by omega)) (now := W.now) (by omega) (by omega) ht
 obtain ⟨p1, p2⟩ := saidP_inv h.pool h.plen hp
 exact ⟨{ h3 with len := by show (W.cs.set i _).length = N; rw [List.length_set]; exact h.len, cs := set_all h3.cs ((takeT_on hc).mono (by omega)), pool := p1, plen := Nat.le_trans p2 (by omega), n0 := by show (0 : Int) ≤ W.n + 1; omega, n1 := by show W.n + 1 ≤ ((j + 3 : Nat) : Int); omega }, hp⟩
theorem pw_G {s : Bs} (h : s.length ≤ 1) : G 1 60 1 (pwT s) := by
 refine G.atom (by unfold pwW; simp) (Nat.le_refl _) ?_ (Nat.le_refl _)
 unfold pwW
 rw [List.length_append]
 show 9 + s.length + 1 ≤ 60
 omega
theorem sd_G {s : Bs} (h : s.length ≤ 1) : G 1 60 1 (sdT s) := by
 refine G.atom (by unfold sdW; simp) (Nat.le_refl _) ?_ (Nat.le_refl _)
 unfold sdW
 rw [List.length_append]
 show 5 + s.length + 1 ≤ 60
 omega
end Go.Sl
namespace Go.Sl
open Go Go.Vc Go.Proofs Go.RowKit
def ins (x : Int) : List Int → List Int
 | [] => [x]
 | y :: l => if x ≤ y then x :: y :: l else y :: ins x l
def isort : List Int → List Int
 | [] => []
 | x :: l => ins x (isort l)
theorem ins_perm (x : Int) : ∀ l : List Int, (ins x l).Perm (x :: l)
 | [] => List.Perm.refl _
 | y :: l => by
  unfold ins
  split
  ·exact List.Perm.refl _
  ·exact ((ins_perm x l).cons y).trans (List.Perm.swap _ _ _)
theorem isort_perm : ∀ l : List Int, (isort l).Perm l
 | [] => List.Perm.refl _
 | x :: l => (ins_perm x _).trans ((isort_perm l).cons x)
theorem ins_sorted (x : Int) : ∀ {l : List Int}, l.Pairwise (· ≤ ·) → (ins x l).Pairwise (· ≤ ·)
 | [], _ => by unfold ins; simp
 | y :: l, h => by
  unfold ins
  rw [List.pairwise_cons] at h
  split
  ·rename_i hxy
   rw [List.pairwise_cons, List.pairwise_cons]
   refine ⟨fun z hz => ?_, h⟩
   rcases List.mem_cons.1 hz with rfl | hz
   ·exact hxy
   ·have := h.1 z hz; omega
  ·rename_i hxy
   rw [List.pairwise_cons]
   refine ⟨fun z hz => ?_, ins_sorted x h.2⟩
   rcases List.mem_cons.1 ((ins_perm x l).mem_iff.1 hz) with rfl | hz
   ·omega
   ·exact h.1 z hz
theorem isort_sorted : ∀ l : List Int, (isort l).Pairwise (· ≤ ·)
 | [] => List.Pairwise.nil
 | x :: l => ins_sorted x (isort_sorted l)
theorem sortI_isort (zs : List Int) : sortI zs = isort zs := by
 refine List.Perm.eq_of_pairwise (le := fun a b : Int => a ≤ b) (fun a b _ _ h1 h2 => by omega) ?_ (isort_sorted zs) ((List.mergeSort_perm zs _).trans (isort_perm zs).symm)
 have := List.pairwise_mergeSort (le := fun x y : Int => decide (x ≤ y)) (fun a b c h1 h2 => by simp at h1 h2 ⊢; omega) (fun a b => by simp; omega) zs
 exact this.imp fun h => by simpa using h
def hits0T (ak nonce p seed : Tm) (t : Tok) : List Int × Int :=
 match unpackT otpM 1 p with
 | none => ([], 2)
 | some l =>
  if (unsealT ak 45 (at_ l 0)).2 = 0 then
   (match unpackT codeW 2 (unsealT ak 45 (at_ l 0)).1 with
   | none => ([], 2)
   | some r => if at_ r 0 = nonce then (if tokRight t = true then ((Lib.compact (isort (mayL t))).filter fun c => decide (at_ r 1 = numT seed otpW c), 0) else ([], 0)) else ([], 6))
  else ([], (unsealT ak 45 (at_ l 0)).2)
theorem hitsT_0 : hitsT = hits0T := by
 funext ak nonce p seed t
 unfold hitsT hits0T hitsL
 simp only [sortI_isort]
 rfl
def provesP (h : Tm → Tm → Tm → Tm → Tok → List Int × Int) (t : Ta) : Tm × List Int × Int :=
 if nextT t = otpM then (numT t.ak useW 46, (h t.ak t.ck.secret t.pd t.u.seed t.u.tok).1, (h t.ak t.ck.secret t.pd t.u.seed t.u.tok).2) else
 if nextT t = spW then ((checkSpakeT t.u.key t.body t.ck.secret t.pd).1, [], (checkSpakeT t.u.key t.body t.ck.secret t.pd).2) else
 (t.u.key, [], checkChalT t.ak t.u.key t.body t.pd t.now)
def takesP (h : Tm → Tm → Tm → Tm → Tok → List Int × Int) (k : Kd) (t : Ta) : Kd × Tm × List Int × Int :=
 if tagT t.pd ≠ nextT t ∨ (nextT t ≠ chW ∧ isNoneB t.ck.secret = true) then (k, zeroT, [], 11) else
 if (provesP h t).2.2 = 6 then ({ k with us := setU t.ck.client k.us (· + 1) }, (provesP h t).1, (provesP h t).2.1, 6) else
 if (provesP h t).2.2 ≠ 0 then (k, (provesP h t).1, (provesP h t).2.1, (provesP h t).2.2) else
 if (seenT k.room k.ca (txtT t.pd) (t.now + 100 + 1) t.now).2 ≠ 0 then ({ k with ca := (seenT k.room k.ca (txtT t.pd) (t.now + 100 + 1) t.now).1 }, (provesP h t).1, (provesP h t).2.1, (seenT k.room k.ca (txtT t.pd) (t.now + 100 + 1) t.now).2) else
 if nextT t = otpM then ({ k with ca := (seenT k.room k.ca (txtT t.pd) (t.now + 100 + 1) t.now).1, us := (codeU t.ck.client k.us (provesP h t).2.1).1 }, (provesP h t).1, (provesP h t).2.1, (codeU t.ck.client k.us (provesP h t).2.1).2.2) else
 ({ k with ca := (seenT k.room k.ca (txtT t.pd) (t.now + 100 + 1) t.now).1 }, (provesP h t).1, (provesP h t).2.1, 0)
def requestP (h : Tm → Tm → Tm → Tm → Tok → List Int × Int) (k : Kd) (m : Tm) (now : Int) : Kd × Tm :=
 if (opensT k m now).2 ≠ 0 then (k, refT (opensT k m now).2) else
 if isNoneB (opensT k m now).1.pd = true then offerT k (opensT k m now).1 else
 if (takesP h k (opensT k m now).1).2.2.2 ≠ 0 then ((takesP h k (opensT k m now).1).1, refT (takesP h k (opensT k m now).1).2.2.2) else
 if (doneTa (opensT k m now).1).ck.done.length = (doneTa (opensT k m now).1).u.set.length then (ticketK (takesP h k (opensT k m now).1).1 (doneTa (opensT k m now).1), ticketR (takesP h k (opensT k m now).1).1 (doneTa (opensT k m now).1) (takesP h k (opensT k m now).1).2.1) else
 offerT (takesP h k (opensT k m now).1).1 (doneTa (opensT k m now).1)
theorem request_0 (k : Kd) (m : Tm) (now : Int) : requestT k m now = requestP hits0T k m now := by
 rw [← hitsT_0]
 rfl
def asks0T (W : Wo) (t : Tm) : Wo := { W with k := (requestP hits0T W.k t W.now).1, pool := saidP W.pool (requestP hits0T W.k t W.now).2 }
theorem asks_0 (W : Wo) (t : Tm) : (asksT W t).1 = asks0T W t := by
 unfold asksT asks0T
 rw [request_0]
def wk0 : Wo := newW [[spW, otpM]] 8
def wk1 : Wo := (wstartT wk0 0 (wk0.cs.getD 0 cl0)).1
def wk2 : Wo := asks0T wk1 (at_ wk1.pool 0)
def wk3 : Wo := (wtakesT wk2 0 (wk2.cs.getD 0 cl0) (at_ wk2.pool 1)).1
def wk4 : Wo := asks0T wk3 (at_ wk3.pool 2)
def wk5 : Wo := (wtakesT wk4 0 (wk4.cs.getD 0 cl0) (at_ wk4.pool 3)).1
def wk6 : Wo := asks0T wk5 (at_ wk5.pool 4)
def wk7 : Wo := (wtakesT wk6 0 (wk6.cs.getD 0 cl0) (at_ wk6.pool 5)).1
def wkB : Bool := (sessT (wk7.cs.getD 0 cl0)).2.2 && (decide (wk7.k.iss.length = 1) && (decide (wk1.pool.length = 1) && (decide (wk2.pool.length = 2) && (decide (wk3.pool.length = 3) && (decide (wk4.pool.length = 4) && (decide (wk5.pool.length = 5) && decide (wk6.pool.length = 6)))))))
theorem wkB_yes : wkB = true := by decide +kernel
end Go.Sl
namespace Go.Sl
open Go Go.Vc Go.Proofs Go.RowKit
theorem len1 {l : List Cln} (h : l.length = 1) : ∃ c, l = [c] := by
 match l, h with
 | [c], _ => exact ⟨c, rfl⟩
theorem names2 {l : List Bs} (h : l.length = 2) : ∃ x0 x1, l = [x0, x1] := by
 match l, h with
 | [c, d], _ => exact ⟨c, d, rfl⟩
theorem bad2 {l : List Bool} (h : l.length = 2) : ∃ x0 x1, l = [x0, x1] := by
 match l, h with
 | [c, d], _ => exact ⟨c, d, rfl⟩
theorem who_of {W : Wo} {s : Stp} (h : s.kind = 1 ∨ s.kind = 7 ∨ s.kind = 3 ∨ s.kind = 5) (hM : mayT W s = 0) : 0 ≤ s.who ∧ s.who < (W.cs.length : Int) := Classical.byContradiction fun hc => by
 rw [may_who h hc] at hM
 cases hM
theorem pos_of {W : Wo} {s : Stp} (h : s.kind = 2 ∨ s.kind = 3) (hM : mayT W s = 0) : 0 ≤ s.pos ∧ s.pos < (W.pool.length : Int) := Classical.byContradiction fun hc => by
 rw [may_pos h hc] at hM
 cases hM
theorem pool_at {W : Wo} {N j : Nat} (h : WInv N j W) {i : Nat} (hi : i < W.pool.length) : PoolOk (at_ W.pool i) := by
 refine h.pool _ ?_
 rw [at_, List.getD_eq_getElem?_getD, List.getElem?_eq_getElem hi]
 exact List.getElem_mem hi
theorem wt_none : wt noneT ≤ 1000000000 := by decide
theorem wt_or {t : Tm} (h : t = noneT ∨ PoolOk t) : wt t ≤ 1000000000 := by
 rcases h with rfl | h
 ·exact wt_none
 ·have := h.g.wt; omega
theorem doT_no {W : Wo} {s : Stp} (h : mayT W s ≠ 0) : doT W s = (W, noneT, mayT W s) := by
 unfold doT
 rw [if_pos h]
theorem doT_1 {W : Wo} {who pos : Int} {t : Tm} (hM : mayT W ⟨1, who, pos, t⟩ = 0) : doT W ⟨1, who, pos, t⟩ = wstartT W who.toNat (W.cs.getD who.toNat cl0) := by
 unfold doT
 rw [if_neg (fun h => h hM), if_pos rfl]
theorem doT_2 {W : Wo} {who pos : Int} {t : Tm} (hM : mayT W ⟨2, who, pos, t⟩ = 0) : doT W ⟨2, who, pos, t⟩ = asksT W (at_ W.pool pos.toNat) := by
 unfold doT
 rw [if_neg (fun h => h hM), if_neg (by decide : ¬ (2 : Int) = 1), if_pos rfl]
theorem doT_3 {W : Wo} {who pos : Int} {t : Tm} (hM : mayT W ⟨3, who, pos, t⟩ = 0) : doT W ⟨3, who, pos, t⟩ = wtakesT W who.toNat (W.cs.getD who.toNat cl0) (at_ W.pool pos.toNat) := by
 unfold doT
 rw [if_neg (fun h => h hM), if_neg (by decide : ¬ (3 : Int) = 1), if_neg (by decide : ¬ (3 : Int) = 2), if_neg (by decide : ¬ (3 : Int) = 4), if_pos rfl]
theorem step1_ok1 {j : Nat} (W : Wo) (h : WInv 1 j W) (hj : j ≤ 250) (who pos : Int) (t : Tm) (hp : pos ≤ 9223372036854775807) : PM (cx true) 24 (woO W) [.ptr 2000 0, .p (Stp.pv ⟨1, who, pos, t⟩)] (woO (doT W ⟨1, who, pos, t⟩).1) (.tupS [tv (doT W ⟨1, who, pos, t⟩).2.1, iv (doT W ⟨1, who, pos, t⟩).2.2]) ∧ WInv 1 (j + 3) (doT W ⟨1, who, pos, t⟩).1 := by
 obtain ⟨c, hcs⟩ := len1 h.len
 have hm := may1_ok1 W c hcs who pos t
 by_cases hM : mayT W ⟨1, who, pos, t⟩ = 0
 rotate_left
 ·rw [doT_no hM]
  exact ⟨doR_ok1 W c hcs _ _ hM hm, h.mono (by omega)⟩
 rw [hM] at hm
 rw [doT_1 hM]
 have hwho := who_of (s := ⟨1, who, pos, t⟩) (by simp) hM
 rw [hcs] at hwho
 have w0 : 0 ≤ who := hwho.1
 have w1 : who < 1 := hwho.2
 have t0 := h.t0
 have t1 := h.t1
 have n0 := h.n0
 have n1 := h.n1
 have pl := h.plen
 have tl := h.tlen
 obtain rfl : who = 0 := by omega
 have hx : W.cs.getD 0 cl0 = c := by rw [hcs]; rfl
 have hci : CInv j c := h.cs _ (by rw [hcs]; simp)
 rw [show (0 : Int).toNat = 0 from rfl, hx]
 have hg := (hci.start h.n0 (by omega)).g (j := j) (by omega) rfl
 exact ⟨do1_ok10 W c hcs pos t hm n0 (by omega) (by have := hci.name; omega) (wt_or (.inr (start_pool hg))) (by omega), h.start (by omega) hci⟩
theorem step2_ok1 {j : Nat} (W : Wo) (h : WInv 1 j W) (hj : j ≤ 250) (who pos : Int) (t : Tm) (hp : pos ≤ 9223372036854775807) : PM (cx true) 24 (woO W) [.ptr 2000 0, .p (Stp.pv ⟨2, who, pos, t⟩)] (woO (doT W ⟨2, who, pos, t⟩).1) (.tupS [tv (doT W ⟨2, who, pos, t⟩).2.1, iv (doT W ⟨2, who, pos, t⟩).2.2]) ∧ WInv 1 (j + 3) (doT W ⟨2, who, pos, t⟩).1 := by
 obtain ⟨c, hcs⟩ := len1 h.len
 have hm := may2_ok1 W c hcs who pos t
 by_cases hM : mayT W ⟨2, who, pos, t⟩ = 0
 rotate_left
 ·rw [doT_no hM]
  exact ⟨doR_ok1 W c hcs _ _ hM hm, h.mono (by omega)⟩
 rw [hM] at hm
 rw [doT_2 hM]
 have hpos := pos_of (s := ⟨2, who, pos, t⟩) (by simp) hM
 have p0 : 0 ≤ pos := hpos.1
 have p1 : pos.toNat < W.pool.length := by have q : pos < (W.pool.length : Int) := hpos.2; omega
 have hin : InOk (at_ W.pool pos.toNat) := .inr (pool_at h p1)
 have hwt : wt (at_ W.pool pos.toNat) ≤ 1000000000 := by have := (pool_at h p1).g.wt; omega
 have t0 := h.t0
 have t1 := h.t1
 have n0 := h.n0
 have n1 := h.n1
 have pl := h.plen
 have tl := h.tlen
 obtain ⟨hi, hpo⟩ := h.asks (by omega) hin
 have ha := asks_ok1 W c hcs _ hwt (h.k.ok (by omega)) (by omega) (by omega) (wt_or (.inr hpo)) (by omega)
 exact ⟨do2_ok1 W c hcs who pos t hm ha p0 p1, hi⟩
theorem step3_ok1 {j : Nat} (W : Wo) (h : WInv 1 j W) (hj : j ≤ 250) (who pos : Int) (t : Tm) (hp : pos ≤ 9223372036854775807) : PM (cx true) 24 (woO W) [.ptr 2000 0, .p (Stp.pv ⟨3, who, pos, t⟩)] (woO (doT W ⟨3, who, pos, t⟩).1) (.tupS [tv (doT W ⟨3, who, pos, t⟩).2.1, iv (doT W ⟨3, who, pos, t⟩).2.2]) ∧ WInv 1 (j + 3) (doT W ⟨3, who, pos, t⟩).1 := by
 obtain ⟨c, hcs⟩ := len1 h.len
 have hm := may3_ok1 W c hcs who pos t
 by_cases hM : mayT W ⟨3, who, pos, t⟩ = 0
 rotate_left
 ·rw [doT_no hM]
  exact ⟨doR_ok1 W c hcs _ _ hM hm, h.mono (by omega)⟩
 rw [hM] at hm
 rw [doT_3 hM]
 have hwho := who_of (s := ⟨3, who, pos, t⟩) (by simp) hM
 rw [hcs] at hwho
 have w0 : 0 ≤ who := hwho.1
 have w1 : who < 1 := hwho.2
 have hpos := pos_of (s := ⟨3, who, pos, t⟩) (by simp) hM
 have p0 : 0 ≤ pos := hpos.1
 have p1 : pos.toNat < W.pool.length := by have q : pos < (W.pool.length : Int) := hpos.2; omega
 have hin : InOk (at_ W.pool pos.toNat) := .inr (pool_at h p1)
 have hwt : wt (at_ W.pool pos.toNat) ≤ 1000000000 := by have := (pool_at h p1).g.wt; omega
 have t0 := h.t0
 have t1 := h.t1
 have n0 := h.n0
 have n1 := h.n1
 have pl := h.plen
 have tl := h.tlen
 obtain rfl : who = 0 := by omega
 have hx : W.cs.getD 0 cl0 = c := by rw [hcs]; rfl
 have hci : CInv j c := h.cs _ (by rw [hcs]; simp)
 rw [show (0 : Int).toNat = 0 from rfl, hx]
 obtain ⟨hi, hpo⟩ := h.takes (i := 0) (by omega) hci hin
 have ha := takes_ok10 W c hcs _ hwt n0 (by omega) (hci.ok (by omega)) (by omega) (by omega) (wt_or hpo) (by omega)
 exact ⟨do3_ok10 W c hcs pos t hm ha p0 p1, hi⟩
end Go.Sl
namespace Go.So
open Go Go.Vc Go.Proofs
def tiInt : TI := { k := 5, agg := false, sz := 1, bytes := 8, zero := .int .i64 0, flds := [], elem := 0, alen := 0 }
def tiBool : TI := { k := 6, agg := false, sz := 1, bytes := 1, zero := .bool false, flds := [], elem := 0, alen := 0 }
def tiU8 : TI := { k := 5, agg := false, sz := 1, bytes := 1, zero := .int .u8 0, flds := [], elem := 0, alen := 0 }
def tiStr : TI := { k := 4, agg := false, sz := 1, bytes := 16, zero := .str [], flds := [], elem := 0, alen := 0 }
def tiI32 : TI := { k := 5, agg := false, sz := 1, bytes := 4, zero := .int .i32 0, flds := [], elem := 0, alen := 0 }
def tiBytes : TI := { k := 2, agg := false, sz := 1, bytes := 24, zero := .nilS, flds := [], elem := 5, alen := 0 }
def tiErr : TI := { k := 5, agg := false, sz := 1, bytes := 8, zero := .int .i64 0, flds := [], elem := 0, alen := 0 }
def tiUint : TI := { k := 5, agg := false, sz := 1, bytes := 8, zero := .int .u64 0, flds := [], elem := 0, alen := 0 }
def tiU32 : TI := { k := 5, agg := false, sz := 1, bytes := 4, zero := .int .u32 0, flds := [], elem := 0, alen := 0 }
def tiU64 : TI := { k := 5, agg := false, sz := 1, bytes := 8, zero := .int .u64 0, flds := [], elem := 0, alen := 0 }
def tiInts : TI := { k := 2, agg := false, sz := 1, bytes := 24, zero := .nilS, flds := [], elem := 3, alen := 0 }
def tiB20 : TI := { k := 3, agg := true, sz := 20, bytes := 20, zero := .agg (List.replicate 20 (.int .u8 0)), flds := [], elem := 5, alen := 20 }
def tiB8 : TI := { k := 3, agg := true, sz := 8, bytes := 8, zero := .agg (List.replicate 8 (.int .u8 0)), flds := [], elem := 5, alen := 8 }
def tiI3 : TI := { k := 3, agg := true, sz := 3, bytes := 24, zero := .agg (List.replicate 3 (.int .i64 0)), flds := [], elem := 3, alen := 3 }
def tiW5 : TI := { k := 3, agg := true, sz := 5, bytes := 20, zero := .agg (List.replicate 5 (.int .u32 0)), flds := [], elem := 266, alen := 5 }
def tiW80 : TI := { k := 3, agg := true, sz := 80, bytes := 320, zero := .agg (List.replicate 80 (.int .u32 0)), flds := [], elem := 266, alen := 80 }
def tiHash : TI := { k := 1, agg := true, sz := 7, bytes := 56, zero := .agg [.int .u32 0, .int .u32 0, .int .u32 0, .int .u32 0, .int .u32 0, .nilS, .int .u64 0], flds := [(0, 5), (5, 1), (6, 1)], elem := 0, alen := 0 }
def tiPHash : TI := { k := 9, agg := false, sz := 1, bytes := 8, zero := .exact (.pointer none), flds := [], elem := 0, alen := 0 }
noncomputable def T (t : Nat) : Option TI :=
 cond (Nat.beq t 3) (some tiInt) <|
 cond (Nat.beq t 4) (some tiBool) <|
 cond (Nat.beq t 5) (some tiU8) <|
 cond (Nat.beq t 9) (some tiStr) <|
 cond (Nat.beq t 21) (some tiI32) <|
 cond (Nat.beq t 71) (some tiBytes) <|
 cond (Nat.beq t 33) (some tiErr) <|
 cond (Nat.beq t 189) (some tiUint) <|
 cond (Nat.beq t 266) (some tiU32) <|
 cond (Nat.beq t 258) (some tiU64) <|
 cond (Nat.beq t 99) (some tiInts) <|
 cond (Nat.beq t 129) (some tiB20) <|
 cond (Nat.beq t 128) (some tiB8) <|
 cond (Nat.beq t 232) (some tiI3) <|
 cond (Nat.beq t 267) (some tiW5) <|
 cond (Nat.beq t 291) (some tiW80) <|
 cond (Nat.beq t 269) (some tiHash) <|
 cond (Nat.beq t 228) (some tiPHash) <|
 none
theorem ite_some {t n : Nat} {ti x : TI} {r : Option TI} (h : (if t = n then some x else r) = some ti) : (t = n ∧ some x = some ti) ∨ r = some ti := by
 split at h
 ·exact .inl ⟨by assumption, h⟩
 ·exact .inr h
theorem T_ok (t : Nat) (ti : TI) (h : T t = some ti) : TyOk Tryz.prog t ti := by
 simp only [T, beq_ite] at h
 rcases ite_some h with ⟨e, h⟩ | h; · { subst e; cases h; exact TyOk.of (z := .int .i64 0) (d := .int .i64) (by kernel_rfl) Tryz.underlying3 rfl rfl ⟨rfl, rfl, rfl⟩ (fun _ => rfl) (by intro h; cases h) }
 rcases ite_some h with ⟨e, h⟩ | h; · { subst e; cases h; exact TyOk.of (z := .bool false) (d := .bool) (by kernel_rfl) Tryz.underlying4 rfl rfl ⟨rfl, rfl⟩ (fun _ => rfl) (by intro h; cases h) }
 rcases ite_some h with ⟨e, h⟩ | h; · { subst e; cases h; exact TyOk.of (z := .int .u8 0) (d := .int .u8) (by kernel_rfl) Tryz.underlying5 rfl rfl ⟨rfl, rfl, rfl⟩ (fun _ => rfl) (by intro h; cases h) }
 rcases ite_some h with ⟨e, h⟩ | h; · { subst e; cases h; exact TyOk.of (z := .string ⟨#[]⟩) (d := .string) (by kernel_rfl) Tryz.underlying9 rfl rfl ⟨rfl, rfl⟩ (fun _ => rfl) (by intro h; cases h) }
 rcases ite_some h with ⟨e, h⟩ | h; · { subst e; cases h; exact TyOk.of (z := .int .i32 0) (d := .int .i32) (by kernel_rfl) Tryz.underlying21 rfl rfl ⟨rfl, rfl, rfl⟩ (fun _ => rfl) (by intro h; cases h) }
 rcases ite_some h with ⟨e, h⟩ | h; · { subst e; cases h; exact TyOk.of (z := .slice none 0 0) (d := .slice 5) (by kernel_rfl) Tryz.underlying71 rfl rfl ⟨rfl, rfl, rfl⟩ (fun _ => rfl) (by intro h; cases h) }
 rcases ite_some h with ⟨e, h⟩ | h; · { subst e; cases h; exact TyOk.of (z := .int .i64 0) (d := .int .i64) (by kernel_rfl) Tryz.underlying33 rfl rfl ⟨rfl, rfl, rfl⟩ (fun _ => rfl) (by intro h; cases h) }
 rcases ite_some h with ⟨e, h⟩ | h; · { subst e; cases h; exact TyOk.of (z := .int .u64 0) (d := .int .u64) (by kernel_rfl) Tryz.underlying189 rfl rfl ⟨rfl, rfl, rfl⟩ (fun _ => rfl) (by intro h; cases h) }
 rcases ite_some h with ⟨e, h⟩ | h; · { subst e; cases h; exact TyOk.of (z := .int .u32 0) (d := .int .u32) (by kernel_rfl) Tryz.underlying266 rfl rfl ⟨rfl, rfl, rfl⟩ (fun _ => rfl) (by intro h; cases h) }
 rcases ite_some h with ⟨e, h⟩ | h; · { subst e; cases h; exact TyOk.of (z := .int .u64 0) (d := .int .u64) (by kernel_rfl) Tryz.underlying258 rfl rfl ⟨rfl, rfl, rfl⟩ (fun _ => rfl) (by intro h; cases h) }
 rcases ite_some h with ⟨e, h⟩ | h; · { subst e; cases h; exact TyOk.of (z := .slice none 0 0) (d := .slice 3) (by kernel_rfl) Tryz.underlying99 rfl rfl ⟨rfl, rfl, rfl⟩ (fun _ => rfl) (by intro h; cases h) }
 rcases ite_some h with ⟨e, h⟩ | h; · { subst e; cases h; exact TyOk.of (z := .agg (List.replicate 20 (Value.int .u8 0)).toArray) (d := .array 20 5) (by kernel_rfl) Tryz.underlying129 (by kernel_rfl) rfl ⟨rfl, rfl, rfl, rfl⟩ (by intro h; cases h) (fun _ => rfl) }
 rcases ite_some h with ⟨e, h⟩ | h; · { subst e; cases h; exact TyOk.of (z := .agg (List.replicate 8 (Value.int .u8 0)).toArray) (d := .array 8 5) (by kernel_rfl) Tryz.underlying128 (by kernel_rfl) rfl ⟨rfl, rfl, rfl, rfl⟩ (by intro h; cases h) (fun _ => rfl) }
 rcases ite_some h with ⟨e, h⟩ | h; · { subst e; cases h; exact TyOk.of (z := .agg (List.replicate 3 (Value.int .i64 0)).toArray) (d := .array 3 3) (by kernel_rfl) Tryz.underlying232 (by kernel_rfl) rfl ⟨rfl, rfl, rfl, rfl⟩ (by intro h; cases h) (fun _ => rfl) }
 rcases ite_some h with ⟨e, h⟩ | h; · { subst e; cases h; exact TyOk.of (z := .agg (List.replicate 5 (Value.int .u32 0)).toArray) (d := .array 5 266) (by kernel_rfl) Tryz.underlying267 (by kernel_rfl) rfl ⟨rfl, rfl, rfl, rfl⟩ (by intro h; cases h) (fun _ => rfl) }
 rcases ite_some h with ⟨e, h⟩ | h; · { subst e; cases h; exact TyOk.of (z := .agg (List.replicate 80 (Value.int .u32 0)).toArray) (d := .array 80 266) (by kernel_rfl) Tryz.underlying291 (by kernel_rfl) rfl ⟨rfl, rfl, rfl, rfl⟩ (by intro h; cases h) (fun _ => rfl) }
 rcases ite_some h with ⟨e, h⟩ | h; · { subst e; cases h; exact TyOk.of (z := .agg #[.int .u32 0, .int .u32 0, .int .u32 0, .int .u32 0, .int .u32 0, .slice none 0 0, .int .u64 0]) (by kernel_rfl) Tryz.underlying269 (by kernel_rfl) rfl ⟨rfl, rfl, by kernel_rfl, by kernel_rfl⟩ (by intro h; cases h) (fun _ => rfl) }
 rcases ite_some h with ⟨e, h⟩ | h; · { subst e; cases h; exact TyOk.of (z := .pointer none) (by kernel_rfl) Tryz.underlying228 rfl rfl ⟨.inr rfl, rfl⟩ (fun _ => rfl) (by intro h; cases h) }
 cases h
def X10 (w : World) : Prop := Lib.TabIs Tryz.prog w "internal/strconv.uint64pow10" .u64 Lib.pow10Tab
theorem gX10 : Tryz.prog.globalNamed "internal/strconv.uint64pow10" = some 3 := by kernel_rfl
theorem X10_stay {w w' : World} (h : X10 w) (hb : w'.heap[3]? = w.heap[3]?) : X10 w' := by
 have h : w.var? Tryz.prog "internal/strconv.uint64pow10" = _ := h
 show w'.var? Tryz.prog "internal/strconv.uint64pow10" = _
 rw [← h]
 unfold World.var?
 rw [gX10]
 simp only [Option.bind_some, hb]
def XX (ok : Nat → Prop) (w : World) : Prop := X10 w ∧ ok 3
noncomputable def cx : Cx := { P := Tryz.prog, T := T, tab := fun _ => none, X := XX }
theorem cx_ok : CxOk cx :=
 ⟨T_ok, fun ok ok' w w' h hok hs hlt => ⟨X10_stay h.1 (hs _ h.2 (hlt _ h.2)), hok _ h.2⟩⟩
theorem mixed : cx.P.follows .mixedOrders = true := by kernel_rfl
abbrev K (f : FuncId) (args : List SV) (r : Res) : Prop := PC cx f (fun _ => .no) args r
abbrev iv (n : Int) : SV := .p (.int .i64 n)
end Go.So
