/- Part 17 of the proof: Ye. -/
import Derived.Test.YteicafhbhdliaaaGreatDoorOap
set_option linter.unusedSimpArgs false
set_option linter.unusedVariables false
set_option maxHeartbeats 4000000
namespace Go.Sl
open Go Go.Vc Go.Proofs Go.RowKit
def nW : Bs := [110]
def sbW : Bs := [115, 117, 98, 32]
def nT (n : Int) : Bs := nW ++ Lib.itoa (n + 1)
def sbT (n : Int) : Tm := cI (sbW ++ Lib.itoa (n + 1))
def bU (W : Wo) (i : Nat) (c : Cln) : Wo × Tm × Int := ({ W with cs := W.cs.set i (dg c (nT W.n) (sbT W.n)), pool := dW W.pool (eF (dg c (nT W.n) (sbT W.n)) aw aw), n := W.n + 1 }, eF (dg c (nT W.n) (sbT W.n)) aw aw, 0)
def pb (W : Wo) (pos : Int) : Wo := { W with now := W.now + (1 + max pos 0 % 8) }
def aZ (W : Wo) (i : Nat) : Wo := { W with bad := if W.bad.getD i false = true then W.bad else W.bad.set i true, told := if W.bad.getD i false = true then W.told else W.told ++ [pwT (W.names.getD i []), sdT (W.names.getD i [])] }
def gK (W : Wo) : Wo := { W with lost := true, told := if W.lost = true then W.told else W.told ++ [cI [104, 111, 115, 116]] }
def gj (W : Wo) : Wo := { W with k := { W.k with ca := [] } }
theorem sm (W : Wo) (c : Cln) (hc : W.cs = [c]) (s : Stp) (M : Int) (hM : M ≠ 0) (hm : PM (cx true) 58 (woQ W) [.ptr 2000 0, .p s.pv] (woQ W) (iv M)) :
  PM (cx true) 24 (woO W) [.ptr 2000 0, .p s.pv] (woO W) (.tupS [tv aw, iv M]) := by
 obtain ⟨k, cs, names, pool, given, told, bad, lost, now, n⟩ := W;simp only at hc;subst hc;refine pmv { own := oO [100010, 100036, 100051, 100052, 100067, 100084, 100168, 139, 160] } Tryz.func24 ?_;refine goL ?_;refine ac.go gQ hm (goL ?_);refine aa ?_ ?_ <;> intro h1
 ·refine goL ?_;refine cC (bq true) (goL ?_);refine ⟨gI, ?_, ?_, ?_, ?_⟩
  ·repeat ((conv => whnf); first | refine ⟨rfl, ?_⟩ | refine ⟨LE.of rfl, ?_⟩)
   trivial
  ·repeat ((conv => whnf); refine ⟨.inr (.inl rfl), ?_⟩)
   trivial
  ·rfl
  ·rfl
 ·exact absurd (by simpa using h1) hM
theorem eX (W : Wo) (c d : Cln) (hc : W.cs = [c, d]) (s : Stp) (M : Int) (hM : M ≠ 0) (hm : PM (cx true) 58 (woQ W) [.ptr 2000 0, .p s.pv] (woQ W) (iv M)) :
  PM (cx true) 24 (woO W) [.ptr 2000 0, .p s.pv] (woO W) (.tupS [tv aw, iv M]) := by
 obtain ⟨k, cs, names, pool, given, told, bad, lost, now, n⟩ := W;simp only at hc;subst hc;refine pmv { own := oO [100010, 100036, 100051, 100052, 100067, 100084, 100168, 139, 160] } Tryz.func24 ?_;refine goL ?_;refine ac.go gQ hm (goL ?_);refine aa ?_ ?_ <;> intro h1
 ·refine goL ?_;refine cC (bq true) (goL ?_);refine ⟨gI, ?_, ?_, ?_, ?_⟩
  ·repeat ((conv => whnf); first | refine ⟨rfl, ?_⟩ | refine ⟨LE.of rfl, ?_⟩)
   trivial
  ·repeat ((conv => whnf); refine ⟨.inr (.inl rfl), ?_⟩)
   trivial
  ·rfl
  ·rfl
 ·exact absurd (by simpa using h1) hM
set_option maxHeartbeats 8000000 in
theorem Cd (W : Wo) (c : Cln) (hc : W.cs = [c]) (pos : Int) (t : Tm) (hm : PM (cx true) 58 (woQ W) [.ptr 2000 0, .p (Stp.pv ⟨1, 0, pos, t⟩)] (woQ W) (iv 0)) (h0 : 0 <= W.n) (h1 : W.n < 1000000000000) (hx : c.name.length <= 1000000000) (hr : wt (eF (dg c (nT W.n) (sbT W.n)) aw aw) <= 1000000000) (hp : W.pool.length <= 1000000) :
  PM (cx true) 24 (woO W) [.ptr 2000 0, .p (Stp.pv ⟨1, 0, pos, t⟩)] (woO (bU W 0 c).1) (.tupS [tv (bU W 0 c).2.1, iv (bU W 0 c).2.2]) := by
 obtain ⟨k, cs, names, pool, given, told, bad, lost, now, n⟩ := W;simp only at hc hm h0 h1 hr hp;subst hc;unfold bU;simp only;have hil := bj (n := n + 1) (by omega) (by omega);have hn := o6 ⟨k, [c], names, pool, given, told, bad, lost, now, n⟩ c rfl h0 h1;simp only at hn;have hnl : (nT n).length <= 1000000000 := by unfold nT; rw [List.length_append]; show 1 + _ <= _; omega
 have hq := o0 c (nT n) (sbT n) hx hnl;have hat : K true 49 [sv (sbW ++ Lib.itoa (n + 1))] (.pv (TV (sbT n))) := bl true _;have hl1 : nW.length + (Lib.itoa (n + 1)).length <= 9223372036854775807 := by show 1 + _ <= _; omega
 have hl2 : sbW.length + (Lib.itoa (n + 1)).length <= 9223372036854775807 := by show 4 + _ <= _; omega
 revert hr hq;generalize dg c (nT n) (sbT n) = c2;intro hr hq;have hs := o7 ⟨k, [c2], names, pool, given, told, bad, lost, now, n + 1⟩ c2 rfl (eF c2 aw aw) 0 hr hp;revert hq hs;generalize eF c2 aw aw = y;intro hq hs
 dsimp only [Stp.pv] at hm ⊢
 refine pmv { own := oO [100010, 100036, 100051, 100052, 100067, 100084, 100168, 139, 160], tr := trT [(15, [0, 0, 2, 6, 14, 0, 32, 126, 254, 0, 512, 0, 2048, 6144, 16382, 32767, 65535, 65535, 262143, 524287], .pin 0 (qQ [1, 2, 3, 4, 5, 6, 7, 8, 9, 10, 11, 12, 13, 14] (.keep [4, 5, 37, 51] [4, 2000, 2001, 1001, 2006, 1003, 2005, 2010, 2011, 2013, 1012, 1014, 1010, 2020, 1020] (qQ [15, 16, 17, 18, 19] .fin)))), (23, [0, 1, 3, 7, 0, 16, 48, 112, 0, 256, 1008, 2032, 4080, 0, 8192, 24576, 57344, 0, 131072, 516096, 1040384, 2097136, 15, 0, 16777215, 33554431, 67108863, 4194319, 268435455, 536870911, 33554431, 1107296255, 3254779903], qQ [0, 1, 2, 3, 4, 5, 6, 7, 8, 9, 10, 11, 12, 13, 14, 15, 16, 17, 18, 19, 20, 21, 22, 23] (.alt (qQ [24, 27, 30, 31] (.alt (.one 25 (.alt (.one 26 (.alt (.one 28 (.alt (qQ [29, 32] .fin) (qQ [32, 29] .fin))) (qQ [32, 28, 29] .fin))) (qQ [32, 26, 28, 29] .fin))) (qQ [32, 25, 26, 28, 29] .fin))) (qQ [27, 24, 30, 31] (.alt (.one 25 (.alt (.one 26 (.alt (.one 28 (.alt (qQ [29, 32] .fin) (qQ [32, 29] .fin))) (qQ [32, 28, 29] .fin))) (qQ [32, 26, 28, 29] .fin))) (qQ [32, 25, 26, 28, 29] .fin))))), (26, [0, 1, 3, 7, 0, 15, 0, 127, 255, 511, 255, 1279, 3327], qQ [0, 1, 2, 3, 4, 5, 6, 7, 10, 11] (.alt (.one 8 (.alt (qQ [9, 12] .fin) (qQ [12, 9] .fin))) (qQ [12, 8, 9] .fin)))] } Tryz.func24 ?_
 refine goL ?_;refine ac.go gQ hm (goL ?_);refine ac.go gQ hn ?_
 repeat' ((conv => whnf); first | refine sS ?_ | refine aQ ?_ ?_ | refine ⟨hl1, ?_⟩ | refine ⟨hl2, ?_⟩ | refine ⟨_, ar.pr hat rfl rfl, ?_⟩ | refine ⟨_, ac.pr gI hq ⟨LE.of rfl, LE.of rfl, LE.of rfl, trivial⟩ (by (conv => whnf); exact ⟨.inr (.inl rfl), .inr (.inl rfl), trivial⟩) rfl, ?_⟩ | refine ⟨_, ac.pr gI hs ⟨LE.of rfl, LE.of rfl, LE.of rfl, trivial⟩ (by (conv => whnf); exact ⟨.inr (.inl rfl), .inr (.inl rfl), .inr (.inl rfl), .inr (.inl rfl), .inr (.inl rfl), .inr (.inl rfl), .inr (.inl rfl), .inr (.inl rfl), .inr (.inl rfl), .inr (.inl rfl), .inr (.inl rfl), .inr (.inl rfl), .inr (.inl rfl), .inr (.inl rfl), trivial⟩) rfl, ?_⟩ | fail)
 all_goals (conv => whnf)
 all_goals
  refine ⟨gI, ?_, ?_, ?_, ?_⟩
  ·repeat ((conv => whnf); first | refine ⟨rfl, ?_⟩ | refine ⟨LE.of rfl, ?_⟩)
   trivial
  ·repeat ((conv => whnf); refine ⟨.inr (.inl rfl), ?_⟩)
   trivial
  ·rfl
  ·rfl
set_option maxHeartbeats 8000000 in
theorem Ce (W : Wo) (c d : Cln) (hc : W.cs = [c, d]) (pos : Int) (t : Tm) (hm : PM (cx true) 58 (woQ W) [.ptr 2000 0, .p (Stp.pv ⟨1, 0, pos, t⟩)] (woQ W) (iv 0)) (h0 : 0 <= W.n) (h1 : W.n < 1000000000000) (hx : c.name.length <= 1000000000) (hr : wt (eF (dg c (nT W.n) (sbT W.n)) aw aw) <= 1000000000) (hp : W.pool.length <= 1000000) :
  PM (cx true) 24 (woO W) [.ptr 2000 0, .p (Stp.pv ⟨1, 0, pos, t⟩)] (woO (bU W 0 c).1) (.tupS [tv (bU W 0 c).2.1, iv (bU W 0 c).2.2]) := by
 obtain ⟨k, cs, names, pool, given, told, bad, lost, now, n⟩ := W;simp only at hc hm h0 h1 hr hp;subst hc;unfold bU;simp only;have hil := bj (n := n + 1) (by omega) (by omega);have hn := iO ⟨k, [c, d], names, pool, given, told, bad, lost, now, n⟩ c d rfl h0 h1;simp only at hn;have hnl : (nT n).length <= 1000000000 := by unfold nT; rw [List.length_append]; show 1 + _ <= _; omega
 have hq := o0 c (nT n) (sbT n) hx hnl;have hat : K true 49 [sv (sbW ++ Lib.itoa (n + 1))] (.pv (TV (sbT n))) := bl true _;have hl1 : nW.length + (Lib.itoa (n + 1)).length <= 9223372036854775807 := by show 1 + _ <= _; omega
 have hl2 : sbW.length + (Lib.itoa (n + 1)).length <= 9223372036854775807 := by show 4 + _ <= _; omega
 revert hr hq;generalize dg c (nT n) (sbT n) = c2;intro hr hq;have hs := jC ⟨k, [c2, d], names, pool, given, told, bad, lost, now, n + 1⟩ c2 d rfl (eF c2 aw aw) 0 hr hp;revert hq hs;generalize eF c2 aw aw = y;intro hq hs
 dsimp only [Stp.pv] at hm ⊢
 refine pmv { own := oO [100010, 100036, 100051, 100052, 100067, 100084, 100168, 139, 160], tr := trT [(15, [0, 0, 2, 6, 14, 0, 32, 126, 254, 0, 512, 0, 2048, 6144, 16382, 32767, 65535, 65535, 262143, 524287], .pin 0 (qQ [1, 2, 3, 4, 5, 6, 7, 8, 9, 10, 11, 12, 13, 14] (.keep [4, 5, 37, 51] [4, 2000, 2001, 1001, 2006, 1003, 2005, 2010, 2011, 2013, 1012, 1014, 1010, 2020, 1020, 2030, 1030] (qQ [15, 16, 17, 18, 19] .fin)))), (23, [0, 1, 3, 7, 0, 16, 48, 112, 0, 256, 1008, 2032, 4080, 0, 8192, 24576, 57344, 0, 131072, 516096, 1040384, 2097136, 15, 0, 16777215, 33554431, 67108863, 4194319, 268435455, 536870911, 33554431, 1107296255, 3254779903], qQ [0, 1, 2, 3, 4, 5, 6, 7, 8, 9, 10, 11, 12, 13, 14, 15, 16, 17, 18, 19, 20, 21, 22, 23] (.alt (qQ [24, 27, 30, 31] (.alt (.one 25 (.alt (.one 26 (.alt (.one 28 (.alt (qQ [29, 32] .fin) (qQ [32, 29] .fin))) (qQ [32, 28, 29] .fin))) (qQ [32, 26, 28, 29] .fin))) (qQ [32, 25, 26, 28, 29] .fin))) (qQ [27, 24, 30, 31] (.alt (.one 25 (.alt (.one 26 (.alt (.one 28 (.alt (qQ [29, 32] .fin) (qQ [32, 29] .fin))) (qQ [32, 28, 29] .fin))) (qQ [32, 26, 28, 29] .fin))) (qQ [32, 25, 26, 28, 29] .fin))))), (26, [0, 1, 3, 7, 0, 15, 0, 127, 255, 511, 255, 1279, 3327], qQ [0, 1, 2, 3, 4, 5, 6, 7, 10, 11] (.alt (.one 8 (.alt (qQ [9, 12] .fin) (qQ [12, 9] .fin))) (qQ [12, 8, 9] .fin)))] } Tryz.func24 ?_
 refine goL ?_;refine ac.go gQ hm (goL ?_);refine ac.go gQ hn ?_
 repeat' ((conv => whnf); first | refine sS ?_ | refine aQ ?_ ?_ | refine ⟨hl1, ?_⟩ | refine ⟨hl2, ?_⟩ | refine ⟨_, ar.pr hat rfl rfl, ?_⟩ | refine ⟨_, ac.pr gI hq ⟨LE.of rfl, LE.of rfl, LE.of rfl, trivial⟩ (by (conv => whnf); exact ⟨.inr (.inl rfl), .inr (.inl rfl), trivial⟩) rfl, ?_⟩ | refine ⟨_, ac.pr gI hs ⟨LE.of rfl, LE.of rfl, LE.of rfl, trivial⟩ (by (conv => whnf); exact ⟨.inr (.inl rfl), .inr (.inl rfl), .inr (.inl rfl), .inr (.inl rfl), .inr (.inl rfl), .inr (.inl rfl), .inr (.inl rfl), .inr (.inl rfl), .inr (.inl rfl), .inr (.inl rfl), .inr (.inl rfl), .inr (.inl rfl), .inr (.inl rfl), .inr (.inl rfl), .inr (.inl rfl), .inr (.inl rfl), trivial⟩) rfl, ?_⟩ | fail)
 all_goals (conv => whnf)
 all_goals
  refine ⟨gI, ?_, ?_, ?_, ?_⟩
  ·repeat ((conv => whnf); first | refine ⟨rfl, ?_⟩ | refine ⟨LE.of rfl, ?_⟩)
   trivial
  ·repeat ((conv => whnf); refine ⟨.inr (.inl rfl), ?_⟩)
   trivial
  ·rfl
  ·rfl
set_option maxHeartbeats 8000000 in
theorem Cg (W : Wo) (c d : Cln) (hc : W.cs = [c, d]) (pos : Int) (t : Tm) (hm : PM (cx true) 58 (woQ W) [.ptr 2000 0, .p (Stp.pv ⟨1, 1, pos, t⟩)] (woQ W) (iv 0)) (h0 : 0 <= W.n) (h1 : W.n < 1000000000000) (hx : d.name.length <= 1000000000) (hr : wt (eF (dg d (nT W.n) (sbT W.n)) aw aw) <= 1000000000) (hp : W.pool.length <= 1000000) :
  PM (cx true) 24 (woO W) [.ptr 2000 0, .p (Stp.pv ⟨1, 1, pos, t⟩)] (woO (bU W 1 d).1) (.tupS [tv (bU W 1 d).2.1, iv (bU W 1 d).2.2]) := by
 obtain ⟨k, cs, names, pool, given, told, bad, lost, now, n⟩ := W;simp only at hc hm h0 h1 hr hp;subst hc;unfold bU;simp only;have hil := bj (n := n + 1) (by omega) (by omega);have hn := iO ⟨k, [c, d], names, pool, given, told, bad, lost, now, n⟩ c d rfl h0 h1;simp only at hn;have hnl : (nT n).length <= 1000000000 := by unfold nT; rw [List.length_append]; show 1 + _ <= _; omega
 have hq := o0 d (nT n) (sbT n) hx hnl;have hat : K true 49 [sv (sbW ++ Lib.itoa (n + 1))] (.pv (TV (sbT n))) := bl true _;have hl1 : nW.length + (Lib.itoa (n + 1)).length <= 9223372036854775807 := by show 1 + _ <= _; omega
 have hl2 : sbW.length + (Lib.itoa (n + 1)).length <= 9223372036854775807 := by show 4 + _ <= _; omega
 revert hr hq;generalize dg d (nT n) (sbT n) = c2;intro hr hq;have hs := jC ⟨k, [c, c2], names, pool, given, told, bad, lost, now, n + 1⟩ c c2 rfl (eF c2 aw aw) 0 hr hp;revert hq hs;generalize eF c2 aw aw = y;intro hq hs
 dsimp only [Stp.pv] at hm ⊢
 refine pmv { own := oO [100010, 100036, 100051, 100052, 100067, 100084, 100168, 139, 160], tr := trT [(15, [0, 0, 2, 6, 14, 0, 32, 126, 254, 0, 512, 0, 2048, 6144, 16382, 32767, 65535, 65535, 262143, 524287], .pin 0 (qQ [1, 2, 3, 4, 5, 6, 7, 8, 9, 10, 11, 12, 13, 14] (.keep [4, 5, 37, 51] [4, 2000, 2001, 1001, 2006, 1003, 2005, 2010, 2011, 2013, 1012, 1014, 1010, 2020, 1020, 2030, 1030] (qQ [15, 16, 17, 18, 19] .fin)))), (23, [0, 1, 3, 7, 0, 16, 48, 112, 0, 256, 1008, 2032, 4080, 0, 8192, 24576, 57344, 0, 131072, 516096, 1040384, 2097136, 15, 0, 16777215, 33554431, 67108863, 4194319, 268435455, 536870911, 33554431, 1107296255, 3254779903], qQ [0, 1, 2, 3, 4, 5, 6, 7, 8, 9, 10, 11, 12, 13, 14, 15, 16, 17, 18, 19, 20, 21, 22, 23] (.alt (qQ [24, 27, 30, 31] (.alt (.one 25 (.alt (.one 26 (.alt (.one 28 (.alt (qQ [29, 32] .fin) (qQ [32, 29] .fin))) (qQ [32, 28, 29] .fin))) (qQ [32, 26, 28, 29] .fin))) (qQ [32, 25, 26, 28, 29] .fin))) (qQ [27, 24, 30, 31] (.alt (.one 25 (.alt (.one 26 (.alt (.one 28 (.alt (qQ [29, 32] .fin) (qQ [32, 29] .fin))) (qQ [32, 28, 29] .fin))) (qQ [32, 26, 28, 29] .fin))) (qQ [32, 25, 26, 28, 29] .fin))))), (26, [0, 1, 3, 7, 0, 15, 0, 127, 255, 511, 255, 1279, 3327], qQ [0, 1, 2, 3, 4, 5, 6, 7, 10, 11] (.alt (.one 8 (.alt (qQ [9, 12] .fin) (qQ [12, 9] .fin))) (qQ [12, 8, 9] .fin)))] } Tryz.func24 ?_
 refine goL ?_;refine ac.go gQ hm (goL ?_);refine ac.go gQ hn ?_
 repeat' ((conv => whnf); first | refine sS ?_ | refine aQ ?_ ?_ | refine ⟨hl1, ?_⟩ | refine ⟨hl2, ?_⟩ | refine ⟨_, ar.pr hat rfl rfl, ?_⟩ | refine ⟨_, ac.pr (gn [(2020, 2030), (1020, 1030)]) hq ⟨LE.of rfl, LE.of rfl, LE.of rfl, trivial⟩ (by (conv => whnf); exact ⟨.inr (.inl rfl), .inr (.inl rfl), trivial⟩) rfl, ?_⟩ | refine ⟨_, ac.pr gI hs ⟨LE.of rfl, LE.of rfl, LE.of rfl, trivial⟩ (by (conv => whnf); exact ⟨.inr (.inl rfl), .inr (.inl rfl), .inr (.inl rfl), .inr (.inl rfl), .inr (.inl rfl), .inr (.inl rfl), .inr (.inl rfl), .inr (.inl rfl), .inr (.inl rfl), .inr (.inl rfl), .inr (.inl rfl), .inr (.inl rfl), .inr (.inl rfl), .inr (.inl rfl), .inr (.inl rfl), .inr (.inl rfl), trivial⟩) rfl, ?_⟩ | fail)
 all_goals (conv => whnf)
 all_goals
  refine ⟨gI, ?_, ?_, ?_, ?_⟩
  ·repeat ((conv => whnf); first | refine ⟨rfl, ?_⟩ | refine ⟨LE.of rfl, ?_⟩)
   trivial
  ·repeat ((conv => whnf); refine ⟨.inr (.inl rfl), ?_⟩)
   trivial
  ·rfl
  ·rfl
set_option maxHeartbeats 8000000 in
theorem EF (W : Wo) (c : Cln) (hc : W.cs = [c]) (who : Int) (pos : Int) (t : Tm) (hm : PM (cx true) 58 (woQ W) [.ptr 2000 0, .p (Stp.pv ⟨2, who, pos, t⟩)] (woQ W) (iv 0)) (ha : PM (cx true) 61 (woO W) [.ptr 2000 0, tv (at_ W.pool pos.toNat)] (woO (bA W (at_ W.pool pos.toNat)).1) (.tupS [tv (bA W (at_ W.pool pos.toNat)).2.1, iv (bA W (at_ W.pool pos.toNat)).2.2])) (p0 : 0 <= pos) (p1 : pos.toNat < W.pool.length) :
  PM (cx true) 24 (woO W) [.ptr 2000 0, .p (Stp.pv ⟨2, who, pos, t⟩)] (woO (bA W (at_ W.pool pos.toNat)).1) (.tupS [tv (bA W (at_ W.pool pos.toNat)).2.1, iv (bA W (at_ W.pool pos.toNat)).2.2]) := by
 obtain ⟨k, cs, names, pool, given, told, bad, lost, now, n⟩ := W;simp only at hc hm ha p1;subst hc;revert ha;unfold bA;simp only;generalize (bg k _ now).1 = k2;generalize (bg k _ now).2 = r;generalize dW pool r = pool2;intro ha
 dsimp only [Stp.pv] at hm ⊢
 refine pmv { own := oO [100010, 100036, 100051, 100052, 100067, 100084, 100168, 139, 160], tr := trT [(15, [0, 0, 2, 6, 14, 0, 32, 126, 254, 0, 512, 0, 2048, 6144, 16382, 32767, 65535, 65535, 262143, 524287], .pin 0 (qQ [1, 2, 3, 4, 5, 6, 7, 8, 9, 10, 11, 12, 13, 14] (.keep [4, 5, 37, 51] [4, 2000, 2001, 1001, 2006, 1003, 2005, 2010, 2011, 2013, 1012, 1014, 1010, 2020, 1020] (qQ [15, 16, 17, 18, 19] .fin)))), (23, [0, 1, 3, 7, 0, 16, 48, 112, 0, 256, 1008, 2032, 4080, 0, 8192, 24576, 57344, 0, 131072, 516096, 1040384, 2097136, 15, 0, 16777215, 33554431, 67108863, 4194319, 268435455, 536870911, 33554431, 1107296255, 3254779903], qQ [0, 1, 2, 3, 4, 5, 6, 7, 8, 9, 10, 11, 12, 13, 14, 15, 16, 17, 18, 19, 20, 21, 22, 23] (.alt (qQ [24, 27, 30, 31] (.alt (.one 25 (.alt (.one 26 (.alt (.one 28 (.alt (qQ [29, 32] .fin) (qQ [32, 29] .fin))) (qQ [32, 28, 29] .fin))) (qQ [32, 26, 28, 29] .fin))) (qQ [32, 25, 26, 28, 29] .fin))) (qQ [27, 24, 30, 31] (.alt (.one 25 (.alt (.one 26 (.alt (.one 28 (.alt (qQ [29, 32] .fin) (qQ [32, 29] .fin))) (qQ [32, 28, 29] .fin))) (qQ [32, 26, 28, 29] .fin))) (qQ [32, 25, 26, 28, 29] .fin))))), (26, [0, 1, 3, 7, 0, 15, 0, 127, 255, 511, 255, 1279, 3327], qQ [0, 1, 2, 3, 4, 5, 6, 7, 10, 11] (.alt (.one 8 (.alt (qQ [9, 12] .fin) (qQ [12, 9] .fin))) (qQ [12, 8, 9] .fin)))] } Tryz.func24 ?_
 refine goL ?_;refine ac.go gQ hm (goL ?_);refine ⟨p0, by rw [ab]; exact p1, goL ?_⟩;refine ⟨_, ap (l := pool) (i := pos.toNat) p1, rfl, rfl, rfl, goL ?_⟩;refine ac.go gI ha (goL ?_);refine ⟨gI, ?_, ?_, ?_, ?_⟩
 ·repeat ((conv => whnf); first | refine ⟨rfl, ?_⟩ | refine ⟨LE.of rfl, ?_⟩)
  trivial
 ·repeat ((conv => whnf); refine ⟨.inr (.inl rfl), ?_⟩)
  trivial
 ·rfl
 ·rfl
set_option maxHeartbeats 8000000 in
theorem EG (W : Wo) (c d : Cln) (hc : W.cs = [c, d]) (who : Int) (pos : Int) (t : Tm) (hm : PM (cx true) 58 (woQ W) [.ptr 2000 0, .p (Stp.pv ⟨2, who, pos, t⟩)] (woQ W) (iv 0)) (ha : PM (cx true) 61 (woO W) [.ptr 2000 0, tv (at_ W.pool pos.toNat)] (woO (bA W (at_ W.pool pos.toNat)).1) (.tupS [tv (bA W (at_ W.pool pos.toNat)).2.1, iv (bA W (at_ W.pool pos.toNat)).2.2])) (p0 : 0 <= pos) (p1 : pos.toNat < W.pool.length) :
  PM (cx true) 24 (woO W) [.ptr 2000 0, .p (Stp.pv ⟨2, who, pos, t⟩)] (woO (bA W (at_ W.pool pos.toNat)).1) (.tupS [tv (bA W (at_ W.pool pos.toNat)).2.1, iv (bA W (at_ W.pool pos.toNat)).2.2]) := by
 obtain ⟨k, cs, names, pool, given, told, bad, lost, now, n⟩ := W;simp only at hc hm ha p1;subst hc;revert ha;unfold bA;simp only;generalize (bg k _ now).1 = k2;generalize (bg k _ now).2 = r;generalize dW pool r = pool2;intro ha
 dsimp only [Stp.pv] at hm ⊢
 refine pmv { own := oO [100010, 100036, 100051, 100052, 100067, 100084, 100168, 139, 160], tr := trT [(15, [0, 0, 2, 6, 14, 0, 32, 126, 254, 0, 512, 0, 2048, 6144, 16382, 32767, 65535, 65535, 262143, 524287], .pin 0 (qQ [1, 2, 3, 4, 5, 6, 7, 8, 9, 10, 11, 12, 13, 14] (.keep [4, 5, 37, 51] [4, 2000, 2001, 1001, 2006, 1003, 2005, 2010, 2011, 2013, 1012, 1014, 1010, 2020, 1020, 2030, 1030] (qQ [15, 16, 17, 18, 19] .fin)))), (23, [0, 1, 3, 7, 0, 16, 48, 112, 0, 256, 1008, 2032, 4080, 0, 8192, 24576, 57344, 0, 131072, 516096, 1040384, 2097136, 15, 0, 16777215, 33554431, 67108863, 4194319, 268435455, 536870911, 33554431, 1107296255, 3254779903], qQ [0, 1, 2, 3, 4, 5, 6, 7, 8, 9, 10, 11, 12, 13, 14, 15, 16, 17, 18, 19, 20, 21, 22, 23] (.alt (qQ [24, 27, 30, 31] (.alt (.one 25 (.alt (.one 26 (.alt (.one 28 (.alt (qQ [29, 32] .fin) (qQ [32, 29] .fin))) (qQ [32, 28, 29] .fin))) (qQ [32, 26, 28, 29] .fin))) (qQ [32, 25, 26, 28, 29] .fin))) (qQ [27, 24, 30, 31] (.alt (.one 25 (.alt (.one 26 (.alt (.one 28 (.alt (qQ [29, 32] .fin) (qQ [32, 29] .fin))) (qQ [32, 28, 29] .fin))) (qQ [32, 26, 28, 29] .fin))) (qQ [32, 25, 26, 28, 29] .fin))))), (26, [0, 1, 3, 7, 0, 15, 0, 127, 255, 511, 255, 1279, 3327], qQ [0, 1, 2, 3, 4, 5, 6, 7, 10, 11] (.alt (.one 8 (.alt (qQ [9, 12] .fin) (qQ [12, 9] .fin))) (qQ [12, 8, 9] .fin)))] } Tryz.func24 ?_
 refine goL ?_;refine ac.go gQ hm (goL ?_);refine ⟨p0, by rw [ab]; exact p1, goL ?_⟩;refine ⟨_, ap (l := pool) (i := pos.toNat) p1, rfl, rfl, rfl, goL ?_⟩;refine ac.go gI ha (goL ?_);refine ⟨gI, ?_, ?_, ?_, ?_⟩
 ·repeat ((conv => whnf); first | refine ⟨rfl, ?_⟩ | refine ⟨LE.of rfl, ?_⟩)
  trivial
 ·repeat ((conv => whnf); refine ⟨.inr (.inl rfl), ?_⟩)
  trivial
 ·rfl
 ·rfl
set_option maxHeartbeats 8000000 in
theorem EH (W : Wo) (c d : Cln) (hc : W.cs = [c, d]) (who : Int) (pos : Int) (t : Tm) (hm : PM (cx true) 58 (woQ W) [.ptr 2000 0, .p (Stp.pv ⟨4, who, pos, t⟩)] (woQ W) (iv 0)) (ha : PM (cx true) 61 (woO W) [.ptr 2000 0, tv t] (woO (bA W t).1) (.tupS [tv (bA W t).2.1, iv (bA W t).2.2])) :
  PM (cx true) 24 (woO W) [.ptr 2000 0, .p (Stp.pv ⟨4, who, pos, t⟩)] (woO (bA W t).1) (.tupS [tv (bA W t).2.1, iv (bA W t).2.2]) := by
 obtain ⟨k, cs, names, pool, given, told, bad, lost, now, n⟩ := W;simp only at hc hm ha;subst hc;revert ha;unfold bA;simp only;generalize (bg k _ now).1 = k2;generalize (bg k _ now).2 = r;generalize dW pool r = pool2;intro ha
 dsimp only [Stp.pv] at hm ⊢
 refine pmv { own := oO [100010, 100036, 100051, 100052, 100067, 100084, 100168, 139, 160], tr := trT [(15, [0, 0, 2, 6, 14, 0, 32, 126, 254, 0, 512, 0, 2048, 6144, 16382, 32767, 65535, 65535, 262143, 524287], .pin 0 (qQ [1, 2, 3, 4, 5, 6, 7, 8, 9, 10, 11, 12, 13, 14] (.keep [4, 5, 37, 51] [4, 2000, 2001, 1001, 2006, 1003, 2005, 2010, 2011, 2013, 1012, 1014, 1010, 2020, 1020, 2030, 1030] (qQ [15, 16, 17, 18, 19] .fin)))), (23, [0, 1, 3, 7, 0, 16, 48, 112, 0, 256, 1008, 2032, 4080, 0, 8192, 24576, 57344, 0, 131072, 516096, 1040384, 2097136, 15, 0, 16777215, 33554431, 67108863, 4194319, 268435455, 536870911, 33554431, 1107296255, 3254779903], qQ [0, 1, 2, 3, 4, 5, 6, 7, 8, 9, 10, 11, 12, 13, 14, 15, 16, 17, 18, 19, 20, 21, 22, 23] (.alt (qQ [24, 27, 30, 31] (.alt (.one 25 (.alt (.one 26 (.alt (.one 28 (.alt (qQ [29, 32] .fin) (qQ [32, 29] .fin))) (qQ [32, 28, 29] .fin))) (qQ [32, 26, 28, 29] .fin))) (qQ [32, 25, 26, 28, 29] .fin))) (qQ [27, 24, 30, 31] (.alt (.one 25 (.alt (.one 26 (.alt (.one 28 (.alt (qQ [29, 32] .fin) (qQ [32, 29] .fin))) (qQ [32, 28, 29] .fin))) (qQ [32, 26, 28, 29] .fin))) (qQ [32, 25, 26, 28, 29] .fin))))), (26, [0, 1, 3, 7, 0, 15, 0, 127, 255, 511, 255, 1279, 3327], qQ [0, 1, 2, 3, 4, 5, 6, 7, 10, 11] (.alt (.one 8 (.alt (qQ [9, 12] .fin) (qQ [12, 9] .fin))) (qQ [12, 8, 9] .fin)))] } Tryz.func24 ?_
 refine goL ?_;refine ac.go gQ hm (goL ?_);refine ac.go gI ha (goL ?_);refine ⟨gI, ?_, ?_, ?_, ?_⟩
 ·repeat ((conv => whnf); first | refine ⟨rfl, ?_⟩ | refine ⟨LE.of rfl, ?_⟩)
  trivial
 ·repeat ((conv => whnf); refine ⟨.inr (.inl rfl), ?_⟩)
  trivial
 ·rfl
 ·rfl
set_option maxHeartbeats 8000000 in
theorem Ch (W : Wo) (c : Cln) (hc : W.cs = [c]) (pos : Int) (t : Tm) (hm : PM (cx true) 58 (woQ W) [.ptr 2000 0, .p (Stp.pv ⟨3, 0, pos, t⟩)] (woQ W) (iv 0)) (ha : PM (cx true) 62 (woO W) [.ptr 2000 0, iv 0, tv (at_ W.pool pos.toNat)] (woO (au W 0 c (at_ W.pool pos.toNat)).1) (.tupS [tv (au W 0 c (at_ W.pool pos.toNat)).2.1, iv (au W 0 c (at_ W.pool pos.toNat)).2.2])) (p0 : 0 <= pos) (p1 : pos.toNat < W.pool.length) :
  PM (cx true) 24 (woO W) [.ptr 2000 0, .p (Stp.pv ⟨3, 0, pos, t⟩)] (woO (au W 0 c (at_ W.pool pos.toNat)).1) (.tupS [tv (au W 0 c (at_ W.pool pos.toNat)).2.1, iv (au W 0 c (at_ W.pool pos.toNat)).2.2]) := by
 obtain ⟨k, cs, names, pool, given, told, bad, lost, now, n⟩ := W;simp only at hc hm ha p1;subst hc;revert ha;unfold au;simp only;generalize (bz c _ now (xT n)).1 = c2;generalize (bz c _ now (xT n)).2.1 = r;generalize (bz c _ now (xT n)).2.2 = e;generalize dW pool r = pool2;intro ha
 dsimp only [Stp.pv] at hm ⊢
 refine pmv { own := oO [100010, 100036, 100051, 100052, 100067, 100084, 100168, 139, 160], tr := trT [(15, [0, 0, 2, 6, 14, 0, 32, 126, 254, 0, 512, 0, 2048, 6144, 16382, 32767, 65535, 65535, 262143, 524287], .pin 0 (qQ [1, 2, 3, 4, 5, 6, 7, 8, 9, 10, 11, 12, 13, 14] (.keep [4, 5, 37, 51] [4, 2000, 2001, 1001, 2006, 1003, 2005, 2010, 2011, 2013, 1012, 1014, 1010, 2020, 1020] (qQ [15, 16, 17, 18, 19] .fin)))), (23, [0, 1, 3, 7, 0, 16, 48, 112, 0, 256, 1008, 2032, 4080, 0, 8192, 24576, 57344, 0, 131072, 516096, 1040384, 2097136, 15, 0, 16777215, 33554431, 67108863, 4194319, 268435455, 536870911, 33554431, 1107296255, 3254779903], qQ [0, 1, 2, 3, 4, 5, 6, 7, 8, 9, 10, 11, 12, 13, 14, 15, 16, 17, 18, 19, 20, 21, 22, 23] (.alt (qQ [24, 27, 30, 31] (.alt (.one 25 (.alt (.one 26 (.alt (.one 28 (.alt (qQ [29, 32] .fin) (qQ [32, 29] .fin))) (qQ [32, 28, 29] .fin))) (qQ [32, 26, 28, 29] .fin))) (qQ [32, 25, 26, 28, 29] .fin))) (qQ [27, 24, 30, 31] (.alt (.one 25 (.alt (.one 26 (.alt (.one 28 (.alt (qQ [29, 32] .fin) (qQ [32, 29] .fin))) (qQ [32, 28, 29] .fin))) (qQ [32, 26, 28, 29] .fin))) (qQ [32, 25, 26, 28, 29] .fin))))), (26, [0, 1, 3, 7, 0, 15, 0, 127, 255, 511, 255, 1279, 3327], qQ [0, 1, 2, 3, 4, 5, 6, 7, 10, 11] (.alt (.one 8 (.alt (qQ [9, 12] .fin) (qQ [12, 9] .fin))) (qQ [12, 8, 9] .fin)))] } Tryz.func24 ?_
 refine goL ?_;refine ac.go gQ hm (goL ?_);refine ⟨p0, by rw [ab]; exact p1, goL ?_⟩;refine ⟨_, ap (l := pool) (i := pos.toNat) p1, rfl, rfl, rfl, goL ?_⟩;refine ac.go gI ha (goL ?_);refine ⟨gI, ?_, ?_, ?_, ?_⟩
 ·repeat ((conv => whnf); first | refine ⟨rfl, ?_⟩ | refine ⟨LE.of rfl, ?_⟩)
  trivial
 ·repeat ((conv => whnf); refine ⟨.inr (.inl rfl), ?_⟩)
  trivial
 ·rfl
 ·rfl
set_option maxHeartbeats 8000000 in
theorem Ci (W : Wo) (c d : Cln) (hc : W.cs = [c, d]) (pos : Int) (t : Tm) (hm : PM (cx true) 58 (woQ W) [.ptr 2000 0, .p (Stp.pv ⟨3, 0, pos, t⟩)] (woQ W) (iv 0)) (ha : PM (cx true) 62 (woO W) [.ptr 2000 0, iv 0, tv (at_ W.pool pos.toNat)] (woO (au W 0 c (at_ W.pool pos.toNat)).1) (.tupS [tv (au W 0 c (at_ W.pool pos.toNat)).2.1, iv (au W 0 c (at_ W.pool pos.toNat)).2.2])) (p0 : 0 <= pos) (p1 : pos.toNat < W.pool.length) :
  PM (cx true) 24 (woO W) [.ptr 2000 0, .p (Stp.pv ⟨3, 0, pos, t⟩)] (woO (au W 0 c (at_ W.pool pos.toNat)).1) (.tupS [tv (au W 0 c (at_ W.pool pos.toNat)).2.1, iv (au W 0 c (at_ W.pool pos.toNat)).2.2]) := by
 obtain ⟨k, cs, names, pool, given, told, bad, lost, now, n⟩ := W;simp only at hc hm ha p1;subst hc;revert ha;unfold au;simp only;generalize (bz c _ now (xT n)).1 = c2;generalize (bz c _ now (xT n)).2.1 = r;generalize (bz c _ now (xT n)).2.2 = e;generalize dW pool r = pool2;intro ha
 dsimp only [Stp.pv] at hm ⊢
 refine pmv { own := oO [100010, 100036, 100051, 100052, 100067, 100084, 100168, 139, 160], tr := trT [(15, [0, 0, 2, 6, 14, 0, 32, 126, 254, 0, 512, 0, 2048, 6144, 16382, 32767, 65535, 65535, 262143, 524287], .pin 0 (qQ [1, 2, 3, 4, 5, 6, 7, 8, 9, 10, 11, 12, 13, 14] (.keep [4, 5, 37, 51] [4, 2000, 2001, 1001, 2006, 1003, 2005, 2010, 2011, 2013, 1012, 1014, 1010, 2020, 1020, 2030, 1030] (qQ [15, 16, 17, 18, 19] .fin)))), (23, [0, 1, 3, 7, 0, 16, 48, 112, 0, 256, 1008, 2032, 4080, 0, 8192, 24576, 57344, 0, 131072, 516096, 1040384, 2097136, 15, 0, 16777215, 33554431, 67108863, 4194319, 268435455, 536870911, 33554431, 1107296255, 3254779903], qQ [0, 1, 2, 3, 4, 5, 6, 7, 8, 9, 10, 11, 12, 13, 14, 15, 16, 17, 18, 19, 20, 21, 22, 23] (.alt (qQ [24, 27, 30, 31] (.alt (.one 25 (.alt (.one 26 (.alt (.one 28 (.alt (qQ [29, 32] .fin) (qQ [32, 29] .fin))) (qQ [32, 28, 29] .fin))) (qQ [32, 26, 28, 29] .fin))) (qQ [32, 25, 26, 28, 29] .fin))) (qQ [27, 24, 30, 31] (.alt (.one 25 (.alt (.one 26 (.alt (.one 28 (.alt (qQ [29, 32] .fin) (qQ [32, 29] .fin))) (qQ [32, 28, 29] .fin))) (qQ [32, 26, 28, 29] .fin))) (qQ [32, 25, 26, 28, 29] .fin))))), (26, [0, 1, 3, 7, 0, 15, 0, 127, 255, 511, 255, 1279, 3327], qQ [0, 1, 2, 3, 4, 5, 6, 7, 10, 11] (.alt (.one 8 (.alt (qQ [9, 12] .fin) (qQ [12, 9] .fin))) (qQ [12, 8, 9] .fin)))] } Tryz.func24 ?_
 refine goL ?_;refine ac.go gQ hm (goL ?_);refine ⟨p0, by rw [ab]; exact p1, goL ?_⟩;refine ⟨_, ap (l := pool) (i := pos.toNat) p1, rfl, rfl, rfl, goL ?_⟩;refine ac.go gI ha (goL ?_);refine ⟨gI, ?_, ?_, ?_, ?_⟩
 ·repeat ((conv => whnf); first | refine ⟨rfl, ?_⟩ | refine ⟨LE.of rfl, ?_⟩)
  trivial
 ·repeat ((conv => whnf); refine ⟨.inr (.inl rfl), ?_⟩)
  trivial
 ·rfl
 ·rfl
set_option maxHeartbeats 8000000 in
theorem Cj (W : Wo) (c d : Cln) (hc : W.cs = [c, d]) (pos : Int) (t : Tm) (hm : PM (cx true) 58 (woQ W) [.ptr 2000 0, .p (Stp.pv ⟨3, 1, pos, t⟩)] (woQ W) (iv 0)) (ha : PM (cx true) 62 (woO W) [.ptr 2000 0, iv 1, tv (at_ W.pool pos.toNat)] (woO (au W 1 d (at_ W.pool pos.toNat)).1) (.tupS [tv (au W 1 d (at_ W.pool pos.toNat)).2.1, iv (au W 1 d (at_ W.pool pos.toNat)).2.2])) (p0 : 0 <= pos) (p1 : pos.toNat < W.pool.length) :
  PM (cx true) 24 (woO W) [.ptr 2000 0, .p (Stp.pv ⟨3, 1, pos, t⟩)] (woO (au W 1 d (at_ W.pool pos.toNat)).1) (.tupS [tv (au W 1 d (at_ W.pool pos.toNat)).2.1, iv (au W 1 d (at_ W.pool pos.toNat)).2.2]) := by
 obtain ⟨k, cs, names, pool, given, told, bad, lost, now, n⟩ := W;simp only at hc hm ha p1;subst hc;revert ha;unfold au;simp only;generalize (bz d _ now (xT n)).1 = c2;generalize (bz d _ now (xT n)).2.1 = r;generalize (bz d _ now (xT n)).2.2 = e;generalize dW pool r = pool2;intro ha
 dsimp only [Stp.pv] at hm ⊢
 refine pmv { own := oO [100010, 100036, 100051, 100052, 100067, 100084, 100168, 139, 160], tr := trT [(15, [0, 0, 2, 6, 14, 0, 32, 126, 254, 0, 512, 0, 2048, 6144, 16382, 32767, 65535, 65535, 262143, 524287], .pin 0 (qQ [1, 2, 3, 4, 5, 6, 7, 8, 9, 10, 11, 12, 13, 14] (.keep [4, 5, 37, 51] [4, 2000, 2001, 1001, 2006, 1003, 2005, 2010, 2011, 2013, 1012, 1014, 1010, 2020, 1020, 2030, 1030] (qQ [15, 16, 17, 18, 19] .fin)))), (23, [0, 1, 3, 7, 0, 16, 48, 112, 0, 256, 1008, 2032, 4080, 0, 8192, 24576, 57344, 0, 131072, 516096, 1040384, 2097136, 15, 0, 16777215, 33554431, 67108863, 4194319, 268435455, 536870911, 33554431, 1107296255, 3254779903], qQ [0, 1, 2, 3, 4, 5, 6, 7, 8, 9, 10, 11, 12, 13, 14, 15, 16, 17, 18, 19, 20, 21, 22, 23] (.alt (qQ [24, 27, 30, 31] (.alt (.one 25 (.alt (.one 26 (.alt (.one 28 (.alt (qQ [29, 32] .fin) (qQ [32, 29] .fin))) (qQ [32, 28, 29] .fin))) (qQ [32, 26, 28, 29] .fin))) (qQ [32, 25, 26, 28, 29] .fin))) (qQ [27, 24, 30, 31] (.alt (.one 25 (.alt (.one 26 (.alt (.one 28 (.alt (qQ [29, 32] .fin) (qQ [32, 29] .fin))) (qQ [32, 28, 29] .fin))) (qQ [32, 26, 28, 29] .fin))) (qQ [32, 25, 26, 28, 29] .fin))))), (26, [0, 1, 3, 7, 0, 15, 0, 127, 255, 511, 255, 1279, 3327], qQ [0, 1, 2, 3, 4, 5, 6, 7, 10, 11] (.alt (.one 8 (.alt (qQ [9, 12] .fin) (qQ [12, 9] .fin))) (qQ [12, 8, 9] .fin)))] } Tryz.func24 ?_
 refine goL ?_;refine ac.go gQ hm (goL ?_);refine ⟨p0, by rw [ab]; exact p1, goL ?_⟩;refine ⟨_, ap (l := pool) (i := pos.toNat) p1, rfl, rfl, rfl, goL ?_⟩;refine ac.go gI ha (goL ?_);refine ⟨gI, ?_, ?_, ?_, ?_⟩
 ·repeat ((conv => whnf); first | refine ⟨rfl, ?_⟩ | refine ⟨LE.of rfl, ?_⟩)
  trivial
 ·repeat ((conv => whnf); refine ⟨.inr (.inl rfl), ?_⟩)
  trivial
 ·rfl
 ·rfl
set_option maxHeartbeats 8000000 in
theorem Cm (W : Wo) (c d : Cln) (hc : W.cs = [c, d]) (pos : Int) (t : Tm) (hm : PM (cx true) 58 (woQ W) [.ptr 2000 0, .p (Stp.pv ⟨5, 0, pos, t⟩)] (woQ W) (iv 0)) (ha : PM (cx true) 62 (woO W) [.ptr 2000 0, iv 0, tv t] (woO (au W 0 c t).1) (.tupS [tv (au W 0 c t).2.1, iv (au W 0 c t).2.2])) :
  PM (cx true) 24 (woO W) [.ptr 2000 0, .p (Stp.pv ⟨5, 0, pos, t⟩)] (woO (au W 0 c t).1) (.tupS [tv (au W 0 c t).2.1, iv (au W 0 c t).2.2]) := by
 obtain ⟨k, cs, names, pool, given, told, bad, lost, now, n⟩ := W;simp only at hc hm ha;subst hc;revert ha;unfold au;simp only;generalize (bz c _ now (xT n)).1 = c2;generalize (bz c _ now (xT n)).2.1 = r;generalize (bz c _ now (xT n)).2.2 = e;generalize dW pool r = pool2;intro ha
 dsimp only [Stp.pv] at hm ⊢
 refine pmv { own := oO [100010, 100036, 100051, 100052, 100067, 100084, 100168, 139, 160], tr := trT [(15, [0, 0, 2, 6, 14, 0, 32, 126, 254, 0, 512, 0, 2048, 6144, 16382, 32767, 65535, 65535, 262143, 524287], .pin 0 (qQ [1, 2, 3, 4, 5, 6, 7, 8, 9, 10, 11, 12, 13, 14] (.keep [4, 5, 37, 51] [4, 2000, 2001, 1001, 2006, 1003, 2005, 2010, 2011, 2013, 1012, 1014, 1010, 2020, 1020, 2030, 1030] (qQ [15, 16, 17, 18, 19] .fin)))), (23, [0, 1, 3, 7, 0, 16, 48, 112, 0, 256, 1008, 2032, 4080, 0, 8192, 24576, 57344, 0, 131072, 516096, 1040384, 2097136, 15, 0, 16777215, 33554431, 67108863, 4194319, 268435455, 536870911, 33554431, 1107296255, 3254779903], qQ [0, 1, 2, 3, 4, 5, 6, 7, 8, 9, 10, 11, 12, 13, 14, 15, 16, 17, 18, 19, 20, 21, 22, 23] (.alt (qQ [24, 27, 30, 31] (.alt (.one 25 (.alt (.one 26 (.alt (.one 28 (.alt (qQ [29, 32] .fin) (qQ [32, 29] .fin))) (qQ [32, 28, 29] .fin))) (qQ [32, 26, 28, 29] .fin))) (qQ [32, 25, 26, 28, 29] .fin))) (qQ [27, 24, 30, 31] (.alt (.one 25 (.alt (.one 26 (.alt (.one 28 (.alt (qQ [29, 32] .fin) (qQ [32, 29] .fin))) (qQ [32, 28, 29] .fin))) (qQ [32, 26, 28, 29] .fin))) (qQ [32, 25, 26, 28, 29] .fin))))), (26, [0, 1, 3, 7, 0, 15, 0, 127, 255, 511, 255, 1279, 3327], qQ [0, 1, 2, 3, 4, 5, 6, 7, 10, 11] (.alt (.one 8 (.alt (qQ [9, 12] .fin) (qQ [12, 9] .fin))) (qQ [12, 8, 9] .fin)))] } Tryz.func24 ?_
 refine goL ?_;refine ac.go gQ hm (goL ?_);refine ac.go gI ha (goL ?_);refine ⟨gI, ?_, ?_, ?_, ?_⟩
 ·repeat ((conv => whnf); first | refine ⟨rfl, ?_⟩ | refine ⟨LE.of rfl, ?_⟩)
  trivial
 ·repeat ((conv => whnf); refine ⟨.inr (.inl rfl), ?_⟩)
  trivial
 ·rfl
 ·rfl
set_option maxHeartbeats 8000000 in
theorem Cn (W : Wo) (c d : Cln) (hc : W.cs = [c, d]) (pos : Int) (t : Tm) (hm : PM (cx true) 58 (woQ W) [.ptr 2000 0, .p (Stp.pv ⟨5, 1, pos, t⟩)] (woQ W) (iv 0)) (ha : PM (cx true) 62 (woO W) [.ptr 2000 0, iv 1, tv t] (woO (au W 1 d t).1) (.tupS [tv (au W 1 d t).2.1, iv (au W 1 d t).2.2])) :
  PM (cx true) 24 (woO W) [.ptr 2000 0, .p (Stp.pv ⟨5, 1, pos, t⟩)] (woO (au W 1 d t).1) (.tupS [tv (au W 1 d t).2.1, iv (au W 1 d t).2.2]) := by
 obtain ⟨k, cs, names, pool, given, told, bad, lost, now, n⟩ := W;simp only at hc hm ha;subst hc;revert ha;unfold au;simp only;generalize (bz d _ now (xT n)).1 = c2;generalize (bz d _ now (xT n)).2.1 = r;generalize (bz d _ now (xT n)).2.2 = e;generalize dW pool r = pool2;intro ha
 dsimp only [Stp.pv] at hm ⊢
 refine pmv { own := oO [100010, 100036, 100051, 100052, 100067, 100084, 100168, 139, 160], tr := trT [(15, [0, 0, 2, 6, 14, 0, 32, 126, 254, 0, 512, 0, 2048, 6144, 16382, 32767, 65535, 65535, 262143, 524287], .pin 0 (qQ [1, 2, 3, 4, 5, 6, 7, 8, 9, 10, 11, 12, 13, 14] (.keep [4, 5, 37, 51] [4, 2000, 2001, 1001, 2006, 1003, 2005, 2010, 2011, 2013, 1012, 1014, 1010, 2020, 1020, 2030, 1030] (qQ [15, 16, 17, 18, 19] .fin)))), (23, [0, 1, 3, 7, 0, 16, 48, 112, 0, 256, 1008, 2032, 4080, 0, 8192, 24576, 57344, 0, 131072, 516096, 1040384, 2097136, 15, 0, 16777215, 33554431, 67108863, 4194319, 268435455, 536870911, 33554431, 1107296255, 3254779903], qQ [0, 1, 2, 3, 4, 5, 6, 7, 8, 9, 10, 11, 12, 13, 14, 15, 16, 17, 18, 19, 20, 21, 22, 23] (.alt (qQ [24, 27, 30, 31] (.alt (.one 25 (.alt (.one 26 (.alt (.one 28 (.alt (qQ [29, 32] .fin) (qQ [32, 29] .fin))) (qQ [32, 28, 29] .fin))) (qQ [32, 26, 28, 29] .fin))) (qQ [32, 25, 26, 28, 29] .fin))) (qQ [27, 24, 30, 31] (.alt (.one 25 (.alt (.one 26 (.alt (.one 28 (.alt (qQ [29, 32] .fin) (qQ [32, 29] .fin))) (qQ [32, 28, 29] .fin))) (qQ [32, 26, 28, 29] .fin))) (qQ [32, 25, 26, 28, 29] .fin))))), (26, [0, 1, 3, 7, 0, 15, 0, 127, 255, 511, 255, 1279, 3327], qQ [0, 1, 2, 3, 4, 5, 6, 7, 10, 11] (.alt (.one 8 (.alt (qQ [9, 12] .fin) (qQ [12, 9] .fin))) (qQ [12, 8, 9] .fin)))] } Tryz.func24 ?_
 refine goL ?_;refine ac.go gQ hm (goL ?_);refine ac.go gI ha (goL ?_);refine ⟨gI, ?_, ?_, ?_, ?_⟩
 ·repeat ((conv => whnf); first | refine ⟨rfl, ?_⟩ | refine ⟨LE.of rfl, ?_⟩)
  trivial
 ·repeat ((conv => whnf); refine ⟨.inr (.inl rfl), ?_⟩)
  trivial
 ·rfl
 ·rfl
set_option maxHeartbeats 8000000 in
theorem EI (W : Wo) (c d : Cln) (hc : W.cs = [c, d]) (who : Int) (pos : Int) (t : Tm) (hm : PM (cx true) 58 (woQ W) [.ptr 2000 0, .p (Stp.pv ⟨6, who, pos, t⟩)] (woQ W) (iv 0)) (t0 : -1000000000000 <= W.now) (t1 : W.now <= 1000000000000) (p1 : pos <= 9223372036854775807) :
  PM (cx true) 24 (woO W) [.ptr 2000 0, .p (Stp.pv ⟨6, who, pos, t⟩)] (woO (pb W pos, aw, (0 : Int)).1) (.tupS [tv (pb W pos, aw, (0 : Int)).2.1, iv (pb W pos, aw, (0 : Int)).2.2]) := by
 obtain ⟨k, cs, names, pool, given, told, bad, lost, now, n⟩ := W;simp only at hc hm t0 t1 p1;subst hc;unfold pb;simp only;have hmod : (max pos 0).tmod 8 = max pos 0 % 8 := Int.tmod_eq_emod_of_nonneg (by omega);have hm0 : 0 <= max pos 0 % 8 := Int.emod_nonneg _ (by decide);have hm8 : max pos 0 % 8 < 8 := Int.emod_lt_of_pos _ (by decide);revert hmod hm0 hm8;generalize max pos 0 % 8 = m;intro hmod hm0 hm8
 dsimp only [Stp.pv] at hm ⊢
 refine pmv { own := oO [100010, 100036, 100051, 100052, 100067, 100084, 100168, 139, 160], tr := trT [(15, [0, 0, 2, 6, 14, 0, 32, 126, 254, 0, 512, 0, 2048, 6144, 16382, 32767, 65535, 65535, 262143, 524287], .pin 0 (qQ [1, 2, 3, 4, 5, 6, 7, 8, 9, 10, 11, 12, 13, 14] (.keep [4, 5, 37, 51] [4, 2000, 2001, 1001, 2006, 1003, 2005, 2010, 2011, 2013, 1012, 1014, 1010, 2020, 1020, 2030, 1030] (qQ [15, 16, 17, 18, 19] .fin)))), (23, [0, 1, 3, 7, 0, 16, 48, 112, 0, 256, 1008, 2032, 4080, 0, 8192, 24576, 57344, 0, 131072, 516096, 1040384, 2097136, 15, 0, 16777215, 33554431, 67108863, 4194319, 268435455, 536870911, 33554431, 1107296255, 3254779903], qQ [0, 1, 2, 3, 4, 5, 6, 7, 8, 9, 10, 11, 12, 13, 14, 15, 16, 17, 18, 19, 20, 21, 22, 23] (.alt (qQ [24, 27, 30, 31] (.alt (.one 25 (.alt (.one 26 (.alt (.one 28 (.alt (qQ [29, 32] .fin) (qQ [32, 29] .fin))) (qQ [32, 28, 29] .fin))) (qQ [32, 26, 28, 29] .fin))) (qQ [32, 25, 26, 28, 29] .fin))) (qQ [27, 24, 30, 31] (.alt (.one 25 (.alt (.one 26 (.alt (.one 28 (.alt (qQ [29, 32] .fin) (qQ [32, 29] .fin))) (qQ [32, 28, 29] .fin))) (qQ [32, 26, 28, 29] .fin))) (qQ [32, 25, 26, 28, 29] .fin))))), (26, [0, 1, 3, 7, 0, 15, 0, 127, 255, 511, 255, 1279, 3327], qQ [0, 1, 2, 3, 4, 5, 6, 7, 10, 11] (.alt (.one 8 (.alt (qQ [9, 12] .fin) (qQ [12, 9] .fin))) (qQ [12, 8, 9] .fin)))] } Tryz.func24 ?_
 refine goL ?_;refine ac.go gQ hm (goL ?_);refine ⟨m, hmod, goL ?_⟩;refine ⟨1 + m, aS (k := 1 + m) (by omega) (by omega) rfl, goL ?_⟩;refine ⟨now + (1 + m), aS (k := now + (1 + m)) (by omega) (by omega) rfl, goL ?_⟩;refine cC (bq true) (goL ?_);refine ⟨gI, ?_, ?_, ?_, ?_⟩
 ·repeat ((conv => whnf); first | refine ⟨rfl, ?_⟩ | refine ⟨LE.of rfl, ?_⟩)
  trivial
 ·repeat ((conv => whnf); refine ⟨.inr (.inl rfl), ?_⟩)
  trivial
 ·rfl
 ·rfl
set_option maxHeartbeats 8000000 in
theorem EJ (W : Wo) (c d : Cln) (hc : W.cs = [c, d]) (who : Int) (pos : Int) (t : Tm) (hm : PM (cx true) 58 (woQ W) [.ptr 2000 0, .p (Stp.pv ⟨9, who, pos, t⟩)] (woQ W) (iv 0)) (hr : 0 <= W.k.room) :
  PM (cx true) 24 (woO W) [.ptr 2000 0, .p (Stp.pv ⟨9, who, pos, t⟩)] (woO (gj W, aw, (0 : Int)).1) (.tupS [tv (gj W, aw, (0 : Int)).2.1, iv (gj W, aw, (0 : Int)).2.2]) := by
 obtain ⟨k, cs, names, pool, given, told, bad, lost, now, n⟩ := W;simp only at hc hm hr;subst hc;unfold gj;simp only;have hq := oS k hr
 dsimp only [Stp.pv] at hm ⊢
 refine pmv { own := oO [100010, 100036, 100051, 100052, 100067, 100084, 100168, 139, 160], tr := trT [(15, [0, 0, 2, 6, 14, 0, 32, 126, 254, 0, 512, 0, 2048, 6144, 16382, 32767, 65535, 65535, 262143, 524287], .pin 0 (qQ [1, 2, 3, 4, 5, 6, 7, 8, 9, 10, 11, 12, 13, 14] (.keep [4, 5, 37, 51] [4, 2000, 2001, 1001, 2006, 1003, 2005, 2010, 2011, 2013, 1012, 1014, 1010, 2020, 1020, 2030, 1030] (qQ [15, 16, 17, 18, 19] .fin)))), (23, [0, 1, 3, 7, 0, 16, 48, 112, 0, 256, 1008, 2032, 4080, 0, 8192, 24576, 57344, 0, 131072, 516096, 1040384, 2097136, 15, 0, 16777215, 33554431, 67108863, 4194319, 268435455, 536870911, 33554431, 1107296255, 3254779903], qQ [0, 1, 2, 3, 4, 5, 6, 7, 8, 9, 10, 11, 12, 13, 14, 15, 16, 17, 18, 19, 20, 21, 22, 23] (.alt (qQ [24, 27, 30, 31] (.alt (.one 25 (.alt (.one 26 (.alt (.one 28 (.alt (qQ [29, 32] .fin) (qQ [32, 29] .fin))) (qQ [32, 28, 29] .fin))) (qQ [32, 26, 28, 29] .fin))) (qQ [32, 25, 26, 28, 29] .fin))) (qQ [27, 24, 30, 31] (.alt (.one 25 (.alt (.one 26 (.alt (.one 28 (.alt (qQ [29, 32] .fin) (qQ [32, 29] .fin))) (qQ [32, 28, 29] .fin))) (qQ [32, 26, 28, 29] .fin))) (qQ [32, 25, 26, 28, 29] .fin))))), (26, [0, 1, 3, 7, 0, 15, 0, 127, 255, 511, 255, 1279, 3327], qQ [0, 1, 2, 3, 4, 5, 6, 7, 10, 11] (.alt (.one 8 (.alt (qQ [9, 12] .fin) (qQ [12, 9] .fin))) (qQ [12, 8, 9] .fin)))] } Tryz.func24 ?_
 refine goL ?_;refine ac.go gQ hm (goL ?_);refine ⟨_, ac.pr (gn [(2012, 1512), (2014, 1514)]) hq ⟨LE.of rfl, trivial⟩ (by (conv => whnf); exact ⟨.inr (.inr (.inl ⟨true, _, _, _, rfl, rfl, xB ⟨LE.refl _, LE.refl _, LE.refl _, LE.refl _, LE.refl _, LE.refl _, LE.refl _, LE.refl _, uh _, LE.refl _, LE.refl _, trivial⟩⟩)), .inr (.inl rfl), .inr (.inl rfl), .inr (.inl rfl), trivial⟩) rfl, goL ?_⟩;refine cC (bq true) (goL ?_);refine ⟨gn [(1012, 1512), (1014, 1514)], ?_, ?_, ?_, ?_⟩
 ·repeat ((conv => whnf); first | refine ⟨rfl, ?_⟩ | refine ⟨LE.of rfl, ?_⟩)
  trivial
 ·repeat ((conv => whnf); refine ⟨.inr (.inl rfl), ?_⟩)
  trivial
 ·rfl
 ·rfl
set_option maxHeartbeats 8000000 in
theorem Co (W : Wo) (c d : Cln) (hc : W.cs = [c, d]) (who : Int) (pos : Int) (t : Tm) (hm : PM (cx true) 58 (woQ W) [.ptr 2000 0, .p (Stp.pv ⟨8, who, pos, t⟩)] (woQ W) (iv 0)) (hb : W.lost = true) :
  PM (cx true) 24 (woO W) [.ptr 2000 0, .p (Stp.pv ⟨8, who, pos, t⟩)] (woO (gK W, aw, (0 : Int)).1) (.tupS [tv (gK W, aw, (0 : Int)).2.1, iv (gK W, aw, (0 : Int)).2.2]) := by
 obtain ⟨k, cs, names, pool, given, told, bad, lost, now, n⟩ := W;simp only at hc hm hb;subst hc;subst hb;unfold gK;simp only;rw [if_pos trivial]
 dsimp only [Stp.pv] at hm ⊢
 refine pmv { own := oO [100010, 100036, 100051, 100052, 100067, 100084, 100168, 139, 160], tr := trT [(15, [0, 0, 2, 6, 14, 0, 32, 126, 254, 0, 512, 0, 2048, 6144, 16382, 32767, 65535, 65535, 262143, 524287], .pin 0 (qQ [1, 2, 3, 4, 5, 6, 7, 8, 9, 10, 11, 12, 13, 14] (.keep [4, 5, 37, 51] [4, 2000, 2001, 1001, 2006, 1003, 2005, 2010, 2011, 2013, 1012, 1014, 1010, 2020, 1020, 2030, 1030] (qQ [15, 16, 17, 18, 19] .fin)))), (23, [0, 1, 3, 7, 0, 16, 48, 112, 0, 256, 1008, 2032, 4080, 0, 8192, 24576, 57344, 0, 131072, 516096, 1040384, 2097136, 15, 0, 16777215, 33554431, 67108863, 4194319, 268435455, 536870911, 33554431, 1107296255, 3254779903], qQ [0, 1, 2, 3, 4, 5, 6, 7, 8, 9, 10, 11, 12, 13, 14, 15, 16, 17, 18, 19, 20, 21, 22, 23] (.alt (qQ [24, 27, 30, 31] (.alt (.one 25 (.alt (.one 26 (.alt (.one 28 (.alt (qQ [29, 32] .fin) (qQ [32, 29] .fin))) (qQ [32, 28, 29] .fin))) (qQ [32, 26, 28, 29] .fin))) (qQ [32, 25, 26, 28, 29] .fin))) (qQ [27, 24, 30, 31] (.alt (.one 25 (.alt (.one 26 (.alt (.one 28 (.alt (qQ [29, 32] .fin) (qQ [32, 29] .fin))) (qQ [32, 28, 29] .fin))) (qQ [32, 26, 28, 29] .fin))) (qQ [32, 25, 26, 28, 29] .fin))))), (26, [0, 1, 3, 7, 0, 15, 0, 127, 255, 511, 255, 1279, 3327], qQ [0, 1, 2, 3, 4, 5, 6, 7, 10, 11] (.alt (.one 8 (.alt (qQ [9, 12] .fin) (qQ [12, 9] .fin))) (qQ [12, 8, 9] .fin)))] } Tryz.func24 ?_
 refine goL ?_;refine ac.go gQ hm (goL ?_);refine cC (bq true) (goL ?_);refine ⟨gI, ?_, ?_, ?_, ?_⟩
 ·repeat ((conv => whnf); first | refine ⟨rfl, ?_⟩ | refine ⟨LE.of rfl, ?_⟩)
  trivial
 ·repeat ((conv => whnf); refine ⟨.inr (.inl rfl), ?_⟩)
  trivial
 ·rfl
 ·rfl
set_option maxHeartbeats 8000000 in
theorem Cp (W : Wo) (c d : Cln) (hc : W.cs = [c, d]) (who : Int) (pos : Int) (t : Tm) (hm : PM (cx true) 58 (woQ W) [.ptr 2000 0, .p (Stp.pv ⟨8, who, pos, t⟩)] (woQ W) (iv 0)) (hb : W.lost = false) (ht : W.told.length <= 1000000) :
  PM (cx true) 24 (woO W) [.ptr 2000 0, .p (Stp.pv ⟨8, who, pos, t⟩)] (woO (gK W, aw, (0 : Int)).1) (.tupS [tv (gK W, aw, (0 : Int)).2.1, iv (gK W, aw, (0 : Int)).2.2]) := by
 obtain ⟨k, cs, names, pool, given, told, bad, lost, now, n⟩ := W;simp only at hc hm hb ht;subst hc;subst hb;unfold gK;simp only;rw [if_neg (by simp)];have hat : K true 49 [sv [104, 111, 115, 116]] (.pv (TV (cI [104, 111, 115, 116]))) := bl true _;have hlt : (af told).length < (af told ++ [PV.agg [.int .i64 0, .str [], .nilS]]).length := by simp
 have hset : (af told ++ [PV.agg [.int .i64 0, .str [], .nilS]]).set (af told).length (TV (cI [104, 111, 115, 116])) = af (told ++ [cI [104, 111, 115, 116]]) := by
  rw [List.set_append_right _ _ (Nat.le_refl _), Nat.sub_self, List.set_cons_zero, dR, <- aO]
 dsimp only [Stp.pv] at hm ⊢
 refine pmv { own := oO [100010, 100036, 100051, 100052, 100067, 100084, 100168, 139, 160], kp := kpT [(28, [4, 5], [4, 2000, 2001, 1001, 2006, 1003, 2005, 2010, 2011, 2013, 1012, 1014, 1010, 2020, 1020, 2030, 1030])], tr := trT [(15, [0, 0, 2, 6, 14, 0, 32, 126, 254, 0, 512, 0, 2048, 6144, 16382, 32767, 65535, 65535, 262143, 524287], .pin 0 (qQ [1, 2, 3, 4, 5, 6, 7, 8, 9, 10, 11, 12, 13, 14] (.keep [4, 5, 37, 51] [4, 2000, 2001, 1001, 2006, 1003, 2005, 2010, 2011, 2013, 1012, 1014, 1010, 2020, 1020, 2030, 1030] (qQ [15, 16, 17, 18, 19] .fin)))), (23, [0, 1, 3, 7, 0, 16, 48, 112, 0, 256, 1008, 2032, 4080, 0, 8192, 24576, 57344, 0, 131072, 516096, 1040384, 2097136, 15, 0, 16777215, 33554431, 67108863, 4194319, 268435455, 536870911, 33554431, 1107296255, 3254779903], qQ [0, 1, 2, 3, 4, 5, 6, 7, 8, 9, 10, 11, 12, 13, 14, 15, 16, 17, 18, 19, 20, 21, 22, 23] (.alt (qQ [24, 27, 30, 31] (.alt (.one 25 (.alt (.one 26 (.alt (.one 28 (.alt (qQ [29, 32] .fin) (qQ [32, 29] .fin))) (qQ [32, 28, 29] .fin))) (qQ [32, 26, 28, 29] .fin))) (qQ [32, 25, 26, 28, 29] .fin))) (qQ [27, 24, 30, 31] (.alt (.one 25 (.alt (.one 26 (.alt (.one 28 (.alt (qQ [29, 32] .fin) (qQ [32, 29] .fin))) (qQ [32, 28, 29] .fin))) (qQ [32, 26, 28, 29] .fin))) (qQ [32, 25, 26, 28, 29] .fin))))), (26, [0, 1, 3, 7, 0, 15, 0, 127, 255, 511, 255, 1279, 3327], qQ [0, 1, 2, 3, 4, 5, 6, 7, 10, 11] (.alt (.one 8 (.alt (qQ [9, 12] .fin) (qQ [12, 9] .fin))) (qQ [12, 8, 9] .fin)))] } Tryz.func24 ?_
 refine goL ?_;refine ac.go gQ hm (goL ?_)
 apply @y9
 case h =>
  intro fin
  repeat' ((conv => whnf); first | refine sS ?_ | refine aQ ?_ ?_ | refine ⟨_, ar.pr hat rfl rfl, ?_⟩ | refine ⟨by show ((af told).length + 1) * 48 <= _; rw [ab]; omega, ?_⟩ | refine ⟨Int.natCast_nonneg _, hlt, ?_⟩ | refine ⟨hlt, rfl, rfl, rfl, ?_⟩ | fail)
  all_goals (conv => whnf)
  all_goals exact fin.un
 case p =>
  refine cC (bq true) (goL ?_);exact ⟨gI, ⟨rfl, LE.of rfl, rfl, LE.of rfl, trivial⟩, ⟨.inr (.inl rfl), .inr (.inl rfl), .inr (.inl rfl), .inr (.inl rfl), .inr (.inl (congrArg (AO.row 26 3) hset)), .inr (.inl rfl), .inr (.inl rfl), .inr (.inl rfl), .inr (.inl rfl), .inr (.inl rfl), .inr (.inl rfl), .inr (.inl rfl), .inr (.inl rfl), .inr (.inl rfl), .inr (.inl rfl), .inr (.inl rfl), trivial⟩, rfl, rfl⟩
set_option maxHeartbeats 8000000 in
theorem za (W : Wo) (c d : Cln) (hc : W.cs = [c, d]) (pos : Int) (t : Tm) (hm : PM (cx true) 58 (woQ W) [.ptr 2000 0, .p (Stp.pv ⟨7, 0, pos, t⟩)] (woQ W) (iv 0)) (b1 : Bool) (hb : W.bad = [true, b1]) (x0 x1 : Bs) (hnm : W.names = [x0, x1]) :
  PM (cx true) 24 (woO W) [.ptr 2000 0, .p (Stp.pv ⟨7, 0, pos, t⟩)] (woO (aZ W 0, aw, (0 : Int)).1) (.tupS [tv (aZ W 0, aw, (0 : Int)).2.1, iv (aZ W 0, aw, (0 : Int)).2.2]) := by
 obtain ⟨k, cs, names, pool, given, told, bad, lost, now, n⟩ := W;simp only at hc hm hb hnm;subst hc;subst hb hnm;unfold aZ;simp only;rw [if_pos (show ([true, b1] : List Bool).getD 0 false = true from rfl), if_pos (show ([true, b1] : List Bool).getD 0 false = true from rfl)]
 dsimp only [Stp.pv] at hm ⊢
 refine pmv { own := oO [100010, 100036, 100051, 100052, 100067, 100084, 100168, 139, 160], tr := trT [(15, [0, 0, 2, 6, 14, 0, 32, 126, 254, 0, 512, 0, 2048, 6144, 16382, 32767, 65535, 65535, 262143, 524287], .pin 0 (qQ [1, 2, 3, 4, 5, 6, 7, 8, 9, 10, 11, 12, 13, 14] (.keep [4, 5, 37, 51] [4, 2000, 2001, 1001, 2006, 1003, 2005, 2010, 2011, 2013, 1012, 1014, 1010, 2020, 1020, 2030, 1030] (qQ [15, 16, 17, 18, 19] .fin)))), (23, [0, 1, 3, 7, 0, 16, 48, 112, 0, 256, 1008, 2032, 4080, 0, 8192, 24576, 57344, 0, 131072, 516096, 1040384, 2097136, 15, 0, 16777215, 33554431, 67108863, 4194319, 268435455, 536870911, 33554431, 1107296255, 3254779903], qQ [0, 1, 2, 3, 4, 5, 6, 7, 8, 9, 10, 11, 12, 13, 14, 15, 16, 17, 18, 19, 20, 21, 22, 23] (.alt (qQ [24, 27, 30, 31] (.alt (.one 25 (.alt (.one 26 (.alt (.one 28 (.alt (qQ [29, 32] .fin) (qQ [32, 29] .fin))) (qQ [32, 28, 29] .fin))) (qQ [32, 26, 28, 29] .fin))) (qQ [32, 25, 26, 28, 29] .fin))) (qQ [27, 24, 30, 31] (.alt (.one 25 (.alt (.one 26 (.alt (.one 28 (.alt (qQ [29, 32] .fin) (qQ [32, 29] .fin))) (qQ [32, 28, 29] .fin))) (qQ [32, 26, 28, 29] .fin))) (qQ [32, 25, 26, 28, 29] .fin))))), (26, [0, 1, 3, 7, 0, 15, 0, 127, 255, 511, 255, 1279, 3327], qQ [0, 1, 2, 3, 4, 5, 6, 7, 10, 11] (.alt (.one 8 (.alt (qQ [9, 12] .fin) (qQ [12, 9] .fin))) (qQ [12, 8, 9] .fin)))] } Tryz.func24 ?_
 refine goL ?_;refine ac.go gQ hm (goL ?_);refine ⟨_, rfl, rfl, rfl, rfl, goL ?_⟩;refine cC (bq true) (goL ?_);refine ⟨gI, ?_, ?_, ?_, ?_⟩
 ·repeat ((conv => whnf); first | refine ⟨rfl, ?_⟩ | refine ⟨LE.of rfl, ?_⟩)
  trivial
 ·repeat ((conv => whnf); refine ⟨.inr (.inl rfl), ?_⟩)
  trivial
 ·rfl
 ·rfl
set_option maxHeartbeats 8000000 in
theorem zb (W : Wo) (c d : Cln) (hc : W.cs = [c, d]) (pos : Int) (t : Tm) (hm : PM (cx true) 58 (woQ W) [.ptr 2000 0, .p (Stp.pv ⟨7, 0, pos, t⟩)] (woQ W) (iv 0)) (b1 : Bool) (hb : W.bad = [false, b1]) (x0 x1 : Bs) (hnm : W.names = [x0, x1]) (ht : W.told.length <= 1000000) (hx : x0.length <= 1000000000) :
  PM (cx true) 24 (woO W) [.ptr 2000 0, .p (Stp.pv ⟨7, 0, pos, t⟩)] (woO (aZ W 0, aw, (0 : Int)).1) (.tupS [tv (aZ W 0, aw, (0 : Int)).2.1, iv (aZ W 0, aw, (0 : Int)).2.2]) := by
 obtain ⟨k, cs, names, pool, given, told, bad, lost, now, n⟩ := W;simp only at hc hm hb hnm ht;subst hc;subst hb hnm;unfold aZ;simp only;rw [if_neg (show ¬ ([false, b1] : List Bool).getD 0 false = true from (by decide : ¬ false = true)), if_neg (show ¬ ([false, b1] : List Bool).getD 0 false = true from (by decide : ¬ false = true))];have hpw := fk true x0 hx;have hsd := lH true x0 hx;have hl0 : (af told).length < ((af told ++ [PV.agg [.int .i64 0, .str [], .nilS], PV.agg [.int .i64 0, .str [], .nilS]])).length := by simp
 have hl1 : (af told).length + 1 < ((af told ++ [PV.agg [.int .i64 0, .str [], .nilS], PV.agg [.int .i64 0, .str [], .nilS]])).length := by simp
 have hset : (((af told ++ [PV.agg [.int .i64 0, .str [], .nilS], PV.agg [.int .i64 0, .str [], .nilS]])).set (af told).length (TV (pwT x0))).set ((af told).length + 1) (TV (sdT x0)) = af (told ++ [pwT x0, sdT x0]) := by
  rw [aO];generalize af told = L;simp [List.set_append, af];exact ⟨rfl, rfl⟩
 dsimp only [Stp.pv] at hm ⊢
 refine pmv { own := oO [100010, 100036, 100051, 100052, 100067, 100084, 100168, 139, 160], kp := kpT [(28, [4, 5], [4, 2000, 2001, 1001, 2006, 1003, 2005, 2010, 2011, 2013, 1012, 1014, 1010, 2020, 1020, 2030, 1030])], tr := trT [(15, [0, 0, 2, 6, 14, 0, 32, 126, 254, 0, 512, 0, 2048, 6144, 16382, 32767, 65535, 65535, 262143, 524287], .pin 0 (qQ [1, 2, 3, 4, 5, 6, 7, 8, 9, 10, 11, 12, 13, 14] (.keep [4, 5, 37, 51] [4, 2000, 2001, 1001, 2006, 1003, 2005, 2010, 2011, 2013, 1012, 1014, 1010, 2020, 1020, 2030, 1030] (qQ [15, 16, 17, 18, 19] .fin)))), (23, [0, 1, 3, 7, 0, 16, 48, 112, 0, 256, 1008, 2032, 4080, 0, 8192, 24576, 57344, 0, 131072, 516096, 1040384, 2097136, 15, 0, 16777215, 33554431, 67108863, 4194319, 268435455, 536870911, 33554431, 1107296255, 3254779903], qQ [0, 1, 2, 3, 4, 5, 6, 7, 8, 9, 10, 11, 12, 13, 14, 15, 16, 17, 18, 19, 20, 21, 22, 23] (.alt (qQ [24, 27, 30, 31] (.alt (.one 25 (.alt (.one 26 (.alt (.one 28 (.alt (qQ [29, 32] .fin) (qQ [32, 29] .fin))) (qQ [32, 28, 29] .fin))) (qQ [32, 26, 28, 29] .fin))) (qQ [32, 25, 26, 28, 29] .fin))) (qQ [27, 24, 30, 31] (.alt (.one 25 (.alt (.one 26 (.alt (.one 28 (.alt (qQ [29, 32] .fin) (qQ [32, 29] .fin))) (qQ [32, 28, 29] .fin))) (qQ [32, 26, 28, 29] .fin))) (qQ [32, 25, 26, 28, 29] .fin))))), (26, [0, 1, 3, 7, 0, 15, 0, 127, 255, 511, 255, 1279, 3327], qQ [0, 1, 2, 3, 4, 5, 6, 7, 10, 11] (.alt (.one 8 (.alt (qQ [9, 12] .fin) (qQ [12, 9] .fin))) (qQ [12, 8, 9] .fin)))] } Tryz.func24 ?_
 refine goL ?_;refine ac.go gQ hm (goL ?_)
 apply @y9
 case h =>
  intro fin
  repeat' ((conv => whnf); first | refine sS ?_ | refine aQ ?_ ?_ | refine ⟨_, ar.pr hpw rfl rfl, ?_⟩ | refine ⟨_, ar.pr hsd rfl rfl, ?_⟩ | refine ⟨by show ((af told).length + 2) * 48 <= _; rw [ab]; omega, ?_⟩ | refine ⟨_, aq (n := (af told).length + 1) rfl (by rw [ab]; omega), ?_⟩ | refine ⟨Int.natCast_nonneg _, hl0, ?_⟩ | refine ⟨hl0, rfl, rfl, rfl, ?_⟩ | refine ⟨Int.natCast_nonneg _, hl1, ?_⟩ | refine ⟨Int.natCast_nonneg _, by rw [List.length_set]; exact hl1, ?_⟩ | refine ⟨by rw [List.length_set]; exact hl1, rfl, rfl, rfl, ?_⟩ | refine ⟨(show (0 : Nat) < 2 by decide), ?_⟩ | refine ⟨_, rfl, rfl, rfl, rfl, ?_⟩ | refine ⟨_, rfl, rfl, rfl, ?_⟩ | fail)
  all_goals (conv => whnf)
  all_goals exact fin.un
 case p =>
  refine cC (bq true) (goL ?_);exact ⟨gI, ⟨rfl, LE.of rfl, rfl, LE.of rfl, trivial⟩, ⟨.inr (.inl rfl), .inr (.inl rfl), .inr (.inl rfl), .inr (.inl rfl), .inr (.inl (congrArg (AO.row 26 3) hset)), .inr (.inl rfl), .inr (.inl rfl), .inr (.inl rfl), .inr (.inl rfl), .inr (.inl rfl), .inr (.inl rfl), .inr (.inl rfl), .inr (.inl rfl), .inr (.inl rfl), .inr (.inl rfl), .inr (.inl rfl), trivial⟩, rfl, rfl⟩
set_option maxHeartbeats 8000000 in
theorem zc (W : Wo) (c d : Cln) (hc : W.cs = [c, d]) (pos : Int) (t : Tm) (hm : PM (cx true) 58 (woQ W) [.ptr 2000 0, .p (Stp.pv ⟨7, 1, pos, t⟩)] (woQ W) (iv 0)) (b0 : Bool) (hb : W.bad = [b0, true]) (x0 x1 : Bs) (hnm : W.names = [x0, x1]) :
  PM (cx true) 24 (woO W) [.ptr 2000 0, .p (Stp.pv ⟨7, 1, pos, t⟩)] (woO (aZ W 1, aw, (0 : Int)).1) (.tupS [tv (aZ W 1, aw, (0 : Int)).2.1, iv (aZ W 1, aw, (0 : Int)).2.2]) := by
 obtain ⟨k, cs, names, pool, given, told, bad, lost, now, n⟩ := W;simp only at hc hm hb hnm;subst hc;subst hb hnm;unfold aZ;simp only;rw [if_pos (show ([b0, true] : List Bool).getD 1 false = true from rfl), if_pos (show ([b0, true] : List Bool).getD 1 false = true from rfl)]
 dsimp only [Stp.pv] at hm ⊢
 refine pmv { own := oO [100010, 100036, 100051, 100052, 100067, 100084, 100168, 139, 160], tr := trT [(15, [0, 0, 2, 6, 14, 0, 32, 126, 254, 0, 512, 0, 2048, 6144, 16382, 32767, 65535, 65535, 262143, 524287], .pin 0 (qQ [1, 2, 3, 4, 5, 6, 7, 8, 9, 10, 11, 12, 13, 14] (.keep [4, 5, 37, 51] [4, 2000, 2001, 1001, 2006, 1003, 2005, 2010, 2011, 2013, 1012, 1014, 1010, 2020, 1020, 2030, 1030] (qQ [15, 16, 17, 18, 19] .fin)))), (23, [0, 1, 3, 7, 0, 16, 48, 112, 0, 256, 1008, 2032, 4080, 0, 8192, 24576, 57344, 0, 131072, 516096, 1040384, 2097136, 15, 0, 16777215, 33554431, 67108863, 4194319, 268435455, 536870911, 33554431, 1107296255, 3254779903], qQ [0, 1, 2, 3, 4, 5, 6, 7, 8, 9, 10, 11, 12, 13, 14, 15, 16, 17, 18, 19, 20, 21, 22, 23] (.alt (qQ [24, 27, 30, 31] (.alt (.one 25 (.alt (.one 26 (.alt (.one 28 (.alt (qQ [29, 32] .fin) (qQ [32, 29] .fin))) (qQ [32, 28, 29] .fin))) (qQ [32, 26, 28, 29] .fin))) (qQ [32, 25, 26, 28, 29] .fin))) (qQ [27, 24, 30, 31] (.alt (.one 25 (.alt (.one 26 (.alt (.one 28 (.alt (qQ [29, 32] .fin) (qQ [32, 29] .fin))) (qQ [32, 28, 29] .fin))) (qQ [32, 26, 28, 29] .fin))) (qQ [32, 25, 26, 28, 29] .fin))))), (26, [0, 1, 3, 7, 0, 15, 0, 127, 255, 511, 255, 1279, 3327], qQ [0, 1, 2, 3, 4, 5, 6, 7, 10, 11] (.alt (.one 8 (.alt (qQ [9, 12] .fin) (qQ [12, 9] .fin))) (qQ [12, 8, 9] .fin)))] } Tryz.func24 ?_
 refine goL ?_;refine ac.go gQ hm (goL ?_);refine ⟨_, rfl, rfl, rfl, rfl, goL ?_⟩;refine cC (bq true) (goL ?_);refine ⟨gI, ?_, ?_, ?_, ?_⟩
 ·repeat ((conv => whnf); first | refine ⟨rfl, ?_⟩ | refine ⟨LE.of rfl, ?_⟩)
  trivial
 ·repeat ((conv => whnf); refine ⟨.inr (.inl rfl), ?_⟩)
  trivial
 ·rfl
 ·rfl
set_option maxHeartbeats 8000000 in
theorem zd (W : Wo) (c d : Cln) (hc : W.cs = [c, d]) (pos : Int) (t : Tm) (hm : PM (cx true) 58 (woQ W) [.ptr 2000 0, .p (Stp.pv ⟨7, 1, pos, t⟩)] (woQ W) (iv 0)) (b0 : Bool) (hb : W.bad = [b0, false]) (x0 x1 : Bs) (hnm : W.names = [x0, x1]) (ht : W.told.length <= 1000000) (hx : x1.length <= 1000000000) :
  PM (cx true) 24 (woO W) [.ptr 2000 0, .p (Stp.pv ⟨7, 1, pos, t⟩)] (woO (aZ W 1, aw, (0 : Int)).1) (.tupS [tv (aZ W 1, aw, (0 : Int)).2.1, iv (aZ W 1, aw, (0 : Int)).2.2]) := by
 obtain ⟨k, cs, names, pool, given, told, bad, lost, now, n⟩ := W;simp only at hc hm hb hnm ht;subst hc;subst hb hnm;unfold aZ;simp only;rw [if_neg (show ¬ ([b0, false] : List Bool).getD 1 false = true from (by decide : ¬ false = true)), if_neg (show ¬ ([b0, false] : List Bool).getD 1 false = true from (by decide : ¬ false = true))];have hpw := fk true x1 hx;have hsd := lH true x1 hx;have hl0 : (af told).length < ((af told ++ [PV.agg [.int .i64 0, .str [], .nilS], PV.agg [.int .i64 0, .str [], .nilS]])).length := by simp
 have hl1 : (af told).length + 1 < ((af told ++ [PV.agg [.int .i64 0, .str [], .nilS], PV.agg [.int .i64 0, .str [], .nilS]])).length := by simp
 have hset : (((af told ++ [PV.agg [.int .i64 0, .str [], .nilS], PV.agg [.int .i64 0, .str [], .nilS]])).set (af told).length (TV (pwT x1))).set ((af told).length + 1) (TV (sdT x1)) = af (told ++ [pwT x1, sdT x1]) := by
  rw [aO];generalize af told = L;simp [List.set_append, af];exact ⟨rfl, rfl⟩
 dsimp only [Stp.pv] at hm ⊢
 refine pmv { own := oO [100010, 100036, 100051, 100052, 100067, 100084, 100168, 139, 160], kp := kpT [(28, [4, 5], [4, 2000, 2001, 1001, 2006, 1003, 2005, 2010, 2011, 2013, 1012, 1014, 1010, 2020, 1020, 2030, 1030])], tr := trT [(15, [0, 0, 2, 6, 14, 0, 32, 126, 254, 0, 512, 0, 2048, 6144, 16382, 32767, 65535, 65535, 262143, 524287], .pin 0 (qQ [1, 2, 3, 4, 5, 6, 7, 8, 9, 10, 11, 12, 13, 14] (.keep [4, 5, 37, 51] [4, 2000, 2001, 1001, 2006, 1003, 2005, 2010, 2011, 2013, 1012, 1014, 1010, 2020, 1020, 2030, 1030] (qQ [15, 16, 17, 18, 19] .fin)))), (23, [0, 1, 3, 7, 0, 16, 48, 112, 0, 256, 1008, 2032, 4080, 0, 8192, 24576, 57344, 0, 131072, 516096, 1040384, 2097136, 15, 0, 16777215, 33554431, 67108863, 4194319, 268435455, 536870911, 33554431, 1107296255, 3254779903], qQ [0, 1, 2, 3, 4, 5, 6, 7, 8, 9, 10, 11, 12, 13, 14, 15, 16, 17, 18, 19, 20, 21, 22, 23] (.alt (qQ [24, 27, 30, 31] (.alt (.one 25 (.alt (.one 26 (.alt (.one 28 (.alt (qQ [29, 32] .fin) (qQ [32, 29] .fin))) (qQ [32, 28, 29] .fin))) (qQ [32, 26, 28, 29] .fin))) (qQ [32, 25, 26, 28, 29] .fin))) (qQ [27, 24, 30, 31] (.alt (.one 25 (.alt (.one 26 (.alt (.one 28 (.alt (qQ [29, 32] .fin) (qQ [32, 29] .fin))) (qQ [32, 28, 29] .fin))) (qQ [32, 26, 28, 29] .fin))) (qQ [32, 25, 26, 28, 29] .fin))))), (26, [0, 1, 3, 7, 0, 15, 0, 127, 255, 511, 255, 1279, 3327], qQ [0, 1, 2, 3, 4, 5, 6, 7, 10, 11] (.alt (.one 8 (.alt (qQ [9, 12] .fin) (qQ [12, 9] .fin))) (qQ [12, 8, 9] .fin)))] } Tryz.func24 ?_
 refine goL ?_;refine ac.go gQ hm (goL ?_)
 apply @y9
 case h =>
  intro fin
  repeat' ((conv => whnf); first | refine sS ?_ | refine aQ ?_ ?_ | refine ⟨_, ar.pr hpw rfl rfl, ?_⟩ | refine ⟨_, ar.pr hsd rfl rfl, ?_⟩ | refine ⟨by show ((af told).length + 2) * 48 <= _; rw [ab]; omega, ?_⟩ | refine ⟨_, aq (n := (af told).length + 1) rfl (by rw [ab]; omega), ?_⟩ | refine ⟨Int.natCast_nonneg _, hl0, ?_⟩ | refine ⟨hl0, rfl, rfl, rfl, ?_⟩ | refine ⟨Int.natCast_nonneg _, hl1, ?_⟩ | refine ⟨Int.natCast_nonneg _, by rw [List.length_set]; exact hl1, ?_⟩ | refine ⟨by rw [List.length_set]; exact hl1, rfl, rfl, rfl, ?_⟩ | refine ⟨(show (1 : Nat) < 2 by decide), ?_⟩ | refine ⟨_, rfl, rfl, rfl, rfl, ?_⟩ | refine ⟨_, rfl, rfl, rfl, ?_⟩ | fail)
  all_goals (conv => whnf)
  all_goals exact fin.un
 case p =>
  refine cC (bq true) (goL ?_);exact ⟨gI, ⟨rfl, LE.of rfl, rfl, LE.of rfl, trivial⟩, ⟨.inr (.inl rfl), .inr (.inl rfl), .inr (.inl rfl), .inr (.inl rfl), .inr (.inl (congrArg (AO.row 26 3) hset)), .inr (.inl rfl), .inr (.inl rfl), .inr (.inl rfl), .inr (.inl rfl), .inr (.inl rfl), .inr (.inl rfl), .inr (.inl rfl), .inr (.inl rfl), .inr (.inl rfl), .inr (.inl rfl), .inr (.inl rfl), trivial⟩, rfl, rfl⟩
end Go.Sl
