/- Part 16 of the proof: Yd. -/
import Derived.Test.YteicafhbhdliaaaGreatDoorOao
set_option linter.unusedSimpArgs false
set_option linter.unusedVariables false
set_option maxHeartbeats 4000000
namespace Go.Sl
open Go Go.Vc Go.Proofs Go.RowKit
theorem iP {W : Wo} {s : Stp} (h : s.kind = 1 \/ s.kind = 7 \/ s.kind = 3 \/ s.kind = 5) (hw : ¬ (0 <= s.who /\ s.who < (W.cs.length : Int))) : a8 W s = 3 := by
 unfold a8;rw [if_pos ⟨h, hw⟩]
theorem fN {W : Wo} {s : Stp} (h : s.kind = 2 \/ s.kind = 3) (hp : ¬ (0 <= s.pos /\ s.pos < (W.pool.length : Int))) : a8 W s = 3 := by
 unfold a8;split
 ·rfl
 ·rw [if_pos ⟨h, hp⟩]
theorem lI {W : Wo} {s : Stp} (h : s.kind = 4 \/ s.kind = 5) (hw : s.kind = 5 -> 0 <= s.who /\ s.who < (W.cs.length : Int)) (hk : ¬ (cd s.t = true /\ knT (frT W) s.t = true)) : a8 W s = 4 := by
 unfold a8;rw [if_neg (fun hc => ?_), if_neg (fun hc => ?_), if_pos ⟨h, hk⟩]
 ·rcases h with h | h <;> rcases hc.1 with e | e <;> rw [h] at e <;> exact absurd e (by decide)
 ·rcases h with h | h
  ·rcases hc.1 with e | e | e | e <;> rw [h] at e <;> exact absurd e (by decide)
  ·exact hc.2 (hw h)
theorem cD {W : Wo} {s : Stp} (h0 : 1 <= s.kind) (h1 : s.kind <= 9) (hw : (s.kind = 1 \/ s.kind = 7 \/ s.kind = 3 \/ s.kind = 5) -> 0 <= s.who /\ s.who < (W.cs.length : Int)) (hp : (s.kind = 2 \/ s.kind = 3) -> 0 <= s.pos /\ s.pos < (W.pool.length : Int))
  (hk : (s.kind = 4 \/ s.kind = 5) -> cd s.t = true /\ knT (frT W) s.t = true) : a8 W s = 0 := by
 unfold a8;rw [if_neg (fun hc => hc.2 (hw hc.1)), if_neg (fun hc => hc.2 (hp hc.1)), if_neg (fun hc => hc.2 (hk hc.1)), if_neg (by omega)]
theorem mF {W : Wo} {s : Stp} (h : s.kind < 1 \/ 9 < s.kind) : a8 W s = 1 := by
 unfold a8;rw [if_neg (fun hc => by rcases hc.1 with e | e | e | e <;> omega), if_neg (fun hc => by rcases hc.1 with e | e <;> omega), if_neg (fun hc => by rcases hc.1 with e | e <;> omega), if_pos h]
theorem uE (t : Tm) (ht : wt t <= 1000000000) : K true 114 [tv t] (.pv (.bool (cd t))) := oD t (aE t ht) fun _ => dn (aE t ht) ht
theorem BY (W : Wo) (c : Cln) (hc : W.cs = [c]) (who pos : Int) (t : Tm) : PM (cx true) 58 (woQ W) [.ptr 2000 0, .p (Stp.pv ⟨1, who, pos, t⟩)] (woQ W) (iv (a8 W ⟨1, who, pos, t⟩)) := by
 obtain ⟨M, hM⟩ : ∃ M, M = a8 W ⟨1, who, pos, t⟩ := ⟨_, rfl⟩
 rw [<- hM];have hi := wz W c hc who;obtain ⟨k, cs, names, pool, given, told, bad, lost, now, n⟩ := W;simp only at hc;subst hc
 by_cases hw : 0 <= who /\ who < 1
 rotate_left
 ·rw [decide_eq_false hw] at hi;refine pmv { own := oO [100015, 100044], tr := trT [(15, [0, 1, 3, 7, 15, 31, 63, 31, 159, 511, 1023, 2047], qQ [0, 1, 2, 3, 4, 5] (.alt (qQ [6, 7, 8, 9, 10, 11] .fin) (.one 7 (.alt (qQ [6, 8, 9, 10, 11] .fin) (qQ [8, 6, 9, 10, 11] .fin)))))] } Tryz.func58 ?_;refine goL ?_;refine ac.go gI hi (goL ?_);exact rR gI ⟨rfl, LE.of (congrArg iv (show (3 : Int) = M by rw [hM]; exact (iP (W := ⟨k, [c], names, pool, given, told, bad, lost, now, n⟩) (s := ⟨1, who, pos, t⟩) (by simp) hw).symm))⟩
 rw [decide_eq_true hw] at hi;refine pmv { own := oO [100015, 100044], tr := trT [(15, [0, 1, 3, 7, 15, 31, 63, 31, 159, 511, 1023, 2047], qQ [0, 1, 2, 3, 4, 5] (.alt (qQ [6, 7, 8, 9, 10, 11] .fin) (.one 7 (.alt (qQ [6, 8, 9, 10, 11] .fin) (qQ [8, 6, 9, 10, 11] .fin)))))] } Tryz.func58 ?_;refine goL ?_;refine ac.go gI hi (goL ?_);exact rR gI ⟨rfl, LE.of (congrArg iv (show (0 : Int) = M by rw [hM]; exact (cD (W := ⟨k, [c], names, pool, given, told, bad, lost, now, n⟩) (s := ⟨1, who, pos, t⟩) (by decide : (1 : Int) <= 1) (by decide : (1 : Int) <= 9) (fun h => hw) (fun h => absurd h (by simp)) (fun h => absurd h (by simp))).symm))⟩
theorem BZ (W : Wo) (c : Cln) (hc : W.cs = [c]) (who pos : Int) (t : Tm) : PM (cx true) 58 (woQ W) [.ptr 2000 0, .p (Stp.pv ⟨2, who, pos, t⟩)] (woQ W) (iv (a8 W ⟨2, who, pos, t⟩)) := by
 obtain ⟨M, hM⟩ : ∃ M, M = a8 W ⟨2, who, pos, t⟩ := ⟨_, rfl⟩
 rw [<- hM];obtain ⟨k, cs, names, pool, given, told, bad, lost, now, n⟩ := W;simp only at hc;subst hc;refine pmv { own := oO [100015, 100044], tr := trT [(15, [0, 1, 3, 7, 15, 31, 63, 31, 159, 511, 1023, 2047], qQ [0, 1, 2, 3, 4, 5] (.alt (qQ [6, 7, 8, 9, 10, 11] .fin) (.one 7 (.alt (qQ [6, 8, 9, 10, 11] .fin) (qQ [8, 6, 9, 10, 11] .fin)))))] } Tryz.func58 ?_;refine goL ?_;refine aa ?_ ?_ <;> intro h2
 ·refine goL ?_;exact rR gI ⟨rfl, LE.of (congrArg iv (show (3 : Int) = M by rw [hM]; exact (fN (W := ⟨k, [c], names, pool, given, told, bad, lost, now, n⟩) (s := ⟨2, who, pos, t⟩) (by simp) (fun h => by have h1 : (0 : Int) <= pos := h.1; have q : pos < 0 := of_decide_eq_true h2; omega)).symm))⟩
 refine goL ?_;refine aa ?_ ?_ <;> intro h3
 ·refine goL ?_;exact rR gI ⟨rfl, LE.of (congrArg iv (show (3 : Int) = M by rw [hM]; exact (fN (W := ⟨k, [c], names, pool, given, told, bad, lost, now, n⟩) (s := ⟨2, who, pos, t⟩) (by simp) (fun h => by have h1 : pos < ((pool.length : Nat) : Int) := h.2; have q : ((af pool).length : Int) <= pos := of_decide_eq_true h3; rw [ab] at q; omega)).symm))⟩
 ·refine goL ?_;exact rR gI ⟨rfl, LE.of (congrArg iv (show (0 : Int) = M by rw [hM]; exact (cD (W := ⟨k, [c], names, pool, given, told, bad, lost, now, n⟩) (s := ⟨2, who, pos, t⟩) (by decide : (1 : Int) <= 2) (by decide : (2 : Int) <= 9) (fun h => absurd h (by simp)) (fun h => ⟨by have q : ¬ pos < 0 := of_decide_eq_false h2; show (0 : Int) <= pos; omega, by have q : ¬ ((af pool).length : Int) <= pos := of_decide_eq_false h3; rw [ab] at q; show pos < ((pool.length : Nat) : Int); omega⟩) (fun h => absurd h (by simp))).symm))⟩
theorem B1 (W : Wo) (c : Cln) (hc : W.cs = [c]) (who pos : Int) (t : Tm) : PM (cx true) 58 (woQ W) [.ptr 2000 0, .p (Stp.pv ⟨3, who, pos, t⟩)] (woQ W) (iv (a8 W ⟨3, who, pos, t⟩)) := by
 obtain ⟨M, hM⟩ : ∃ M, M = a8 W ⟨3, who, pos, t⟩ := ⟨_, rfl⟩
 rw [<- hM];have hi := wz W c hc who;obtain ⟨k, cs, names, pool, given, told, bad, lost, now, n⟩ := W;simp only at hc;subst hc
 by_cases hw : 0 <= who /\ who < 1
 rotate_left
 ·rw [decide_eq_false hw] at hi;refine pmv { own := oO [100015, 100044], tr := trT [(15, [0, 1, 3, 7, 15, 31, 63, 31, 159, 511, 1023, 2047], qQ [0, 1, 2, 3, 4, 5] (.alt (qQ [6, 7, 8, 9, 10, 11] .fin) (.one 7 (.alt (qQ [6, 8, 9, 10, 11] .fin) (qQ [8, 6, 9, 10, 11] .fin)))))] } Tryz.func58 ?_;refine goL ?_;refine ac.go gI hi (goL ?_);exact rR gI ⟨rfl, LE.of (congrArg iv (show (3 : Int) = M by rw [hM]; exact (iP (W := ⟨k, [c], names, pool, given, told, bad, lost, now, n⟩) (s := ⟨3, who, pos, t⟩) (by simp) hw).symm))⟩
 rw [decide_eq_true hw] at hi;refine pmv { own := oO [100015, 100044], tr := trT [(15, [0, 1, 3, 7, 15, 31, 63, 31, 159, 511, 1023, 2047], qQ [0, 1, 2, 3, 4, 5] (.alt (qQ [6, 7, 8, 9, 10, 11] .fin) (.one 7 (.alt (qQ [6, 8, 9, 10, 11] .fin) (qQ [8, 6, 9, 10, 11] .fin)))))] } Tryz.func58 ?_;refine goL ?_;refine ac.go gI hi (goL ?_);refine aa ?_ ?_ <;> intro h2
 ·refine goL ?_;exact rR gI ⟨rfl, LE.of (congrArg iv (show (3 : Int) = M by rw [hM]; exact (fN (W := ⟨k, [c], names, pool, given, told, bad, lost, now, n⟩) (s := ⟨3, who, pos, t⟩) (by simp) (fun h => by have h1 : (0 : Int) <= pos := h.1; have q : pos < 0 := of_decide_eq_true h2; omega)).symm))⟩
 refine goL ?_;refine aa ?_ ?_ <;> intro h3
 ·refine goL ?_;exact rR gI ⟨rfl, LE.of (congrArg iv (show (3 : Int) = M by rw [hM]; exact (fN (W := ⟨k, [c], names, pool, given, told, bad, lost, now, n⟩) (s := ⟨3, who, pos, t⟩) (by simp) (fun h => by have h1 : pos < ((pool.length : Nat) : Int) := h.2; have q : ((af pool).length : Int) <= pos := of_decide_eq_true h3; rw [ab] at q; omega)).symm))⟩
 ·refine goL ?_;exact rR gI ⟨rfl, LE.of (congrArg iv (show (0 : Int) = M by rw [hM]; exact (cD (W := ⟨k, [c], names, pool, given, told, bad, lost, now, n⟩) (s := ⟨3, who, pos, t⟩) (by decide : (1 : Int) <= 3) (by decide : (3 : Int) <= 9) (fun h => hw) (fun h => ⟨by have q : ¬ pos < 0 := of_decide_eq_false h2; show (0 : Int) <= pos; omega, by have q : ¬ ((af pool).length : Int) <= pos := of_decide_eq_false h3; rw [ab] at q; show pos < ((pool.length : Nat) : Int); omega⟩) (fun h => absurd h (by simp))).symm))⟩
theorem B2 (W : Wo) (c d : Cln) (hc : W.cs = [c, d]) (who pos : Int) (t : Tm) : PM (cx true) 58 (woQ W) [.ptr 2000 0, .p (Stp.pv ⟨1, who, pos, t⟩)] (woQ W) (iv (a8 W ⟨1, who, pos, t⟩)) := by
 obtain ⟨M, hM⟩ : ∃ M, M = a8 W ⟨1, who, pos, t⟩ := ⟨_, rfl⟩
 rw [<- hM];have hi := sj W c d hc who;obtain ⟨k, cs, names, pool, given, told, bad, lost, now, n⟩ := W;simp only at hc;subst hc
 by_cases hw : 0 <= who /\ who < 2
 rotate_left
 ·rw [decide_eq_false hw] at hi;refine pmv { own := oO [100015, 100044], tr := trT [(15, [0, 1, 3, 7, 15, 31, 63, 31, 159, 511, 1023, 2047], qQ [0, 1, 2, 3, 4, 5] (.alt (qQ [6, 7, 8, 9, 10, 11] .fin) (.one 7 (.alt (qQ [6, 8, 9, 10, 11] .fin) (qQ [8, 6, 9, 10, 11] .fin)))))] } Tryz.func58 ?_;refine goL ?_;refine ac.go gI hi (goL ?_);exact rR gI ⟨rfl, LE.of (congrArg iv (show (3 : Int) = M by rw [hM]; exact (iP (W := ⟨k, [c, d], names, pool, given, told, bad, lost, now, n⟩) (s := ⟨1, who, pos, t⟩) (by simp) hw).symm))⟩
 rw [decide_eq_true hw] at hi;refine pmv { own := oO [100015, 100044], tr := trT [(15, [0, 1, 3, 7, 15, 31, 63, 31, 159, 511, 1023, 2047], qQ [0, 1, 2, 3, 4, 5] (.alt (qQ [6, 7, 8, 9, 10, 11] .fin) (.one 7 (.alt (qQ [6, 8, 9, 10, 11] .fin) (qQ [8, 6, 9, 10, 11] .fin)))))] } Tryz.func58 ?_;refine goL ?_;refine ac.go gI hi (goL ?_);exact rR gI ⟨rfl, LE.of (congrArg iv (show (0 : Int) = M by rw [hM]; exact (cD (W := ⟨k, [c, d], names, pool, given, told, bad, lost, now, n⟩) (s := ⟨1, who, pos, t⟩) (by decide : (1 : Int) <= 1) (by decide : (1 : Int) <= 9) (fun h => hw) (fun h => absurd h (by simp)) (fun h => absurd h (by simp))).symm))⟩
theorem B3 (W : Wo) (c d : Cln) (hc : W.cs = [c, d]) (who pos : Int) (t : Tm) : PM (cx true) 58 (woQ W) [.ptr 2000 0, .p (Stp.pv ⟨2, who, pos, t⟩)] (woQ W) (iv (a8 W ⟨2, who, pos, t⟩)) := by
 obtain ⟨M, hM⟩ : ∃ M, M = a8 W ⟨2, who, pos, t⟩ := ⟨_, rfl⟩
 rw [<- hM];obtain ⟨k, cs, names, pool, given, told, bad, lost, now, n⟩ := W;simp only at hc;subst hc;refine pmv { own := oO [100015, 100044], tr := trT [(15, [0, 1, 3, 7, 15, 31, 63, 31, 159, 511, 1023, 2047], qQ [0, 1, 2, 3, 4, 5] (.alt (qQ [6, 7, 8, 9, 10, 11] .fin) (.one 7 (.alt (qQ [6, 8, 9, 10, 11] .fin) (qQ [8, 6, 9, 10, 11] .fin)))))] } Tryz.func58 ?_;refine goL ?_;refine aa ?_ ?_ <;> intro h2
 ·refine goL ?_;exact rR gI ⟨rfl, LE.of (congrArg iv (show (3 : Int) = M by rw [hM]; exact (fN (W := ⟨k, [c, d], names, pool, given, told, bad, lost, now, n⟩) (s := ⟨2, who, pos, t⟩) (by simp) (fun h => by have h1 : (0 : Int) <= pos := h.1; have q : pos < 0 := of_decide_eq_true h2; omega)).symm))⟩
 refine goL ?_;refine aa ?_ ?_ <;> intro h3
 ·refine goL ?_;exact rR gI ⟨rfl, LE.of (congrArg iv (show (3 : Int) = M by rw [hM]; exact (fN (W := ⟨k, [c, d], names, pool, given, told, bad, lost, now, n⟩) (s := ⟨2, who, pos, t⟩) (by simp) (fun h => by have h1 : pos < ((pool.length : Nat) : Int) := h.2; have q : ((af pool).length : Int) <= pos := of_decide_eq_true h3; rw [ab] at q; omega)).symm))⟩
 ·refine goL ?_;exact rR gI ⟨rfl, LE.of (congrArg iv (show (0 : Int) = M by rw [hM]; exact (cD (W := ⟨k, [c, d], names, pool, given, told, bad, lost, now, n⟩) (s := ⟨2, who, pos, t⟩) (by decide : (1 : Int) <= 2) (by decide : (2 : Int) <= 9) (fun h => absurd h (by simp)) (fun h => ⟨by have q : ¬ pos < 0 := of_decide_eq_false h2; show (0 : Int) <= pos; omega, by have q : ¬ ((af pool).length : Int) <= pos := of_decide_eq_false h3; rw [ab] at q; show pos < ((pool.length : Nat) : Int); omega⟩) (fun h => absurd h (by simp))).symm))⟩
theorem B4 (W : Wo) (c d : Cln) (hc : W.cs = [c, d]) (who pos : Int) (t : Tm) : PM (cx true) 58 (woQ W) [.ptr 2000 0, .p (Stp.pv ⟨3, who, pos, t⟩)] (woQ W) (iv (a8 W ⟨3, who, pos, t⟩)) := by
 obtain ⟨M, hM⟩ : ∃ M, M = a8 W ⟨3, who, pos, t⟩ := ⟨_, rfl⟩
 rw [<- hM];have hi := sj W c d hc who;obtain ⟨k, cs, names, pool, given, told, bad, lost, now, n⟩ := W;simp only at hc;subst hc
 by_cases hw : 0 <= who /\ who < 2
 rotate_left
 ·rw [decide_eq_false hw] at hi;refine pmv { own := oO [100015, 100044], tr := trT [(15, [0, 1, 3, 7, 15, 31, 63, 31, 159, 511, 1023, 2047], qQ [0, 1, 2, 3, 4, 5] (.alt (qQ [6, 7, 8, 9, 10, 11] .fin) (.one 7 (.alt (qQ [6, 8, 9, 10, 11] .fin) (qQ [8, 6, 9, 10, 11] .fin)))))] } Tryz.func58 ?_;refine goL ?_;refine ac.go gI hi (goL ?_);exact rR gI ⟨rfl, LE.of (congrArg iv (show (3 : Int) = M by rw [hM]; exact (iP (W := ⟨k, [c, d], names, pool, given, told, bad, lost, now, n⟩) (s := ⟨3, who, pos, t⟩) (by simp) hw).symm))⟩
 rw [decide_eq_true hw] at hi;refine pmv { own := oO [100015, 100044], tr := trT [(15, [0, 1, 3, 7, 15, 31, 63, 31, 159, 511, 1023, 2047], qQ [0, 1, 2, 3, 4, 5] (.alt (qQ [6, 7, 8, 9, 10, 11] .fin) (.one 7 (.alt (qQ [6, 8, 9, 10, 11] .fin) (qQ [8, 6, 9, 10, 11] .fin)))))] } Tryz.func58 ?_;refine goL ?_;refine ac.go gI hi (goL ?_);refine aa ?_ ?_ <;> intro h2
 ·refine goL ?_;exact rR gI ⟨rfl, LE.of (congrArg iv (show (3 : Int) = M by rw [hM]; exact (fN (W := ⟨k, [c, d], names, pool, given, told, bad, lost, now, n⟩) (s := ⟨3, who, pos, t⟩) (by simp) (fun h => by have h1 : (0 : Int) <= pos := h.1; have q : pos < 0 := of_decide_eq_true h2; omega)).symm))⟩
 refine goL ?_;refine aa ?_ ?_ <;> intro h3
 ·refine goL ?_;exact rR gI ⟨rfl, LE.of (congrArg iv (show (3 : Int) = M by rw [hM]; exact (fN (W := ⟨k, [c, d], names, pool, given, told, bad, lost, now, n⟩) (s := ⟨3, who, pos, t⟩) (by simp) (fun h => by have h1 : pos < ((pool.length : Nat) : Int) := h.2; have q : ((af pool).length : Int) <= pos := of_decide_eq_true h3; rw [ab] at q; omega)).symm))⟩
 ·refine goL ?_;exact rR gI ⟨rfl, LE.of (congrArg iv (show (0 : Int) = M by rw [hM]; exact (cD (W := ⟨k, [c, d], names, pool, given, told, bad, lost, now, n⟩) (s := ⟨3, who, pos, t⟩) (by decide : (1 : Int) <= 3) (by decide : (3 : Int) <= 9) (fun h => hw) (fun h => ⟨by have q : ¬ pos < 0 := of_decide_eq_false h2; show (0 : Int) <= pos; omega, by have q : ¬ ((af pool).length : Int) <= pos := of_decide_eq_false h3; rw [ab] at q; show pos < ((pool.length : Nat) : Int); omega⟩) (fun h => absurd h (by simp))).symm))⟩
set_option maxHeartbeats 4000000 in
theorem B5 (W : Wo) (c d : Cln) (hc : W.cs = [c, d]) (who pos : Int) (t : Tm) (hg : 0 < W.given.length) (hfr : EE (frT W)) (ht : wt t <= 1000000000) : PM (cx true) 58 (woQ W) [.ptr 2000 0, .p (Stp.pv ⟨4, who, pos, t⟩)] (woQ W) (iv (a8 W ⟨4, who, pos, t⟩)) := by
 obtain ⟨M, hM⟩ : ∃ M, M = a8 W ⟨4, who, pos, t⟩ := ⟨_, rfl⟩
 rw [<- hM];have hR := uE t ht;have hF := j5 W c d hc hg (by have := hfr.sz; have := fU (frT W); omega);have hK := j4 hfr t ht;obtain ⟨k, cs, names, pool, given, told, bad, lost, now, n⟩ := W;simp only at hc;subst hc;cases eR : cd t with
 | false =>
  rw [eR] at hR;refine pmv { own := oO [100015, 100044], tr := trT [(15, [0, 1, 3, 7, 15, 31, 63, 31, 159, 511, 1023, 2047], qQ [0, 1, 2, 3, 4, 5] (.alt (qQ [6, 7, 8, 9, 10, 11] .fin) (.one 7 (.alt (qQ [6, 8, 9, 10, 11] .fin) (qQ [8, 6, 9, 10, 11] .fin)))))] } Tryz.func58 ?_;refine goL ?_
  repeat' ((conv => whnf); first | refine sS ?_ | refine aQ ?_ ?_ | refine ⟨_, ar.pr hR rfl rfl, ?_⟩ | fail)
  all_goals (conv => whnf)
  all_goals exact rR gI ⟨rfl, LE.of (congrArg iv (show (4 : Int) = M by rw [hM]; exact (lI (W := ⟨k, [c, d], names, pool, given, told, bad, lost, now, n⟩) (s := ⟨4, who, pos, t⟩) (by simp) (fun h => absurd h (by simp)) (fun h => by rw [eR] at h; cases h.1)).symm))⟩
 | true =>
  rw [eR] at hR;cases eK : knT (frT ⟨k, [c, d], names, pool, given, told, bad, lost, now, n⟩) t with
  | false =>
   rw [eK] at hK;refine pmv { own := oO [100015, 100044], tr := trT [(15, [0, 1, 3, 7, 15, 31, 63, 31, 159, 511, 1023, 2047], qQ [0, 1, 2, 3, 4, 5] (.alt (qQ [6, 7, 8, 9, 10, 11] .fin) (.one 7 (.alt (qQ [6, 8, 9, 10, 11] .fin) (qQ [8, 6, 9, 10, 11] .fin)))))] } Tryz.func58 ?_;refine goL ?_
   repeat' ((conv => whnf); first | refine sS ?_ | refine aQ ?_ ?_ | refine ⟨_, ar.pr hR rfl rfl, ?_⟩ | refine ⟨_, ac.pr (gn [(1100, 44)]) hF ⟨LE.of rfl, trivial⟩ (by (conv => whnf); exact ⟨.inr (.inl rfl), .inr (.inl rfl), .inr (.inl rfl), .inr (.inl rfl), .inr (.inl rfl), .inr (.inl rfl), .inr (.inl rfl), .inr (.inl rfl), .inr (.inl rfl), .inr (.inl rfl), .inr (.inl rfl), .inr (.inl rfl), .inr (.inl rfl), .inr (.inl rfl), .inr (.inl rfl), .inr (.inl rfl), trivial⟩) rfl, ?_⟩ | refine ⟨_, ar.pr hK rfl rfl, ?_⟩ | fail)
   all_goals (conv => whnf)
   all_goals exact rR gI ⟨rfl, LE.of (congrArg iv (show (4 : Int) = M by rw [hM]; exact (lI (W := ⟨k, [c, d], names, pool, given, told, bad, lost, now, n⟩) (s := ⟨4, who, pos, t⟩) (by simp) (fun h => absurd h (by simp)) (fun h => by rw [eK] at h; cases h.2)).symm))⟩
  | true =>
   rw [eK] at hK;refine pmv { own := oO [100015, 100044], tr := trT [(15, [0, 1, 3, 7, 15, 31, 63, 31, 159, 511, 1023, 2047], qQ [0, 1, 2, 3, 4, 5] (.alt (qQ [6, 7, 8, 9, 10, 11] .fin) (.one 7 (.alt (qQ [6, 8, 9, 10, 11] .fin) (qQ [8, 6, 9, 10, 11] .fin)))))] } Tryz.func58 ?_;refine goL ?_
   repeat' ((conv => whnf); first | refine sS ?_ | refine aQ ?_ ?_ | refine ⟨_, ar.pr hR rfl rfl, ?_⟩ | refine ⟨_, ac.pr (gn [(1100, 44)]) hF ⟨LE.of rfl, trivial⟩ (by (conv => whnf); exact ⟨.inr (.inl rfl), .inr (.inl rfl), .inr (.inl rfl), .inr (.inl rfl), .inr (.inl rfl), .inr (.inl rfl), .inr (.inl rfl), .inr (.inl rfl), .inr (.inl rfl), .inr (.inl rfl), .inr (.inl rfl), .inr (.inl rfl), .inr (.inl rfl), .inr (.inl rfl), .inr (.inl rfl), .inr (.inl rfl), trivial⟩) rfl, ?_⟩ | refine ⟨_, ar.pr hK rfl rfl, ?_⟩ | fail)
   all_goals (conv => whnf)
   all_goals exact rR gI ⟨rfl, LE.of (congrArg iv (show (0 : Int) = M by rw [hM]; exact (cD (W := ⟨k, [c, d], names, pool, given, told, bad, lost, now, n⟩) (s := ⟨4, who, pos, t⟩) (by decide : (1 : Int) <= 4) (by decide : (4 : Int) <= 9) (fun h => absurd h (by simp)) (fun h => absurd h (by simp)) (fun h => ⟨eR, eK⟩)).symm))⟩
set_option maxHeartbeats 4000000 in
theorem B6 (W : Wo) (c d : Cln) (hc : W.cs = [c, d]) (who pos : Int) (t : Tm) (hg : 0 < W.given.length) (hfr : EE (frT W)) (ht : wt t <= 1000000000) : PM (cx true) 58 (woQ W) [.ptr 2000 0, .p (Stp.pv ⟨5, who, pos, t⟩)] (woQ W) (iv (a8 W ⟨5, who, pos, t⟩)) := by
 obtain ⟨M, hM⟩ : ∃ M, M = a8 W ⟨5, who, pos, t⟩ := ⟨_, rfl⟩
 rw [<- hM];have hi := sj W c d hc who;have hR := uE t ht;have hF := j5 W c d hc hg (by have := hfr.sz; have := fU (frT W); omega);have hK := j4 hfr t ht;obtain ⟨k, cs, names, pool, given, told, bad, lost, now, n⟩ := W;simp only at hc;subst hc
 by_cases hw : 0 <= who /\ who < 2
 rotate_left
 ·rw [decide_eq_false hw] at hi;refine pmv { own := oO [100015, 100044], tr := trT [(15, [0, 1, 3, 7, 15, 31, 63, 31, 159, 511, 1023, 2047], qQ [0, 1, 2, 3, 4, 5] (.alt (qQ [6, 7, 8, 9, 10, 11] .fin) (.one 7 (.alt (qQ [6, 8, 9, 10, 11] .fin) (qQ [8, 6, 9, 10, 11] .fin)))))] } Tryz.func58 ?_;refine goL ?_;refine ac.go gI hi (goL ?_);exact rR gI ⟨rfl, LE.of (congrArg iv (show (3 : Int) = M by rw [hM]; exact (iP (W := ⟨k, [c, d], names, pool, given, told, bad, lost, now, n⟩) (s := ⟨5, who, pos, t⟩) (by simp) hw).symm))⟩
 rw [decide_eq_true hw] at hi;cases eR : cd t with
 | false =>
  rw [eR] at hR;refine pmv { own := oO [100015, 100044], tr := trT [(15, [0, 1, 3, 7, 15, 31, 63, 31, 159, 511, 1023, 2047], qQ [0, 1, 2, 3, 4, 5] (.alt (qQ [6, 7, 8, 9, 10, 11] .fin) (.one 7 (.alt (qQ [6, 8, 9, 10, 11] .fin) (qQ [8, 6, 9, 10, 11] .fin)))))] } Tryz.func58 ?_;refine goL ?_;refine ac.go gI hi (goL ?_)
  repeat' ((conv => whnf); first | refine sS ?_ | refine aQ ?_ ?_ | refine ⟨_, ar.pr hR rfl rfl, ?_⟩ | fail)
  all_goals (conv => whnf)
  all_goals exact rR gI ⟨rfl, LE.of (congrArg iv (show (4 : Int) = M by rw [hM]; exact (lI (W := ⟨k, [c, d], names, pool, given, told, bad, lost, now, n⟩) (s := ⟨5, who, pos, t⟩) (by simp) (fun h => hw) (fun h => by rw [eR] at h; cases h.1)).symm))⟩
 | true =>
  rw [eR] at hR;cases eK : knT (frT ⟨k, [c, d], names, pool, given, told, bad, lost, now, n⟩) t with
  | false =>
   rw [eK] at hK;refine pmv { own := oO [100015, 100044], tr := trT [(15, [0, 1, 3, 7, 15, 31, 63, 31, 159, 511, 1023, 2047], qQ [0, 1, 2, 3, 4, 5] (.alt (qQ [6, 7, 8, 9, 10, 11] .fin) (.one 7 (.alt (qQ [6, 8, 9, 10, 11] .fin) (qQ [8, 6, 9, 10, 11] .fin)))))] } Tryz.func58 ?_;refine goL ?_;refine ac.go gI hi (goL ?_)
   repeat' ((conv => whnf); first | refine sS ?_ | refine aQ ?_ ?_ | refine ⟨_, ar.pr hR rfl rfl, ?_⟩ | refine ⟨_, ac.pr (gn [(1100, 44)]) hF ⟨LE.of rfl, trivial⟩ (by (conv => whnf); exact ⟨.inr (.inl rfl), .inr (.inl rfl), .inr (.inl rfl), .inr (.inl rfl), .inr (.inl rfl), .inr (.inl rfl), .inr (.inl rfl), .inr (.inl rfl), .inr (.inl rfl), .inr (.inl rfl), .inr (.inl rfl), .inr (.inl rfl), .inr (.inl rfl), .inr (.inl rfl), .inr (.inl rfl), .inr (.inl rfl), trivial⟩) rfl, ?_⟩ | refine ⟨_, ar.pr hK rfl rfl, ?_⟩ | fail)
   all_goals (conv => whnf)
   all_goals exact rR gI ⟨rfl, LE.of (congrArg iv (show (4 : Int) = M by rw [hM]; exact (lI (W := ⟨k, [c, d], names, pool, given, told, bad, lost, now, n⟩) (s := ⟨5, who, pos, t⟩) (by simp) (fun h => hw) (fun h => by rw [eK] at h; cases h.2)).symm))⟩
  | true =>
   rw [eK] at hK;refine pmv { own := oO [100015, 100044], tr := trT [(15, [0, 1, 3, 7, 15, 31, 63, 31, 159, 511, 1023, 2047], qQ [0, 1, 2, 3, 4, 5] (.alt (qQ [6, 7, 8, 9, 10, 11] .fin) (.one 7 (.alt (qQ [6, 8, 9, 10, 11] .fin) (qQ [8, 6, 9, 10, 11] .fin)))))] } Tryz.func58 ?_;refine goL ?_;refine ac.go gI hi (goL ?_)
   repeat' ((conv => whnf); first | refine sS ?_ | refine aQ ?_ ?_ | refine ⟨_, ar.pr hR rfl rfl, ?_⟩ | refine ⟨_, ac.pr (gn [(1100, 44)]) hF ⟨LE.of rfl, trivial⟩ (by (conv => whnf); exact ⟨.inr (.inl rfl), .inr (.inl rfl), .inr (.inl rfl), .inr (.inl rfl), .inr (.inl rfl), .inr (.inl rfl), .inr (.inl rfl), .inr (.inl rfl), .inr (.inl rfl), .inr (.inl rfl), .inr (.inl rfl), .inr (.inl rfl), .inr (.inl rfl), .inr (.inl rfl), .inr (.inl rfl), .inr (.inl rfl), trivial⟩) rfl, ?_⟩ | refine ⟨_, ar.pr hK rfl rfl, ?_⟩ | fail)
   all_goals (conv => whnf)
   all_goals exact rR gI ⟨rfl, LE.of (congrArg iv (show (0 : Int) = M by rw [hM]; exact (cD (W := ⟨k, [c, d], names, pool, given, told, bad, lost, now, n⟩) (s := ⟨5, who, pos, t⟩) (by decide : (1 : Int) <= 5) (by decide : (5 : Int) <= 9) (fun h => hw) (fun h => absurd h (by simp)) (fun h => ⟨eR, eK⟩)).symm))⟩
theorem B7 (W : Wo) (c d : Cln) (hc : W.cs = [c, d]) (who pos : Int) (t : Tm) : PM (cx true) 58 (woQ W) [.ptr 2000 0, .p (Stp.pv ⟨6, who, pos, t⟩)] (woQ W) (iv (a8 W ⟨6, who, pos, t⟩)) := by
 obtain ⟨M, hM⟩ : ∃ M, M = a8 W ⟨6, who, pos, t⟩ := ⟨_, rfl⟩
 rw [<- hM];obtain ⟨k, cs, names, pool, given, told, bad, lost, now, n⟩ := W;simp only at hc;subst hc;refine pmv { own := oO [100015, 100044], tr := trT [(15, [0, 1, 3, 7, 15, 31, 63, 31, 159, 511, 1023, 2047], qQ [0, 1, 2, 3, 4, 5] (.alt (qQ [6, 7, 8, 9, 10, 11] .fin) (.one 7 (.alt (qQ [6, 8, 9, 10, 11] .fin) (qQ [8, 6, 9, 10, 11] .fin)))))] } Tryz.func58 ?_;refine goL ?_;exact rR gI ⟨rfl, LE.of (congrArg iv (show (0 : Int) = M by rw [hM]; exact (cD (W := ⟨k, [c, d], names, pool, given, told, bad, lost, now, n⟩) (s := ⟨6, who, pos, t⟩) (by decide : (1 : Int) <= 6) (by decide : (6 : Int) <= 9) (fun h => absurd h (by simp)) (fun h => absurd h (by simp)) (fun h => absurd h (by simp))).symm))⟩
theorem B8 (W : Wo) (c d : Cln) (hc : W.cs = [c, d]) (who pos : Int) (t : Tm) : PM (cx true) 58 (woQ W) [.ptr 2000 0, .p (Stp.pv ⟨7, who, pos, t⟩)] (woQ W) (iv (a8 W ⟨7, who, pos, t⟩)) := by
 obtain ⟨M, hM⟩ : ∃ M, M = a8 W ⟨7, who, pos, t⟩ := ⟨_, rfl⟩
 rw [<- hM];have hi := sj W c d hc who;obtain ⟨k, cs, names, pool, given, told, bad, lost, now, n⟩ := W;simp only at hc;subst hc
 by_cases hw : 0 <= who /\ who < 2
 rotate_left
 ·rw [decide_eq_false hw] at hi;refine pmv { own := oO [100015, 100044], tr := trT [(15, [0, 1, 3, 7, 15, 31, 63, 31, 159, 511, 1023, 2047], qQ [0, 1, 2, 3, 4, 5] (.alt (qQ [6, 7, 8, 9, 10, 11] .fin) (.one 7 (.alt (qQ [6, 8, 9, 10, 11] .fin) (qQ [8, 6, 9, 10, 11] .fin)))))] } Tryz.func58 ?_;refine goL ?_;refine ac.go gI hi (goL ?_);exact rR gI ⟨rfl, LE.of (congrArg iv (show (3 : Int) = M by rw [hM]; exact (iP (W := ⟨k, [c, d], names, pool, given, told, bad, lost, now, n⟩) (s := ⟨7, who, pos, t⟩) (by simp) hw).symm))⟩
 rw [decide_eq_true hw] at hi;refine pmv { own := oO [100015, 100044], tr := trT [(15, [0, 1, 3, 7, 15, 31, 63, 31, 159, 511, 1023, 2047], qQ [0, 1, 2, 3, 4, 5] (.alt (qQ [6, 7, 8, 9, 10, 11] .fin) (.one 7 (.alt (qQ [6, 8, 9, 10, 11] .fin) (qQ [8, 6, 9, 10, 11] .fin)))))] } Tryz.func58 ?_;refine goL ?_;refine ac.go gI hi (goL ?_);exact rR gI ⟨rfl, LE.of (congrArg iv (show (0 : Int) = M by rw [hM]; exact (cD (W := ⟨k, [c, d], names, pool, given, told, bad, lost, now, n⟩) (s := ⟨7, who, pos, t⟩) (by decide : (1 : Int) <= 7) (by decide : (7 : Int) <= 9) (fun h => hw) (fun h => absurd h (by simp)) (fun h => absurd h (by simp))).symm))⟩
theorem B9 (W : Wo) (c d : Cln) (hc : W.cs = [c, d]) (who pos : Int) (t : Tm) : PM (cx true) 58 (woQ W) [.ptr 2000 0, .p (Stp.pv ⟨8, who, pos, t⟩)] (woQ W) (iv (a8 W ⟨8, who, pos, t⟩)) := by
 obtain ⟨M, hM⟩ : ∃ M, M = a8 W ⟨8, who, pos, t⟩ := ⟨_, rfl⟩
 rw [<- hM];obtain ⟨k, cs, names, pool, given, told, bad, lost, now, n⟩ := W;simp only at hc;subst hc;refine pmv { own := oO [100015, 100044], tr := trT [(15, [0, 1, 3, 7, 15, 31, 63, 31, 159, 511, 1023, 2047], qQ [0, 1, 2, 3, 4, 5] (.alt (qQ [6, 7, 8, 9, 10, 11] .fin) (.one 7 (.alt (qQ [6, 8, 9, 10, 11] .fin) (qQ [8, 6, 9, 10, 11] .fin)))))] } Tryz.func58 ?_;refine goL ?_;exact rR gI ⟨rfl, LE.of (congrArg iv (show (0 : Int) = M by rw [hM]; exact (cD (W := ⟨k, [c, d], names, pool, given, told, bad, lost, now, n⟩) (s := ⟨8, who, pos, t⟩) (by decide : (1 : Int) <= 8) (by decide : (8 : Int) <= 9) (fun h => absurd h (by simp)) (fun h => absurd h (by simp)) (fun h => absurd h (by simp))).symm))⟩
theorem Cb (W : Wo) (c d : Cln) (hc : W.cs = [c, d]) (who pos : Int) (t : Tm) : PM (cx true) 58 (woQ W) [.ptr 2000 0, .p (Stp.pv ⟨9, who, pos, t⟩)] (woQ W) (iv (a8 W ⟨9, who, pos, t⟩)) := by
 obtain ⟨M, hM⟩ : ∃ M, M = a8 W ⟨9, who, pos, t⟩ := ⟨_, rfl⟩
 rw [<- hM];obtain ⟨k, cs, names, pool, given, told, bad, lost, now, n⟩ := W;simp only at hc;subst hc;refine pmv { own := oO [100015, 100044], tr := trT [(15, [0, 1, 3, 7, 15, 31, 63, 31, 159, 511, 1023, 2047], qQ [0, 1, 2, 3, 4, 5] (.alt (qQ [6, 7, 8, 9, 10, 11] .fin) (.one 7 (.alt (qQ [6, 8, 9, 10, 11] .fin) (qQ [8, 6, 9, 10, 11] .fin)))))] } Tryz.func58 ?_;refine goL ?_;exact rR gI ⟨rfl, LE.of (congrArg iv (show (0 : Int) = M by rw [hM]; exact (cD (W := ⟨k, [c, d], names, pool, given, told, bad, lost, now, n⟩) (s := ⟨9, who, pos, t⟩) (by decide : (1 : Int) <= 9) (by decide : (9 : Int) <= 9) (fun h => absurd h (by simp)) (fun h => absurd h (by simp)) (fun h => absurd h (by simp))).symm))⟩
theorem Cc (W : Wo) (c d : Cln) (hc : W.cs = [c, d]) (who pos : Int) (t : Tm) (kind : Int) (hk : kind < 1 \/ 9 < kind) : PM (cx true) 58 (woQ W) [.ptr 2000 0, .p (Stp.pv ⟨kind, who, pos, t⟩)] (woQ W) (iv (a8 W ⟨kind, who, pos, t⟩)) := by
 obtain ⟨M, hM⟩ : ∃ M, M = a8 W ⟨kind, who, pos, t⟩ := ⟨_, rfl⟩
 rw [<- hM];obtain ⟨k, cs, names, pool, given, told, bad, lost, now, n⟩ := W;simp only at hc;subst hc;refine pmv { own := oO [100015, 100044], tr := trT [(15, [0, 1, 3, 7, 15, 31, 63, 31, 159, 511, 1023, 2047], qQ [0, 1, 2, 3, 4, 5] (.alt (qQ [6, 7, 8, 9, 10, 11] .fin) (.one 7 (.alt (qQ [6, 8, 9, 10, 11] .fin) (qQ [8, 6, 9, 10, 11] .fin)))))] } Tryz.func58 ?_;refine goL ?_;refine aa ?_ ?_ <;> intro h0
 ·exact absurd (show kind = 1 from of_decide_eq_true h0) (by omega)
 refine goL ?_;refine aa ?_ ?_ <;> intro h1
 ·exact absurd (show kind = 7 from of_decide_eq_true h1) (by omega)
 refine goL ?_;refine aa ?_ ?_ <;> intro h2
 ·exact absurd (show kind = 3 from of_decide_eq_true h2) (by omega)
 refine goL ?_;refine aa ?_ ?_ <;> intro h3
 ·exact absurd (show kind = 5 from of_decide_eq_true h3) (by omega)
 refine goL ?_;refine aa ?_ ?_ <;> intro h4
 ·exact absurd (show kind = 2 from of_decide_eq_true h4) (by omega)
 refine goL ?_;refine aa ?_ ?_ <;> intro h5
 ·exact absurd (show kind = 3 from of_decide_eq_true h5) (by omega)
 refine goL ?_;refine aa ?_ ?_ <;> intro h6
 ·exact absurd (show kind = 4 from of_decide_eq_true h6) (by omega)
 refine goL ?_;refine aa ?_ ?_ <;> intro h7
 ·exact absurd (show kind = 5 from of_decide_eq_true h7) (by omega)
 refine goL ?_;refine aa ?_ ?_ <;> intro h8
 ·refine goL ?_;exact rR gI ⟨rfl, LE.of (congrArg iv (show (1 : Int) = M by rw [hM]; exact (mF (s := ⟨kind, who, pos, t⟩) hk).symm))⟩
 refine goL ?_;refine aa ?_ ?_ <;> intro h9
 ·refine goL ?_;exact rR gI ⟨rfl, LE.of (congrArg iv (show (1 : Int) = M by rw [hM]; exact (mF (s := ⟨kind, who, pos, t⟩) hk).symm))⟩
 ·exact absurd (show ¬ kind < 1 from of_decide_eq_false h8) (fun h => by have q : ¬ 9 < kind := of_decide_eq_false h9; omega)
end Go.Sl
