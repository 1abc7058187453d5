/- The statement TopTickets, without a condition: a ticket of one KDC is none of another one's. Part 7: Ia Text Ga Gb Gc. -/
import Derived.Test.YteicafhbhdliaaaGreatDoorPaf
import Derived.Test.YteicafhbhdliaaaGreatDoorSi
import Derived.Lib.ItoaNum
set_option linter.unusedSimpArgs false
set_option linter.unusedVariables false
set_option maxHeartbeats 4000000
namespace Go.Sl
open Go Go.Vc Go.Proofs Go.RowKit
theorem number15m_ok (b : Bool) (n : Int) (h0 : -9223372036854775808 ≤ n) (h1 : n ≤ 9223372036854775807) : K b 87 [iv n] (.pv (TV (dataT (61 :: Lib.itoa n)))) := by
 refine PC_of_vc (cx_ok b) (mixed b) {} Tryz.func87 (by kernel_rfl) rfl rfl (by kernel_rfl) ?_
 refine goM ?_
 refine ⟨_, CallVC.pr (itoa_ok b n h0 h1) rfl rfl, ?_⟩
 refine goM ?_
 refine ⟨_, CallVC.pr (word_ok b (Lib.itoa n) (by have := itoa_len h0 h1; omega)) rfl rfl, ?_⟩
 refine goM ?_
 exact LEP.refl _
abbrev noneW : Bs := [110, 111, 110, 101]
abbrev bodyW : Bs := [98, 111, 100, 121]
abbrev askW : Bs := [97, 115, 45, 114, 101, 113]
abbrev errW : Bs := [101, 114, 114, 111, 114]
def wordT (s : Bs) : Tm := dataT (61 :: s)
def noneT : Tm := packT noneW []
def bodyT (c n : Bs) : Tm := packT bodyW [wordT c, wordT n]
def askT (x y z : Tm) : Tm := packT askW [x, y, z]
def refT (e : Int) : Tm := packT errW [wordT (Lib.itoa e)]
theorem body_ok (b : Bool) (c n : Bs) (hc : c.length ≤ 1000000000) (hn : n.length ≤ 1000000000) : K b 34 [sv c, sv n] (.pv (TV (bodyT c n))) := by
 refine PC_of_vc (cx_ok b) (mixed b) {} Tryz.func34 (by kernel_rfl) rfl rfl (by kernel_rfl) ?_
 refine goM ?_
 refine ⟨_, CallVC.pr (word_ok b c (by omega)) rfl rfl, ?_⟩
 refine goM ?_
 refine ⟨_, CallVC.pr (word_ok b n (by omega)) rfl rfl, ?_⟩
 refine goM ?_
 refine ⟨_, CallVC.pr (pack_ok b bodyW _ [wordT c, wordT n] (tmvs2 _ _) (by simp)) rfl rfl, ?_⟩
 refine goM ?_
 exact LEP.refl _
theorem ask_ok (b : Bool) (x y z : Tm) : K b 78 [tv x, tv y, tv z] (.pv (TV (askT x y z))) := by
 refine PC_of_vc (cx_ok b) (mixed b) {} Tryz.func78 (by kernel_rfl) rfl rfl (by kernel_rfl) ?_
 refine goL ?_
 refine ⟨_, CallVC.pr (pack_ok b askW _ [x, y, z] (tmvs3 _ _ _) (by simp)) rfl rfl, ?_⟩
 refine goM ?_
 exact LEP.refl _
theorem refuse_ok (b : Bool) (e : Int) (h0 : -9223372036854775808 ≤ e) (h1 : e ≤ 9223372036854775807) : K b 40 [iv e] (.pv (TV (refT e))) := by
 refine PC_of_vc (cx_ok b) (mixed b) {} Tryz.func40 (by kernel_rfl) rfl rfl (by kernel_rfl) ?_
 refine goM ?_
 refine ⟨_, CallVC.pr (number15m_ok b e h0 h1) rfl rfl, ?_⟩
 refine goM ?_
 refine ⟨_, CallVC.pr (pack_ok b errW _ [wordT (Lib.itoa e)] (tmvs1 _) (by simp)) rfl rfl, ?_⟩
 refine goM ?_
 exact LEP.refl _
theorem mnone_ok (b : Bool) : K b 38 [] (.pv (TV noneT)) := by
 refine PC_of_vc (cx_ok b) (mixed b) {} Tryz.func38 (by kernel_rfl) rfl rfl (by kernel_rfl) ?_
 refine goM ?_
 refine ⟨_, CallVC.le (pack_ok b noneW _ [] rfl (by simp)) ⟨LE.refl _, LE_nil, trivial⟩ rfl rfl, ?_⟩
 refine goM ?_
 exact LEP.refl _
theorem hasPre_ok (b : Bool) (s p : Bs) : K b 225 [sv s, sv p] (.pv (.bool (decide (s.take p.length = p ∧ p.length ≤ s.length)))) := by
 refine PC_of_vc (cx_ok b) (mixed b) {} Tryz.func225 (by kernel_rfl) rfl rfl (by kernel_rfl) ?_
 refine goM ?_
 refine @bool_rec _ _ _ ?_ ?_ <;> intro h1
 ·have h1 : p.length ≤ s.length := by have h1 : (p.length : Int) ≤ (s.length : Int) := of_decide_eq_true h1; omega
  refine goM ?_
  refine ⟨Int.natCast_nonneg _, Nat.zero_le _, ?_⟩
  refine ⟨by show p.length ≤ s.length; exact h1, ?_⟩
  refine goM ?_
  refine LEP.of (congrArg PV.bool ?_)
  have e : cut s 0 ((p.length : Int)).toNat = s.take p.length := by simp [cut]
  rw [e]
  simp [h1]
 ·have h1 : ¬ p.length ≤ s.length := by have h1 : ¬ (p.length : Int) ≤ (s.length : Int) := of_decide_eq_false h1; omega
  refine goM ?_
  exact LEP.of (congrArg PV.bool (decide_eq_false fun h => h1 h.2).symm)
def preB (s p : Bs) : Bool := decide (s.take p.length = p ∧ p.length ≤ s.length)
def cutP (s p : Bs) : Bs × Bool := if preB s p = true then (s.drop p.length, true) else (s, false)
def cutR (x : Bs × Bool) : Res := .tup [.str x.1, .bool x.2]
theorem cutpre_ok (b : Bool) (s p : Bs) : K b 196 [sv s, sv p] (cutR (cutP s p)) := by
 have h := hasPre_ok b s p
 rw [show decide (s.take p.length = p ∧ p.length ≤ s.length) = preB s p from rfl] at h
 refine PC_of_vc (cx_ok b) (mixed b) {} Tryz.func196 (by kernel_rfl) rfl rfl (by kernel_rfl) ?_
 refine goM ?_
 refine ⟨_, CallVC.pr h rfl rfl, ?_⟩
 unfold cutP
 cases e : preB s p with
 | false =>
  refine goM ?_
  exact ⟨LEP.refl _, LEP.refl _, trivial⟩
 | true =>
  have h1 : p.length ≤ s.length := (of_decide_eq_true e).2
  refine goM ?_
  refine ⟨Int.natCast_nonneg _, ?_⟩
  refine goM ?_
  refine ⟨by show p.length ≤ s.length; exact h1, Nat.le_refl _, ?_⟩
  refine goM ?_
  refine ⟨LEP.of (congrArg PV.str ?_), LEP.refl _, trivial⟩
  show cut s ((p.length : Int)).toNat s.length = s.drop p.length
  simp only [cut, Int.toNat_natCast]
  exact List.take_of_length_le (by rw [List.length_drop]; omega)
theorem cutprefix_ok (b : Bool) (s p : Bs) : K b 149 [sv s, sv p] (cutR (cutP s p)) := by
 refine PC_of_vc (cx_ok b) (mixed b) {} Tryz.func149 (by kernel_rfl) rfl rfl (by kernel_rfl) ?_
 refine goM ?_
 refine ⟨_, CallVC.pr (cutpre_ok b s p) rfl rfl, ?_⟩
 refine goM ?_
 exact ⟨LEP.refl _, LEP.refl _, trivial⟩
def atoiP (s : Bs) : Int × Bool :=
 match Lib.atoiAll s with
 | .ok v => (v, false)
 | .range => (Lib.atoiSat s, true)
 | _ => (0, true)
def errP (b : Bool) : PV := cond b .err (.exact .nilIface)
def atoiR (x : Int × Bool) : Res := .tup [.int .i64 x.1, errP x.2]
theorem atoiP_bounds (s : Bs) : -9223372036854775808 ≤ (atoiP s).1 ∧ (atoiP s).1 ≤ 9223372036854775807 := by
 unfold atoiP
 split
 ·rename_i v e
  exact Lib.atoiAll_bounds e
 ·exact Lib.atoiSat_bounds s
 ·decide
theorem atoi_ok (b : Bool) (s : Bs) (hs : s.length ≤ 281474976710656) : K b 104 [sv s] (atoiR (atoiP s)) := by
 refine ⟨⟨_, Tryz.func104, rfl, rfl⟩, fun ok β w vs hG hlt hr _ _ _ _ => ?_⟩
 match vs, hr with
 | [v], hr =>
  obtain ⟨hr, _⟩ := hr
  rw [R, RP] at hr
  subst hr
  have hsz : (ByteArray.mk s.toArray).size ≤ 281474976710656 := by simpa [ByteArray.size] using hs
  have hl : (ByteArray.mk s.toArray).data.toList = s := by simp
  obtain ⟨⟨⟨t1, p1, hv1⟩, _⟩, ⟨t2, p2, hv2⟩, _⟩ := hG.1.2.2
  unfold atoiP
  cases e : Lib.atoiAll s with
  | ok v =>
   refine (Tryz.strconv_Atoi_ok ⟨s.toArray⟩ (by omega) v (by rw [hl]; exact e) w).mono ?_
   rintro e w' ⟨rfl, hw⟩
   refine ⟨_, rfl, ⟨_, rfl, by rw [RP], ?_, trivial⟩, ?_⟩
   ·show RP _ w' (.exact .nilIface) _
    rw [RP]
    exact ⟨rfl, rfl⟩
   ·rcases hw with rfl | ⟨t, rfl⟩
    ·exact Below.refl _ _
    ·exact Lib.bytesWorld_below _ _ _
  | range =>
   refine (Tryz.strconv_Atoi_range_var ⟨s.toArray⟩ hsz (by rw [hl]; exact e) t2 p2 w hv2).mono ?_
   rintro e w' ⟨N, rfl, _, _, hb⟩
   refine ⟨_, rfl, ⟨_, rfl, ?_, ?_, trivial⟩, hb⟩
   ·rw [RP, hl]
   show RP _ w' .err _
   rw [RP]
   exact ⟨_, _, rfl⟩
  | _ =>
   refine (Tryz.strconv_Atoi_syntax_var ⟨s.toArray⟩ hsz (by rw [hl]; exact e) t1 p1 w hv1).mono ?_
   rintro e w' ⟨N, rfl, _, _, hb⟩
   refine ⟨_, rfl, ⟨_, rfl, by rw [RP], ?_, trivial⟩, hb⟩
   show RP _ w' .err _
   rw [RP]
   exact ⟨_, _, rfl⟩
def wordOfT (t : Tm) : Bs × Bool := if (decide (t.kind = 1) && decide (t.kids = [])) = true ∧ (cutP t.name [61]).2 = true then ((cutP t.name [61]).1, true) else ([], false)
def sbR (x : Bs × Bool) : Res := .tup [.str x.1, .bool x.2]
theorem wordof_ok (b : Bool) (t : Tm) : K b 103 [tv t] (sbR (wordOfT t)) := by
 have h1 := msgdata_ok b t
 have h2 := cutprefix_ok b t.name [61]
 unfold wordOfT
 revert h1 h2
 generalize cutP t.name [61] = x
 generalize (decide (t.kind = 1) && decide (t.kids = [])) = q
 obtain ⟨s, m⟩ := x
 intro h1 h2
 refine PC_of_vc (cx_ok b) (mixed b) {} Tryz.func103 (by kernel_rfl) rfl rfl (by kernel_rfl) ?_
 refine goM ?_
 refine ⟨_, CallVC.pr h1 rfl rfl, ?_⟩
 refine goM ?_
 refine ⟨_, CallVC.pr h2 rfl rfl, ?_⟩
 cases q with
 | false =>
  refine goM ?_
  exact ⟨LEP.refl _, LEP.refl _, trivial⟩
 | true =>
  cases m with
  | false =>
   refine goM ?_
   exact ⟨LEP.refl _, LEP.refl _, trivial⟩
  | true =>
   refine goM ?_
   exact ⟨LEP.refl _, LEP.refl _, trivial⟩
theorem wordOfT_len (t : Tm) : (wordOfT t).1.length ≤ t.name.length := by
 unfold wordOfT
 split
 ·unfold cutP
  split
  ·simp
  ·exact Nat.le_refl _
 ·exact Nat.zero_le _
def numOfT (t : Tm) : Int × Bool :=
 if (wordOfT t).2 = true ∧ (atoiP (wordOfT t).1).2 = false ∧ (wordOfT t).1.length ≤ 18 ∧ Lib.itoa (atoiP (wordOfT t).1).1 = (wordOfT t).1 then ((atoiP (wordOfT t).1).1, true) else (0, false)
def ibR (x : Int × Bool) : Res := .tup [.int .i64 x.1, .bool x.2]
theorem numof_ok (b : Bool) (t : Tm) (hn : t.name.length ≤ 281474976710656) : K b 47 [tv t] (ibR (numOfT t)) := by
 have h1 := wordof_ok b t
 have h2 := atoi_ok b (wordOfT t).1 (Nat.le_trans (wordOfT_len t) hn)
 obtain ⟨b0, b1⟩ := atoiP_bounds (wordOfT t).1
 have h3 := itoa_ok b (atoiP (wordOfT t).1).1 b0 b1
 unfold numOfT
 revert h1 h2 h3
 generalize atoiP (wordOfT t).1 = y
 generalize wordOfT t = x
 obtain ⟨s, m⟩ := x
 obtain ⟨n, q⟩ := y
 intro h1 h2 h3
 refine PC_of_vc (cx_ok b) (mixed b) {} Tryz.func47 (by kernel_rfl) rfl rfl (by kernel_rfl) ?_
 refine goM ?_
 refine ⟨_, CallVC.pr h1 rfl rfl, ?_⟩
 refine goM ?_
 refine ⟨_, CallVC.pr h2 rfl rfl, ?_⟩
 cases m with
 | false =>
  cases q with
  | false =>
   refine goM ?_
   exact ⟨LEP.refl _, LEP.refl _, trivial⟩
  | true =>
   refine goM ?_
   exact ⟨LEP.refl _, LEP.refl _, trivial⟩
 | true =>
  cases q with
  | true =>
   refine goM ?_
   exact ⟨LEP.refl _, LEP.refl _, trivial⟩
  | false =>
   refine goM ?_
   refine @bool_rec _ _ _ ?_ ?_ <;> intro h4
   ·have h4 : ¬ s.length ≤ 18 := by have h4 : (18 : Int) < (s.length : Int) := of_decide_eq_true h4; omega
    rw [if_neg (fun h => h4 h.2.2.1)]
    refine goM ?_
    exact ⟨LEP.refl _, LEP.refl _, trivial⟩
   ·have h4 : s.length ≤ 18 := by have h4 : ¬ (18 : Int) < (s.length : Int) := of_decide_eq_false h4; omega
    refine goM ?_
    refine ⟨_, CallVC.pr h3 rfl rfl, ?_⟩
    refine goM ?_
    refine @bool_rec _ _ _ ?_ ?_ <;> intro h5
    ·have h5 : Lib.itoa n ≠ s := of_decide_eq_true h5
     rw [if_neg (fun h => h5 h.2.2.2)]
     refine goM ?_
     exact ⟨LEP.refl _, LEP.refl _, trivial⟩
    ·have h5 : Lib.itoa n = s := by simpa using h5
     rw [if_pos ⟨rfl, rfl, h4, h5⟩]
     refine goM ?_
     exact ⟨LEP.refl _, LEP.refl _, trivial⟩
theorem isnone_ok (b : Bool) (t : Tm) (hf : Fit t) : K b 21 [tv t] (.pv (.bool (unpackT noneW 0 t).isSome)) := by
 have h := unpack_ok b noneW 0 t (by decide) hf
 cases e : unpackT noneW 0 t with
 | none =>
  rw [e] at h
  refine PC_of_vc (cx_ok b) (mixed b) {} Tryz.func21 (by kernel_rfl) rfl rfl (by kernel_rfl) ?_
  refine goM ?_
  refine ⟨_, CallVC.pr h rfl rfl, ?_⟩
  refine goM ?_
  exact LEP.refl _
 | some l =>
  rw [e] at h
  refine PC_of_vc (cx_ok b) (mixed b) {} Tryz.func21 (by kernel_rfl) rfl rfl (by kernel_rfl) ?_
  refine goM ?_
  refine ⟨_, CallVC.pr h rfl rfl, ?_⟩
  refine goM ?_
  exact LEP.refl _
def refOfT (t : Tm) : Int × Bool :=
 match unpackT errW 1 t with
 | none => (0, false)
 | some l => if (numOfT (at_ l 0)).2 = true ∧ 1 ≤ (numOfT (at_ l 0)).1 then ((numOfT (at_ l 0)).1, true) else (0, false)
theorem refof_ok (b : Bool) (t : Tm) (hf : Fit t) (hn : ∀ l, unpackT errW 1 t = some l → (at_ l 0).name.length ≤ 281474976710656) : K b 12 [tv t] (ibR (refOfT t)) := by
 have h := unpack_ok b errW 1 t (by decide) hf
 unfold refOfT
 cases e : unpackT errW 1 t with
 | none =>
  rw [e] at h
  refine PC_of_vc (cx_ok b) (mixed b) {} Tryz.func12 (by kernel_rfl) rfl rfl (by kernel_rfl) ?_
  refine goM ?_
  refine ⟨_, CallVC.pr h rfl rfl, ?_⟩
  refine goM ?_
  exact ⟨LEP.refl _, LEP.refl _, trivial⟩
 | some l =>
  rw [e] at h
  have hl := unpackT_len e
  have h2 := numof_ok b (at_ l 0) (hn l e)
  show K b _ _ (ibR (if (numOfT (at_ l 0)).2 = true ∧ 1 ≤ (numOfT (at_ l 0)).1 then ((numOfT (at_ l 0)).1, true) else (0, false)))
  revert h2
  generalize numOfT (at_ l 0) = y
  obtain ⟨n, q⟩ := y
  intro h2
  refine PC_of_vc (cx_ok b) (mixed b) {} Tryz.func12 (by kernel_rfl) rfl rfl (by kernel_rfl) ?_
  refine goM ?_
  refine ⟨_, CallVC.pr h rfl rfl, ?_⟩
  refine goM ?_
  refine ⟨_, tmvs_at (l := l) (i := 0) (by omega), rfl, rfl, ?_⟩
  refine goM ?_
  refine ⟨_, CallVC.pr h2 rfl rfl, ?_⟩
  cases q with
  | false =>
   refine goM ?_
   exact ⟨LEP.refl _, LEP.refl _, trivial⟩
  | true =>
   refine goM ?_
   refine @bool_rec _ _ _ ?_ ?_ <;> intro h3
   ·have h3 : ¬ 1 ≤ n := by have h3 : n < 1 := of_decide_eq_true h3; omega
    rw [if_neg (fun h => h3 h.2)]
    refine goM ?_
    exact ⟨LEP.refl _, LEP.refl _, trivial⟩
   ·have h3 : 1 ≤ n := by have h3 : ¬ n < 1 := of_decide_eq_false h3; omega
    rw [if_pos ⟨rfl, h3⟩]
    refine goM ?_
    exact ⟨LEP.refl _, LEP.refl _, trivial⟩
def bodyOfT (t : Tm) : Bs × Bs × Bool :=
 match unpackT bodyW 2 t with
 | none => ([], [], false)
 | some l => if (wordOfT (at_ l 0)).2 = true ∧ (wordOfT (at_ l 1)).2 = true ∧ (wordOfT (at_ l 0)).1 ≠ [] ∧ (wordOfT (at_ l 1)).1 ≠ [] then ((wordOfT (at_ l 0)).1, (wordOfT (at_ l 1)).1, true) else ([], [], false)
def ssbR (x : Bs × Bs × Bool) : Res := .tup [.str x.1, .str x.2.1, .bool x.2.2]
theorem bodyof_ok (b : Bool) (t : Tm) (hf : Fit t) : K b 81 [tv t] (ssbR (bodyOfT t)) := by
 have h := unpack_ok b bodyW 2 t (by decide) hf
 unfold bodyOfT
 cases e : unpackT bodyW 2 t with
 | none =>
  rw [e] at h
  refine PC_of_vc (cx_ok b) (mixed b) {} Tryz.func81 (by kernel_rfl) rfl rfl (by kernel_rfl) ?_
  refine goM ?_
  refine ⟨_, CallVC.pr h rfl rfl, ?_⟩
  refine goM ?_
  exact ⟨LEP.refl _, LEP.refl _, LEP.refl _, trivial⟩
 | some l =>
  rw [e] at h
  have hl := unpackT_len e
  have h1 := wordof_ok b (at_ l 0)
  have h2 := wordof_ok b (at_ l 1)
  show K b _ _ (ssbR (if (wordOfT (at_ l 0)).2 = true ∧ (wordOfT (at_ l 1)).2 = true ∧ (wordOfT (at_ l 0)).1 ≠ [] ∧ (wordOfT (at_ l 1)).1 ≠ [] then ((wordOfT (at_ l 0)).1, (wordOfT (at_ l 1)).1, true) else ([], [], false)))
  revert h1 h2
  generalize wordOfT (at_ l 0) = x
  generalize wordOfT (at_ l 1) = y
  obtain ⟨c, p⟩ := x
  obtain ⟨n, q⟩ := y
  intro h1 h2
  refine PC_of_vc (cx_ok b) (mixed b) {} Tryz.func81 (by kernel_rfl) rfl rfl (by kernel_rfl) ?_
  refine goM ?_
  refine ⟨_, CallVC.pr h rfl rfl, ?_⟩
  refine goM ?_
  refine ⟨_, tmvs_at (l := l) (i := 0) (by omega), rfl, rfl, ?_⟩
  refine goM ?_
  refine ⟨_, CallVC.pr h1 rfl rfl, ?_⟩
  refine goM ?_
  refine ⟨_, tmvs_at (l := l) (i := 1) (by omega), rfl, rfl, ?_⟩
  refine goM ?_
  refine ⟨_, CallVC.pr h2 rfl rfl, ?_⟩
  cases p with
  | false =>
   refine goM ?_
   exact ⟨LEP.refl _, LEP.refl _, LEP.refl _, trivial⟩
  | true =>
   cases q with
   | false =>
    refine goM ?_
    exact ⟨LEP.refl _, LEP.refl _, LEP.refl _, trivial⟩
   | true =>
    refine goM ?_
    refine @bool_rec _ _ _ ?_ ?_ <;> intro h3
    ·have h3 : c = [] := of_decide_eq_true h3
     rw [if_neg (fun h => h.2.2.1 h3)]
     refine goM ?_
     exact ⟨LEP.refl _, LEP.refl _, LEP.refl _, trivial⟩
    ·have h3 : c ≠ [] := of_decide_eq_false h3
     refine goM ?_
     refine @bool_rec _ _ _ ?_ ?_ <;> intro h4
     ·have h4 : n = [] := of_decide_eq_true h4
      rw [if_neg (fun h => h.2.2.2 h4)]
      refine goM ?_
      exact ⟨LEP.refl _, LEP.refl _, LEP.refl _, trivial⟩
     ·have h4 : n ≠ [] := of_decide_eq_false h4
      rw [if_pos ⟨rfl, rfl, h3, h4⟩]
      refine goM ?_
      exact ⟨LEP.refl _, LEP.refl _, LEP.refl _, trivial⟩
end Go.Sl
open Go.Lib (decDigits)
namespace Tm
def letter (k : Int) : UInt8 :=
 if k = 1 then 100 else if k = 2 then 97 else if k = 3 then 112 else if k = 4 then 101 else if k = 5 then 109 else
 if k = 6 then 104 else if k = 7 then 107 else if k = 8 then 117 else if k = 9 then 115 else 120
def named (k : Int) : Bool := k == 1 || k == 2 || k == 7
def arity (k : Int) : Int := if k = 1 ∨ k = 2 then 0 else if k = 3 then -1 else if k = 6 ∨ k = 7 ∨ k = 8 then 1 else 2
def known (k : Int) : Bool := decide (1 ≤ k) && decide (k ≤ 10)
def nameText (n : Bs) : Bs := if n = [] then [] else decDigits n.length ++ 58 :: n
mutual
def text : Tm → Bs
 | mk k n l => letter k :: (nameText n ++ (if l = [] ∧ k ≠ 3 then [] else 40 :: (texts l ++ [41])))
def texts : List Tm → Bs
 | [] => []
 | t :: ts => text t ++ texts' ts
def texts' : List Tm → Bs
 | [] => []
 | t :: ts => 44 :: (text t ++ texts' ts)
end
mutual
def shp : Tm → Bool
 | mk k n l => known k && (named k == !n.isEmpty) && (decide (arity k < 0) || decide ((l.length : Int) = arity k)) && shps l
def shps : List Tm → Bool
 | [] => true
 | t :: ts => shp t && shps ts
end
theorem shps_iff (l : List Tm) : shps l = true ↔ ∀ t ∈ l, shp t = true := by
 induction l with
 | nil => simp [shps]
 | cons t ts ih => simp [shps, ih]
end Tm
namespace Go.Sl
open Go Go.Vc Go.Proofs Go.RowKit
theorem CallVC.ob1 {C : Cx} {η : Nat → AO} {f : FuncId} {args : List SV} {r : Res} {κ ty : Nat} {x : SV} (h : PC C f (lookO [(κ, .var false ty x)]) args r) (hκ : κ ∈ SV.keysL args) (hη : (η κ).ro = .var false ty x)
  (hkeys : ∀ q ∈ SV.keysL args, q = κ) (hx : x.keys = []) (hs : (args.all noSlc || r.scalar) = true) : CallVC C η f args args r := by
 have h1 : ∀ q, lookO [(κ, .var false ty x)] q = if q = κ then .var false ty x else .no := fun q => by
  show cond (Nat.beq q κ) _ _ = _
  rw [beq_ite]
  rfl
 refine ⟨⟨_, args, LEL.refl _, h, fun q => ?_, fun q hq => ?_, fun q q' hq => ?_, ?_⟩⟩
 ·rw [h1]
  split
  ·rename_i e
   subst e
   exact .inr ⟨.base hκ, hη.symm⟩
  ·exact .inl rfl
 ·rw [h1, hkeys q hq, if_pos rfl]
  rfl
 ·rw [h1] at hq
  split at hq
  ·have hq : q' ∈ x.keys := hq
   rw [hx] at hq
   cases hq
  ·cases hq
 ·cases e : r.scalar with
  | true => exact .inl rfl
  | false =>
   rw [e, Bool.or_false] at hs
   exact .inr fun x hx => List.all_eq_true.1 hs x hx
def idxT (p : Tm → Bool) : List Tm → Int
 | [] => -1
 | t :: ts => if p t then 0 else if idxT p ts < 0 then -1 else idxT p ts + 1
theorem idxT_spec (p : Tm → Bool) (l : List Tm) : 0 ≤ idxT p l ↔ l.any p = true := by
 induction l with
 | nil => simp [idxT]
 | cons t ts ih =>
  rw [List.any_cons, Bool.or_eq_true, ← ih]
  simp only [idxT]
  by_cases h : p t = true
  ·simp [h]
  ·rw [if_neg h]
   by_cases h2 : idxT p ts < 0
   ·rw [if_pos h2]
    exact ⟨fun h3 => by omega, fun h3 => by rcases h3 with h3 | h3; exact absurd h3 h; omega⟩
   ·rw [if_neg h2]
    exact ⟨fun _ => .inr (by omega), fun _ => by omega⟩
theorem idxT_none (p : Tm → Bool) (l : List Tm) (h : ∀ t ∈ l, p t = false) : idxT p l = -1 := by
 induction l with
 | nil => rfl
 | cons t ts ih =>
  simp only [idxT]
  rw [h t (List.mem_cons_self ..), ih fun u hu => h u (List.mem_cons_of_mem _ hu)]
  simp
theorem idxT_some (p : Tm → Bool) (l : List Tm) (i : Nat) (hi : i < l.length) (h : ∀ t ∈ l.take i, p t = false) (hp : p l[i] = true) : idxT p l = i := by
 induction l generalizing i with
 | nil => simp at hi
 | cons t ts ih =>
  cases i with
  | zero => simp at hp; simp [idxT, hp]
  | succ i =>
   have h0 := h t (by simp)
   have := ih i (by simpa using hi) (fun u hu => h u (by simp [hu])) (by simpa using hp)
   simp only [idxT, h0, this]
   simp
   omega
theorem index1_ok (b : Bool) (f : Nat) (n : Int) (p : Tm → Bool) (l : List Tm) (hl : l.length ≤ 9223372036854775807)
  (hp : ∀ t ∈ l, PC (cx b) f (lookO [(3, .var false 3 (iv n))]) [tv t, .ptr 3 0] (.pv (.bool (p t)))) :
  PC (cx b) 218 (lookO [(3, .var false 3 (iv n))]) [lv l, .fn f [.ptr 3 0]] (.pv (.int .i64 (idxT p l))) := by
 refine PC_of_vc (cx_ok b) (mixed b) {} Tryz.func218 (by kernel_rfl) rfl rfl (by kernel_rfl) ?_
 refine goS ?_
 refine ⟨{ i : Rd l.length // ∀ t ∈ l.take i.1, p t = false }, fun i => S.of [(0, lv l), (1, .fn f [.ptr 3 0]), (7, iv ((tmvs l).length : Int)), (8, iv (i.1.1 : Int))] [(3, .var false 3 (iv n))], fun i => l.length - i.1.1, ⟨Rd.zero _, by simp [Rd.zero]⟩, ?_, ?_⟩
 ·exact Ge.go
 rintro ⟨⟨i, hi⟩, hno⟩
 refine goS ?_
 refine @bool_rec _ _ _ ?_ ?_ <;> intro h1
 ·have hlt : i < l.length := by have := of_decide_eq_true h1; rw [tmvs_length] at this; exact Int.ofNat_lt.1 this
  refine goS ?_
  refine ⟨Int.natCast_nonneg _, TV l[i], tmvs_getN hlt, rfl, rfl, ?_⟩
  refine goS ?_
  refine ⟨_, CallVC.ob1 (hp l[i] (List.getElem_mem hlt)) (by simp [SV.keysL, SV.keys]) rfl (by simp [SV.keysL, SV.keys]) rfl rfl, ?_⟩
  refine goS ?_
  refine @bool_rec _ _ _ ?_ ?_ <;> intro h2
  ·refine goS ?_
   exact LEP.of (congrArg (PV.int .i64) (idxT_some p l i hlt hno h2).symm)
  ·refine goS ?_
   refine ⟨_, wrapN (n := i + 1) rfl (by omega), ?_⟩
   refine goS ?_
   refine ⟨⟨⟨i + 1, hlt⟩, ?_⟩, ?_, by show l.length - (i + 1) < l.length - i; omega⟩
   ·intro t ht
    rw [List.take_succ_eq_append_getElem hlt, List.mem_append, List.mem_singleton] at ht
    rcases ht with ht | rfl
    ·exact hno t ht
    ·exact h2
   ·exact Ge.go
 ·have hge : i = l.length := by have := of_decide_eq_false h1; rw [tmvs_length] at this; have h2 : ¬ ((i : Int) < l.length) := this; omega
  refine goS ?_
  exact LEP.of (congrArg (PV.int .i64) (idxT_none p l fun t ht => hno t (by rw [show l.take i = l from List.take_of_length_le (by omega)]; exact ht)).symm)
theorem contains1_ok (b : Bool) (f : Nat) (n : Int) (p : Tm → Bool) (l : List Tm) (hl : l.length ≤ 9223372036854775807)
  (hp : ∀ t ∈ l, PC (cx b) f (lookO [(3, .var false 3 (iv n))]) [tv t, .ptr 3 0] (.pv (.bool (p t)))) :
  PC (cx b) 192 (lookO [(3, .var false 3 (iv n))]) [lv l, .fn f [.ptr 3 0]] (.pv (.bool (l.any p))) := by
 refine PC_of_vc (cx_ok b) (mixed b) {} Tryz.func192 (by kernel_rfl) rfl rfl (by kernel_rfl) ?_
 refine goS ?_
 refine ⟨_, CallVC.ob1 (index1_ok b f n p l hl hp) (by simp [SV.keysL, SV.keys]) rfl (by simp [SV.keysL, SV.keys]) rfl rfl, ?_⟩
 refine goS ?_
 refine LEP.of (congrArg PV.bool ?_)
 rw [Bool.eq_iff_iff, decide_eq_true_eq]
 exact idxT_spec p l
theorem known_ok (b : Bool) (t : Tm) : K b 191 [tv t] (.pv (.bool (Tm.known t.kind))) := by
 refine PC_of_vc (cx_ok b) (mixed b) {} Tryz.func191 (by kernel_rfl) rfl rfl (by kernel_rfl) ?_
 refine goS ?_
 refine @bool_rec _ _ _ ?_ ?_ <;> intro h1
 ·have h1 : 1 ≤ t.kind := of_decide_eq_true h1
  refine goS ?_
  exact LEP.of (congrArg PV.bool (by simp [Tm.known, h1]))
 ·have h1 : ¬ 1 ≤ t.kind := of_decide_eq_false h1
  refine goS ?_
  exact LEP.of (congrArg PV.bool (by simp [Tm.known, h1]))
theorem kinds_at {k : Int} (h : Tm.known k = true) : kindsL[k.toNat]? = some (kd [Tm.letter k] (Tm.arity k) (Tm.named k)) := by
 simp only [Tm.known, Bool.and_eq_true, decide_eq_true_eq] at h
 have : k = 1 ∨ k = 2 ∨ k = 3 ∨ k = 4 ∨ k = 5 ∨ k = 6 ∨ k = 7 ∨ k = 8 ∨ k = 9 ∨ k = 10 := by omega
 rcases this with rfl | rfl | rfl | rfl | rfl | rfl | rfl | rfl | rfl | rfl <;> rfl
mutual
def shpD : Tm → Nat → Bool
 | .mk k n l, d => match d with
  | 0 => false
  | d + 1 => Tm.known k && (Tm.named k == !n.isEmpty) && (decide (Tm.arity k < 0) || decide ((l.length : Int) = Tm.arity k)) && shpDs l d
def shpDs : List Tm → Nat → Bool
 | [], _ => true
 | t :: ts, d => shpD t d && shpDs ts d
end
theorem shpDs_any (l : List Tm) (d : Nat) : shpDs l d = !(l.any fun t => !shpD t d) := by
 induction l with
 | nil => rfl
 | cons t ts ih => rw [shpDs, ih, List.any_cons]; cases shpD t d <;> simp
theorem shpD_eq (t : Tm) (d : Nat) : shpD t (d + 1) = (Tm.known t.kind && (Tm.named t.kind == !t.name.isEmpty) && (decide (Tm.arity t.kind < 0) || decide ((t.kids.length : Int) = Tm.arity t.kind)) && shpDs t.kids d) := by cases t; rfl
theorem shpD_zero (t : Tm) : shpD t 0 = false := by cases t; rfl
theorem shape_ok : ∀ t, Fit t → ∀ d : Nat, d ≤ 1000 → K true 145 [tv t, iv d] (.pv (.bool (shpD t d))) := by
 intro t
 induction t using Tm.indk with
 | h t ih =>
 intro hf d hd
 have hcl : ∀ u ∈ t.kids, 0 < d → PC (cx true) 193 (lookO [(3, .var false 3 (iv d))]) [tv u, .ptr 3 0] (.pv (.bool (!shpD u (d - 1)))) := by
  intro u hu h0
  have b := true
  refine PC_of_vc (cx_ok true) (mixed true) {} Tryz.func193 (by kernel_rfl) rfl rfl (by kernel_rfl) ?_
  refine goS ?_
  refine ⟨_, wrapN (n := d - 1) (by omega) (by omega), ?_⟩
  refine goS ?_
  refine ⟨_, CallVC.pr (ih u hu (hf.kid hu) (d - 1) (by omega)) rfl rfl, ?_⟩
  refine goS ?_
  exact LEP.refl _
 refine PC_of_vc (cx_ok true) (mixed true) {} Tryz.func145 (by kernel_rfl) rfl rfl (by kernel_rfl) ?_
 refine goS ?_
 refine @bool_rec _ _ _ ?_ ?_ <;> intro h1
 ·have h1 : d = 0 := by have : (d : Int) = 0 := of_decide_eq_true h1; omega
  subst h1
  refine goS ?_
  exact LEP.of (congrArg PV.bool (shpD_zero t).symm)
 ·have h1 : 0 < d := by have : ¬ (d : Int) = 0 := of_decide_eq_false h1; omega
  obtain ⟨e, rfl⟩ : ∃ e, d = e + 1 := ⟨d - 1, by omega⟩
  refine goS ?_
  refine ⟨_, CallVC.pr (known_ok true t) rfl rfl, ?_⟩
  refine goS ?_
  refine @bool_rec _ _ _ ?_ ?_ <;> intro h2
  ·have h2 : Tm.known t.kind = false := by simpa using h2
   refine goS ?_
   exact LEP.of (congrArg PV.bool (by rw [shpD_eq, h2]; simp))
  ·have h2 : Tm.known t.kind = true := by simpa using h2
   have hk : 0 ≤ t.kind := by simp only [Tm.known, Bool.and_eq_true, decide_eq_true_eq] at h2; omega
   refine goS ?_
   refine ⟨hk, _, kinds_at h2, rfl, rfl, rfl, ?_⟩
   refine goS ?_
   refine @bool_rec _ _ _ ?_ ?_ <;> intro h3
   ·have h3 : Tm.named t.kind = decide (t.name = []) := by simpa using h3
    refine goS ?_
    refine LEP.of (congrArg PV.bool ?_)
    rw [shpD_eq, h3]
    cases t.name <;> simp
   ·have h3 : (Tm.named t.kind == !t.name.isEmpty) = true := by
     have h3 : ¬ Tm.named t.kind = decide (t.name = []) := by simpa using h3
     revert h3
     cases t.name <;> cases Tm.named t.kind <;> simp
    refine goS ?_
    refine ⟨hk, _, kinds_at h2, rfl, rfl, rfl, ?_⟩
    refine goS ?_
    have fin : ∀ (hz : (decide (Tm.arity t.kind < 0) || decide ((t.kids.length : Int) = Tm.arity t.kind)) = true), shpD t (e + 1) = !(t.kids.any fun u => !shpD u e) := by
     intro hz
     rw [shpD_eq, h2, h3, hz, shpDs_any]
     simp
    refine @bool_rec _ _ _ ?_ ?_ <;> intro h4
    ·have h4 : 0 ≤ Tm.arity t.kind := of_decide_eq_true h4
     refine goS ?_
     refine @bool_rec _ _ _ ?_ ?_ <;> intro h5
     ·have h5 : ¬ (t.kids.length : Int) = Tm.arity t.kind := by have := of_decide_eq_true h5; rw [tmvs_length] at this; exact this
      refine goS ?_
      refine LEP.of (congrArg PV.bool ?_)
      rw [shpD_eq, decide_eq_false h5, decide_eq_false (show ¬ Tm.arity t.kind < 0 by omega)]
      simp
     ·have h5 : (t.kids.length : Int) = Tm.arity t.kind := by have := of_decide_eq_false h5; rw [tmvs_length] at this; exact Classical.not_not.1 this
      rw [fin (by rw [decide_eq_true h5]; simp)]
      refine goS ?_
      refine ⟨_, CallVC.ob1 (contains1_ok true _ ((e + 1 : Nat) : Int) (fun u => !shpD u e) t.kids hf.len fun u hu => hcl u hu h1) (by simp [SV.keysL, SV.keys]) (by conv => lhs; whnf) (by simp [SV.keysL, SV.keys]) rfl rfl, ?_⟩
      refine goS ?_
      exact LEP.refl _
    ·have h4 : Tm.arity t.kind < 0 := by have := of_decide_eq_false h4; omega
     rw [fin (by rw [decide_eq_true h4]; simp)]
     refine goS ?_
     refine ⟨_, CallVC.ob1 (contains1_ok true _ ((e + 1 : Nat) : Int) (fun u => !shpD u e) t.kids hf.len fun u hu => hcl u hu h1) (by simp [SV.keysL, SV.keys]) (by conv => lhs; whnf) (by simp [SV.keysL, SV.keys]) rfl rfl, ?_⟩
     refine goS ?_
     exact LEP.refl _
end Go.Sl
namespace Go.Sl
open Go Go.Vc Go.Proofs Go.RowKit
def strL (l : List Bs) : List PV := l.map .str
theorem strL_length (l : List Bs) : (strL l).length = l.length := by simp [strL]
theorem strL_sz (l : List Bs) : allSz (false, 1) (strL l) := by
 induction l with
 | nil => trivial
 | cons x l ih => exact ⟨rfl, ih⟩
theorem join_ok' (b : Bool) (xs : List Bs) (sep : Bs) (hN : xs.length ≤ 140737488355328) (hlen : (Lib.join xs sep).length ≤ 140737488355328) : K b 194 [.p (.lst (strL xs)), sv sep] (.pv (.str (Lib.join xs sep))) := by
 refine ⟨⟨_, Tryz.func194, rfl, rfl⟩, fun ok β w vs hG hlt hr _ _ _ _ => ?_⟩
 match vs, hr with
 | [v, u], hr =>
  obtain ⟨hr, hr2, _⟩ := hr
  rw [R, RP] at hr
  rw [R, RP] at hr2
  subst hr2
  obtain ⟨A, cap, sz, rfl, hcap, hmax, hE⟩ := hr
  rw [strL_length] at hcap ⊢
  cases xs with
  | nil =>
   refine (Tryz.strings_Join_none A cap ⟨sep.toArray⟩ w).mono ?_
   rintro e w' ⟨rfl, rfl⟩
   exact ⟨_, rfl, by rw [RES, RP]; rfl, Below.refl _ _⟩
  | cons x xs =>
   have hget : ∀ (j : Nat) y, (x :: xs)[j]? = some y → ∃ ad, A = some ad ∧ ok ad.block ∧ w.cell? (ad.add j) = some (.string ⟨y.toArray⟩) := by
    intro j y hj
    obtain ⟨ad, c, h1, h2, h3, h4, h5⟩ := RPE_get hE (i := j) (x := .str y) (by rw [strL, List.getElem?_map, hj]; rfl)
    rw [RP] at h3
    subst h3
    have hsz : sz = 1 := h4.symm
    subst hsz
    refine ⟨ad, h1, h2, ?_⟩
    have := h5 0 (.string ⟨y.toArray⟩) rfl
    simpa using this
   obtain ⟨ad, rfl, hok, hc0⟩ := hget 0 x rfl
   obtain ⟨bk, o, spot⟩ := ad
   have hspot : spot = none := by simpa [Addr.add] using World.cell?_spot hc0
   subst hspot
   have := Tryz.strings_Join bk o cap ((x :: xs).map fun y => (⟨y.toArray⟩ : ByteArray)) ⟨sep.toArray⟩ w (fun j y hj => by
    rw [List.getElem?_map] at hj
    obtain ⟨z, hz, rfl⟩ := Option.map_eq_some_iff.1 hj
    obtain ⟨ad, h1, _, h3⟩ := hget j z hz
    cases h1
    rwa [add_plain] at h3) (hlt _ hok) (by rw [List.length_map]; exact hN) (by rw [List.length_map]; exact hcap) (by simpa [List.map_map, Function.comp_def] using hlen)
   rw [List.length_map] at this
   refine this.mono ?_
   rintro e w' ⟨rfl, hb⟩
   exact ⟨_, rfl, by rw [RES, RP]; simp [List.map_map, Function.comp_def], hb⟩
theorem texts_join (l : List Tm) : Lib.join (l.map Tm.text) [44] = Tm.texts l := by
 have ht : ∀ l : List Tm, Lib.joinTail [44] (l.map Tm.text) = Tm.texts' l := by
  intro l
  induction l with
  | nil => simp [Lib.joinTail, Tm.texts']
  | cons t ts ih =>
   rw [Tm.texts', ← ih]
   simp [Lib.joinTail]
 cases l with
 | nil => simp [Lib.join_nil, Tm.texts]
 | cons t ts => rw [List.map_cons, Lib.join_cons, ht, Tm.texts]
theorem text_mk (t : Tm) : t.text = Tm.letter t.kind :: (Tm.nameText t.name ++ (if t.kids = [] ∧ t.kind ≠ 3 then [] else 40 :: (Tm.texts t.kids ++ [41]))) := by cases t; rw [Tm.text]; rfl
theorem text_pos (t : Tm) : 1 ≤ t.text.length := by rw [text_mk]; simp
theorem texts'_len (l : List Tm) : l.length ≤ (Tm.texts' l).length ∧ ∀ u ∈ l, u.text.length ≤ (Tm.texts' l).length := by
 induction l with
 | nil => simp
 | cons t ts ih =>
  rw [Tm.texts']
  simp only [List.length_cons, List.length_append, List.mem_cons]
  refine ⟨by omega, ?_⟩
  rintro u (rfl | hu)
  ·omega
  ·have := ih.2 u hu
   omega
theorem texts_len (l : List Tm) : l.length ≤ (Tm.texts l).length ∧ ∀ u ∈ l, u.text.length ≤ (Tm.texts l).length := by
 cases l with
 | nil => simp
 | cons t ts =>
  rw [Tm.texts]
  have := texts'_len ts
  have hp := text_pos t
  simp only [List.length_cons, List.length_append, List.mem_cons]
  refine ⟨by omega, ?_⟩
  rintro u (rfl | hu)
  ·omega
  ·have := this.2 u hu
   omega
theorem hbd16 {a b : Nat} (h : a + b ≤ 8796093022208) : (a + b) * tiStr.bytes ≤ 140737488355328 := by
 show (a + b) * 16 ≤ 140737488355328
 omega
theorem strL_take {l : List Tm} {i : Nat} (h : i < l.length) : strL ((l.take i).map Tm.text) ++ [.str l[i].text] = strL ((l.take (i + 1)).map Tm.text) := by
 rw [List.take_succ_eq_append_getElem h, List.map_append, strL, strL, List.map_append]
 rfl
theorem known_of_shp {t : Tm} (h : t.shp = true) : Tm.known t.kind = true ∧ ∀ u ∈ t.kids, u.shp = true := by
 obtain ⟨k, n, l⟩ := t
 simp only [Tm.shp, Bool.and_eq_true] at h
 exact ⟨h.1.1.1, (Tm.shps_iff l).1 h.2⟩
abbrev itoa' (n : Nat) : Bs := Lib.itoa (n : Int)
theorem text_ok : ∀ t, Fit t → t.shp = true → t.text.length ≤ 1099511627776 → K true 146 [tv t] (.pv (.str t.text)) := by
 intro t
 induction t using Tm.indk with
 | h t ih =>
 intro hf hs hb
 obtain ⟨hk, hks⟩ := known_of_shp hs
 have hk0 : 0 ≤ t.kind := by simp only [Tm.known, Bool.and_eq_true, decide_eq_true_eq] at hk; omega
 have hlen := hf.len
 have hnl : (Tm.nameText t.name).length ≤ 1099511627776 := by rw [text_mk] at hb; simp at hb; omega
 have htx : ¬ (t.kids = [] ∧ t.kind ≠ 3) → (Tm.texts t.kids).length + (Tm.nameText t.name).length + 3 ≤ 1099511627776 := by
  intro h
  rw [text_mk, if_neg h] at hb
  simp at hb
  omega
 have hdone : t.kids = [] ∧ t.kind ≠ 3 → t.text = Tm.letter t.kind :: Tm.nameText t.name := by
  intro h
  rw [text_mk, if_pos h]
  simp
 have hgo : ¬ (t.kids = [] ∧ t.kind ≠ 3) → t.text = Tm.letter t.kind :: Tm.nameText t.name ++ [40] ++ Tm.texts t.kids ++ [41] := by
  intro h
  rw [text_mk, if_neg h]
  simp
 have hz : ((tmvs t.kids).length : Int) = 0 ↔ t.kids = [] := by
  rw [tmvs_length]
  cases t.kids <;> simp
  omega
 refine PC_of_vc (cx_ok true) (mixed true) { own := fun q => Nat.beq q 4 || Nat.beq q 46 } Tryz.func146 (by kernel_rfl) rfl rfl (by kernel_rfl) ?_
 refine goS ?_
 refine ⟨hk0, _, kinds_at hk, rfl, rfl, rfl, ?_⟩
 refine goS ?_
 refine @bool_rec _ _ _ ?_ ?_ <;> intro h1
 ·have h1 : t.name ≠ [] := of_decide_eq_true h1
  have hP2 : [Tm.letter t.kind] ++ (itoa' t.name.length ++ [58] ++ t.name) = Tm.letter t.kind :: Tm.nameText t.name := by simp [itoa', Lib.itoa, Tm.nameText, h1]
  have hP : (SV.p (.str ([Tm.letter t.kind] ++ (itoa' t.name.length ++ [58] ++ t.name)))) = sv (Tm.letter t.kind :: Tm.nameText t.name) := by rw [hP2]
  have hnn : (itoa' t.name.length).length + 1 + t.name.length = (Tm.nameText t.name).length := by have := congrArg List.length hP2; simp at this; omega
  refine goS ?_
  refine ⟨_, CallVC.pr (itoa_ok true (t.name.length : Int) (by omega) (by omega)) rfl rfl, ?_⟩
  refine goS ?_
  refine ⟨by show (itoa' t.name.length).length + 1 ≤ _; omega, ?_⟩
  refine goS ?_
  refine ⟨by show (itoa' t.name.length ++ [58]).length + t.name.length ≤ _; rw [List.length_append]; show _ + 1 + _ ≤ _; omega, ?_⟩
  refine goS ?_
  refine ⟨by show 1 + (itoa' t.name.length ++ [58] ++ t.name).length ≤ _; rw [List.length_append, List.length_append]; show 1 + (_ + 1 + _) ≤ _; omega, ?_⟩
  refine goS ?_
  refine @bool_rec _ _ _ ?_ ?_ <;> intro h2
  ·have h2 : t.kids = [] := hz.1 (of_decide_eq_true h2)
   refine goS ?_
   refine @bool_rec _ _ _ ?_ ?_ <;> intro h3
   ·have h3 : t.kind ≠ 3 := of_decide_eq_true h3
    refine goS ?_
    exact LEP.of (congrArg PV.str (hP2.trans (hdone ⟨h2, h3⟩).symm))
   ·have h3 : t.kind = 3 := by simpa using h3
    have hno : ¬ (t.kids = [] ∧ t.kind ≠ 3) := fun h => h.2 h3
    have hb2 := htx hno
    obtain ⟨hkl, hkt⟩ := texts_len t.kids
    refine goS ?_
    refine ⟨Rd t.kids.length, fun i => S.of [(1, .ptr 1 0), (3, sv (Tm.letter t.kind :: Tm.nameText t.name)), (4, .slc 4), (36, lv t.kids), (37, iv ((tmvs t.kids).length : Int)), (38, iv (i.1 : Int))] [(1, .var true 26 (tv t)), (4, .row 9 1 (strL ((t.kids.take i.1).map Tm.text)))], fun i => t.kids.length - i.1, Rd.zero _, ?_, ?_⟩
    ·refine Ge.of rfl ?_ ?_
     ·repeat (conv => whnf); first | refine ⟨LE.of hP, ?_⟩ | refine ⟨LE.of rfl, ?_⟩
      trivial
     ·repeat (conv => whnf); refine ⟨OLE.of rfl, ?_⟩
      trivial
    rintro ⟨i, hi⟩
    refine goS ?_
    refine @bool_rec _ _ _ ?_ ?_ <;> intro h4
    ·have hlt : i < t.kids.length := by have := of_decide_eq_true h4; rw [tmvs_length] at this; exact Int.ofNat_lt.1 this
     have hm := List.getElem_mem hlt
     refine goS ?_
     refine ⟨Int.natCast_nonneg _, TV t.kids[i], tmvs_getN hlt, rfl, rfl, ?_⟩
     refine goS ?_
     refine ⟨_, CallVC.pr (ih t.kids[i] hm (hf.kid hm) (hks _ hm) (by have := hkt _ hm; omega)) rfl rfl, ?_⟩
     refine goS ?_
     refine ⟨hbd16 (by simp only [strL_length, List.length_map, List.length_take, List.length_cons, List.length_nil]; omega), ?_⟩
     refine goS ?_
     refine ⟨_, wrapN (n := i + 1) rfl (by omega), ?_⟩
     refine goS ?_
     refine ⟨⟨i + 1, hlt⟩, ?_, by show t.kids.length - (i + 1) < t.kids.length - i; omega⟩
     refine Ge.of rfl ?_ ?_
     ·repeat (conv => whnf); refine ⟨LE.of rfl, ?_⟩
      trivial
     ·conv => whnf
      refine ⟨OLE.of rfl, ?_⟩
      conv => whnf
      refine ⟨OLE.of (congrArg _ (strL_take hlt)), ?_⟩
      trivial
    ·have hge : t.kids.take i = t.kids := List.take_of_length_le (by have := of_decide_eq_false h4; rw [tmvs_length] at this; have h5 : ¬ ((i : Int) < t.kids.length) := this; omega)
     have hj := join_ok' true (t.kids.map Tm.text) [44] (by rw [List.length_map]; omega) (by rw [texts_join]; omega)
     rw [texts_join] at hj
     rw [← hge] at hj
     refine goS ?_
     refine ⟨by show (Tm.letter t.kind :: Tm.nameText t.name).length + 1 ≤ _; rw [List.length_cons]; omega, ?_⟩
     refine goS ?_
     refine ⟨_, CallVC.pr hj rfl rfl, ?_⟩
     rw [hge]
     refine goS ?_
     refine ⟨by show (Tm.letter t.kind :: Tm.nameText t.name ++ [40]).length + _ ≤ _; rw [List.length_append, List.length_cons]; show _ + 1 + 1 + _ ≤ _; omega, ?_⟩
     refine goS ?_
     refine ⟨by show (Tm.letter t.kind :: Tm.nameText t.name ++ [40] ++ Tm.texts t.kids).length + 1 ≤ _; rw [List.length_append, List.length_append, List.length_cons]; show _ + 1 + 1 + _ + 1 ≤ _; omega, ?_⟩
     refine goS ?_
     exact LEP.of (congrArg PV.str (hgo hno).symm)
  ·have h2 : ¬ t.kids = [] := fun e => of_decide_eq_false h2 (hz.2 e)
   have hno : ¬ (t.kids = [] ∧ t.kind ≠ 3) := fun h => h2 h.1
   have hb2 := htx hno
   obtain ⟨hkl, hkt⟩ := texts_len t.kids
   refine goS ?_
   refine ⟨Rd t.kids.length, fun i => S.of [(1, .ptr 1 0), (3, sv (Tm.letter t.kind :: Tm.nameText t.name)), (4, .slc 4), (36, lv t.kids), (37, iv ((tmvs t.kids).length : Int)), (38, iv (i.1 : Int))] [(1, .var true 26 (tv t)), (4, .row 9 1 (strL ((t.kids.take i.1).map Tm.text)))], fun i => t.kids.length - i.1, Rd.zero _, ?_, ?_⟩
   ·refine Ge.of rfl ?_ ?_
    ·repeat (conv => whnf); first | refine ⟨LE.of hP, ?_⟩ | refine ⟨LE.of rfl, ?_⟩
     trivial
    ·repeat (conv => whnf); refine ⟨OLE.of rfl, ?_⟩
     trivial
   rintro ⟨i, hi⟩
   refine goS ?_
   refine @bool_rec _ _ _ ?_ ?_ <;> intro h4
   ·have hlt : i < t.kids.length := by have := of_decide_eq_true h4; rw [tmvs_length] at this; exact Int.ofNat_lt.1 this
    have hm := List.getElem_mem hlt
    refine goS ?_
    refine ⟨Int.natCast_nonneg _, TV t.kids[i], tmvs_getN hlt, rfl, rfl, ?_⟩
    refine goS ?_
    refine ⟨_, CallVC.pr (ih t.kids[i] hm (hf.kid hm) (hks _ hm) (by have := hkt _ hm; omega)) rfl rfl, ?_⟩
    refine goS ?_
    refine ⟨hbd16 (by simp only [strL_length, List.length_map, List.length_take, List.length_cons, List.length_nil]; omega), ?_⟩
    refine goS ?_
    refine ⟨_, wrapN (n := i + 1) rfl (by omega), ?_⟩
    refine goS ?_
    refine ⟨⟨i + 1, hlt⟩, ?_, by show t.kids.length - (i + 1) < t.kids.length - i; omega⟩
    refine Ge.of rfl ?_ ?_
    ·repeat (conv => whnf); refine ⟨LE.of rfl, ?_⟩
     trivial
    ·conv => whnf
     refine ⟨OLE.of rfl, ?_⟩
     conv => whnf
     refine ⟨OLE.of (congrArg _ (strL_take hlt)), ?_⟩
     trivial
   ·have hge : t.kids.take i = t.kids := List.take_of_length_le (by have := of_decide_eq_false h4; rw [tmvs_length] at this; have h5 : ¬ ((i : Int) < t.kids.length) := this; omega)
    have hj := join_ok' true (t.kids.map Tm.text) [44] (by rw [List.length_map]; omega) (by rw [texts_join]; omega)
    rw [texts_join] at hj
    rw [← hge] at hj
    refine goS ?_
    refine ⟨by show (Tm.letter t.kind :: Tm.nameText t.name).length + 1 ≤ _; rw [List.length_cons]; omega, ?_⟩
    refine goS ?_
    refine ⟨_, CallVC.pr hj rfl rfl, ?_⟩
    rw [hge]
    refine goS ?_
    refine ⟨by show (Tm.letter t.kind :: Tm.nameText t.name ++ [40]).length + _ ≤ _; rw [List.length_append, List.length_cons]; show _ + 1 + 1 + _ ≤ _; omega, ?_⟩
    refine goS ?_
    refine ⟨by show (Tm.letter t.kind :: Tm.nameText t.name ++ [40] ++ Tm.texts t.kids).length + 1 ≤ _; rw [List.length_append, List.length_append, List.length_cons]; show _ + 1 + 1 + _ + 1 ≤ _; omega, ?_⟩
    refine goS ?_
    exact LEP.of (congrArg PV.str (hgo hno).symm)
 ·have h1 : t.name = [] := by simpa using h1
  have hP2 : [Tm.letter t.kind] = Tm.letter t.kind :: Tm.nameText t.name := by simp [Tm.nameText, h1]
  have hP : (SV.p (.str [Tm.letter t.kind])) = sv (Tm.letter t.kind :: Tm.nameText t.name) := by rw [hP2]
  refine goS ?_
  refine @bool_rec _ _ _ ?_ ?_ <;> intro h2
  ·have h2 : t.kids = [] := hz.1 (of_decide_eq_true h2)
   refine goS ?_
   refine @bool_rec _ _ _ ?_ ?_ <;> intro h3
   ·have h3 : t.kind ≠ 3 := of_decide_eq_true h3
    refine goS ?_
    exact LEP.of (congrArg PV.str (hP2.trans (hdone ⟨h2, h3⟩).symm))
   ·have h3 : t.kind = 3 := by simpa using h3
    have hno : ¬ (t.kids = [] ∧ t.kind ≠ 3) := fun h => h.2 h3
    have hb2 := htx hno
    obtain ⟨hkl, hkt⟩ := texts_len t.kids
    refine goS ?_
    refine ⟨Rd t.kids.length, fun i => S.of [(1, .ptr 1 0), (3, sv (Tm.letter t.kind :: Tm.nameText t.name)), (4, .slc 4), (36, lv t.kids), (37, iv ((tmvs t.kids).length : Int)), (38, iv (i.1 : Int))] [(1, .var true 26 (tv t)), (4, .row 9 1 (strL ((t.kids.take i.1).map Tm.text)))], fun i => t.kids.length - i.1, Rd.zero _, ?_, ?_⟩
    ·refine Ge.of rfl ?_ ?_
     ·repeat (conv => whnf); first | refine ⟨LE.of hP, ?_⟩ | refine ⟨LE.of rfl, ?_⟩
      trivial
     ·repeat (conv => whnf); refine ⟨OLE.of rfl, ?_⟩
      trivial
    rintro ⟨i, hi⟩
    refine goS ?_
    refine @bool_rec _ _ _ ?_ ?_ <;> intro h4
    ·have hlt : i < t.kids.length := by have := of_decide_eq_true h4; rw [tmvs_length] at this; exact Int.ofNat_lt.1 this
     have hm := List.getElem_mem hlt
     refine goS ?_
     refine ⟨Int.natCast_nonneg _, TV t.kids[i], tmvs_getN hlt, rfl, rfl, ?_⟩
     refine goS ?_
     refine ⟨_, CallVC.pr (ih t.kids[i] hm (hf.kid hm) (hks _ hm) (by have := hkt _ hm; omega)) rfl rfl, ?_⟩
     refine goS ?_
     refine ⟨hbd16 (by simp only [strL_length, List.length_map, List.length_take, List.length_cons, List.length_nil]; omega), ?_⟩
     refine goS ?_
     refine ⟨_, wrapN (n := i + 1) rfl (by omega), ?_⟩
     refine goS ?_
     refine ⟨⟨i + 1, hlt⟩, ?_, by show t.kids.length - (i + 1) < t.kids.length - i; omega⟩
     refine Ge.of rfl ?_ ?_
     ·repeat (conv => whnf); refine ⟨LE.of rfl, ?_⟩
      trivial
     ·conv => whnf
      refine ⟨OLE.of rfl, ?_⟩
      conv => whnf
      refine ⟨OLE.of (congrArg _ (strL_take hlt)), ?_⟩
      trivial
    ·have hge : t.kids.take i = t.kids := List.take_of_length_le (by have := of_decide_eq_false h4; rw [tmvs_length] at this; have h5 : ¬ ((i : Int) < t.kids.length) := this; omega)
     have hj := join_ok' true (t.kids.map Tm.text) [44] (by rw [List.length_map]; omega) (by rw [texts_join]; omega)
     rw [texts_join] at hj
     rw [← hge] at hj
     refine goS ?_
     refine ⟨by show (Tm.letter t.kind :: Tm.nameText t.name).length + 1 ≤ _; rw [List.length_cons]; omega, ?_⟩
     refine goS ?_
     refine ⟨_, CallVC.pr hj rfl rfl, ?_⟩
     rw [hge]
     refine goS ?_
     refine ⟨by show (Tm.letter t.kind :: Tm.nameText t.name ++ [40]).length + _ ≤ _; rw [List.length_append, List.length_cons]; show _ + 1 + 1 + _ ≤ _; omega, ?_⟩
     refine goS ?_
     refine ⟨by show (Tm.letter t.kind :: Tm.nameText t.name ++ [40] ++ Tm.texts t.kids).length + 1 ≤ _; rw [List.length_append, List.length_append, List.length_cons]; show _ + 1 + 1 + _ + 1 ≤ _; omega, ?_⟩
     refine goS ?_
     exact LEP.of (congrArg PV.str (hgo hno).symm)
  ·have h2 : ¬ t.kids = [] := fun e => of_decide_eq_false h2 (hz.2 e)
   have hno : ¬ (t.kids = [] ∧ t.kind ≠ 3) := fun h => h2 h.1
   have hb2 := htx hno
   obtain ⟨hkl, hkt⟩ := texts_len t.kids
   refine goS ?_
   refine ⟨Rd t.kids.length, fun i => S.of [(1, .ptr 1 0), (3, sv (Tm.letter t.kind :: Tm.nameText t.name)), (4, .slc 4), (36, lv t.kids), (37, iv ((tmvs t.kids).length : Int)), (38, iv (i.1 : Int))] [(1, .var true 26 (tv t)), (4, .row 9 1 (strL ((t.kids.take i.1).map Tm.text)))], fun i => t.kids.length - i.1, Rd.zero _, ?_, ?_⟩
   ·refine Ge.of rfl ?_ ?_
    ·repeat (conv => whnf); first | refine ⟨LE.of hP, ?_⟩ | refine ⟨LE.of rfl, ?_⟩
     trivial
    ·repeat (conv => whnf); refine ⟨OLE.of rfl, ?_⟩
     trivial
   rintro ⟨i, hi⟩
   refine goS ?_
   refine @bool_rec _ _ _ ?_ ?_ <;> intro h4
   ·have hlt : i < t.kids.length := by have := of_decide_eq_true h4; rw [tmvs_length] at this; exact Int.ofNat_lt.1 this
    have hm := List.getElem_mem hlt
    refine goS ?_
    refine ⟨Int.natCast_nonneg _, TV t.kids[i], tmvs_getN hlt, rfl, rfl, ?_⟩
    refine goS ?_
    refine ⟨_, CallVC.pr (ih t.kids[i] hm (hf.kid hm) (hks _ hm) (by have := hkt _ hm; omega)) rfl rfl, ?_⟩
    refine goS ?_
    refine ⟨hbd16 (by simp only [strL_length, List.length_map, List.length_take, List.length_cons, List.length_nil]; omega), ?_⟩
    refine goS ?_
    refine ⟨_, wrapN (n := i + 1) rfl (by omega), ?_⟩
    refine goS ?_
    refine ⟨⟨i + 1, hlt⟩, ?_, by show t.kids.length - (i + 1) < t.kids.length - i; omega⟩
    refine Ge.of rfl ?_ ?_
    ·repeat (conv => whnf); refine ⟨LE.of rfl, ?_⟩
     trivial
    ·conv => whnf
     refine ⟨OLE.of rfl, ?_⟩
     conv => whnf
     refine ⟨OLE.of (congrArg _ (strL_take hlt)), ?_⟩
     trivial
   ·have hge : t.kids.take i = t.kids := List.take_of_length_le (by have := of_decide_eq_false h4; rw [tmvs_length] at this; have h5 : ¬ ((i : Int) < t.kids.length) := this; omega)
    have hj := join_ok' true (t.kids.map Tm.text) [44] (by rw [List.length_map]; omega) (by rw [texts_join]; omega)
    rw [texts_join] at hj
    rw [← hge] at hj
    refine goS ?_
    refine ⟨by show (Tm.letter t.kind :: Tm.nameText t.name).length + 1 ≤ _; rw [List.length_cons]; omega, ?_⟩
    refine goS ?_
    refine ⟨_, CallVC.pr hj rfl rfl, ?_⟩
    rw [hge]
    refine goS ?_
    refine ⟨by show (Tm.letter t.kind :: Tm.nameText t.name ++ [40]).length + _ ≤ _; rw [List.length_append, List.length_cons]; show _ + 1 + 1 + _ ≤ _; omega, ?_⟩
    refine goS ?_
    refine ⟨by show (Tm.letter t.kind :: Tm.nameText t.name ++ [40] ++ Tm.texts t.kids).length + 1 ≤ _; rw [List.length_append, List.length_append, List.length_cons]; show _ + 1 + 1 + _ + 1 ≤ _; omega, ?_⟩
    refine goS ?_
    exact LEP.of (congrArg PV.str (hgo hno).symm)
end Go.Sl
namespace Go.Sl
open Go Go.Vc Go.Proofs Go.RowKit
theorem index0_ok (b : Bool) (f : Nat) (p : Tm → Bool) (l : List Tm) (hl : l.length ≤ 9223372036854775807)
  (hp : ∀ t ∈ l, K b f [tv t] (.pv (.bool (p t)))) :
  K b 218 [lv l, .fn f []] (.pv (.int .i64 (idxT p l))) := by
 refine PC_of_vc (cx_ok b) (mixed b) {} Tryz.func218 (by kernel_rfl) rfl rfl (by kernel_rfl) ?_
 refine goS ?_
 refine ⟨{ i : Rd l.length // ∀ t ∈ l.take i.1, p t = false }, fun i => S.of [(0, lv l), (1, .fn f []), (7, iv ((tmvs l).length : Int)), (8, iv (i.1.1 : Int))] [], fun i => l.length - i.1.1, ⟨Rd.zero _, by simp [Rd.zero]⟩, ?_, ?_⟩
 ·exact Ge.go
 rintro ⟨⟨i, hi⟩, hno⟩
 refine goS ?_
 refine @bool_rec _ _ _ ?_ ?_ <;> intro h1
 ·have hlt : i < l.length := by have := of_decide_eq_true h1; rw [tmvs_length] at this; exact Int.ofNat_lt.1 this
  refine goS ?_
  refine ⟨Int.natCast_nonneg _, TV l[i], tmvs_getN hlt, rfl, rfl, ?_⟩
  refine goS ?_
  refine ⟨_, CallVC.pr (hp l[i] (List.getElem_mem hlt)) rfl rfl, ?_⟩
  refine goS ?_
  refine @bool_rec _ _ _ ?_ ?_ <;> intro h2
  ·refine goS ?_
   exact LEP.of (congrArg (PV.int .i64) (idxT_some p l i hlt hno h2).symm)
  ·refine goS ?_
   refine ⟨_, wrapN (n := i + 1) rfl (by omega), ?_⟩
   refine goS ?_
   refine ⟨⟨⟨i + 1, hlt⟩, ?_⟩, ?_, by show l.length - (i + 1) < l.length - i; omega⟩
   ·intro t ht
    rw [List.take_succ_eq_append_getElem hlt, List.mem_append, List.mem_singleton] at ht
    rcases ht with ht | rfl
    ·exact hno t ht
    ·exact h2
   ·exact Ge.go
 ·have hge : i = l.length := by have := of_decide_eq_false h1; rw [tmvs_length] at this; have h2 : ¬ ((i : Int) < l.length) := this; omega
  refine goS ?_
  exact LEP.of (congrArg (PV.int .i64) (idxT_none p l fun t ht => hno t (by rw [show l.take i = l from List.take_of_length_le (by omega)]; exact ht)).symm)
theorem contains0_ok (b : Bool) (f : Nat) (p : Tm → Bool) (l : List Tm) (hl : l.length ≤ 9223372036854775807)
  (hp : ∀ t ∈ l, K b f [tv t] (.pv (.bool (p t)))) :
  K b 192 [lv l, .fn f []] (.pv (.bool (l.any p))) := by
 refine PC_of_vc (cx_ok b) (mixed b) {} Tryz.func192 (by kernel_rfl) rfl rfl (by kernel_rfl) ?_
 refine goS ?_
 refine ⟨_, CallVC.pr (index0_ok b f p l hl hp) rfl rfl, ?_⟩
 refine goS ?_
 refine LEP.of (congrArg PV.bool ?_)
 rw [Bool.eq_iff_iff, decide_eq_true_eq]
 exact idxT_spec p l
mutual
def ordT : Tm → Bool
 | .mk k n l => !(decide (k = 9) && Op.bytesLess (l.getD 1 (.mk 0 [] [])).text (l.getD 0 (.mk 0 [] [])).text) && ordTs l
def ordTs : List Tm → Bool
 | [] => true
 | t :: ts => ordT t && ordTs ts
end
theorem ordTs_any (l : List Tm) : ordTs l = !(l.any fun t => !ordT t) := by
 induction l with
 | nil => rfl
 | cons t ts ih => rw [ordTs, ih, List.any_cons]; cases ordT t <;> simp
theorem ordT_eq (t : Tm) : ordT t = (!(decide (t.kind = 9) && Op.bytesLess (t.kids.getD 1 (.mk 0 [] [])).text (t.kids.getD 0 (.mk 0 [] [])).text) && !(t.kids.any fun u => !ordT u)) := by
 cases t; rw [ordT, ordTs_any]; rfl
theorem share_len {t : Tm} (h : t.shp = true) (hk : t.kind = 9) : t.kids.length = 2 := by
 obtain ⟨k, n, l⟩ := t
 have hk : k = 9 := hk
 subst hk
 simp only [Tm.shp, Bool.and_eq_true, Bool.or_eq_true, decide_eq_true_eq] at h
 have := h.1.2
 simp [Tm.arity] at this
 show l.length = 2
 omega
theorem kid_len {t : Tm} (hn : ¬ (t.kids = [] ∧ t.kind ≠ 3)) : ∀ u ∈ t.kids, u.text.length ≤ t.text.length := by
 intro u hu
 have := (texts_len t.kids).2 u hu
 rw [text_mk t, if_neg hn]
 simp
 omega
theorem kid_len' {t u : Tm} (hu : u ∈ t.kids) : u.text.length ≤ t.text.length := kid_len (fun h => by rw [h.1] at hu; cases hu) u hu
theorem ordered_ok : ∀ t, Fit t → t.shp = true → t.text.length ≤ 1099511627776 → K true 161 [tv t] (.pv (.bool (ordT t))) := by
 intro t
 induction t using Tm.indk with
 | h t ih =>
 intro hf hs hb
 obtain ⟨hk, hks⟩ := known_of_shp hs
 have hcl : ∀ u ∈ t.kids, K true 206 [tv u] (.pv (.bool (!ordT u))) := by
  intro u hu
  refine PC_of_vc (cx_ok true) (mixed true) {} Tryz.func206 (by kernel_rfl) rfl rfl (by kernel_rfl) ?_
  refine goS ?_
  refine ⟨_, CallVC.pr (ih u hu (hf.kid hu) (hks u hu) (Nat.le_trans (kid_len' hu) hb)) rfl rfl, ?_⟩
  refine goS ?_
  exact LEP.refl _
 rw [ordT_eq]
 refine PC_of_vc (cx_ok true) (mixed true) {} Tryz.func161 (by kernel_rfl) rfl rfl (by kernel_rfl) ?_
 refine goS ?_
 refine @bool_rec _ _ _ ?_ ?_ <;> intro h1
 ·have h1 : t.kind = 9 := of_decide_eq_true h1
  have h2 := share_len hs h1
  have m0 := List.getElem_mem (show 0 < t.kids.length by omega)
  have m1 := List.getElem_mem (show 1 < t.kids.length by omega)
  have g0 : t.kids.getD 0 (.mk 0 [] []) = t.kids[0] := by simp [h2]
  have g1 : t.kids.getD 1 (.mk 0 [] []) = t.kids[1] := by simp [h2]
  rw [g0, g1]
  refine goS ?_
  refine ⟨_, tmvs_get (i := 1) (by omega), rfl, rfl, ?_⟩
  refine goS ?_
  refine ⟨_, CallVC.pr (text_ok t.kids[1] (hf.kid m1) (hks _ m1) (Nat.le_trans (kid_len' m1) hb)) rfl rfl, ?_⟩
  refine goS ?_
  refine ⟨_, tmvs_get (i := 0) (by omega), rfl, rfl, ?_⟩
  refine goS ?_
  refine ⟨_, CallVC.pr (text_ok t.kids[0] (hf.kid m0) (hks _ m0) (Nat.le_trans (kid_len' m0) hb)) rfl rfl, ?_⟩
  refine goS ?_
  refine @bool_rec _ _ _ ?_ ?_ <;> intro h3
  ·refine goS ?_
   exact LEP.of (congrArg PV.bool (by rw [h3]; simp [h1]))
  ·refine goS ?_
   refine ⟨_, CallVC.pr (contains0_ok true _ (fun u => !ordT u) t.kids hf.len hcl) rfl rfl, ?_⟩
   refine goS ?_
   exact LEP.of (congrArg PV.bool (by rw [h3]; simp))
 ·have h1 : ¬ t.kind = 9 := of_decide_eq_false h1
  refine goS ?_
  refine ⟨_, CallVC.pr (contains0_ok true _ (fun u => !ordT u) t.kids hf.len hcl) rfl rfl, ?_⟩
  refine goS ?_
  exact LEP.of (congrArg PV.bool (by simp [h1]))
theorem shp_of_shpD : ∀ (t : Tm) (d : Nat), shpD t d = true → t.shp = true := by
 intro t
 induction t using Tm.indk with
 | h t ih =>
 intro d h
 cases d with
 | zero => rw [shpD_zero] at h; cases h
 | succ d =>
  rw [shpD_eq, Bool.and_eq_true, shpDs_any] at h
  have hk : ∀ u ∈ t.kids, u.shp = true := fun u hu => ih u hu d (by
   have := h.2
   simp only [Bool.not_eq_true', List.any_eq_false] at this
   have := this u hu
   simpa using this)
  obtain ⟨k, n, l⟩ := t
  rw [Tm.shp, Bool.and_eq_true]
  exact ⟨h.1, (Tm.shps_iff l).2 hk⟩
def rightT (t : Tm) : Bool := shpD t 60 && ordT t
theorem right_ok (t : Tm) (hf : Fit t) (hb : shpD t 60 = true → t.text.length ≤ 1099511627776) : K true 114 [tv t] (.pv (.bool (rightT t))) := by
 refine PC_of_vc (cx_ok true) (mixed true) {} Tryz.func114 (by kernel_rfl) rfl rfl (by kernel_rfl) ?_
 refine goS ?_
 refine ⟨_, CallVC.pr (shape_ok t hf 60 (by decide)) rfl rfl, ?_⟩
 refine goS ?_
 refine @bool_rec _ _ _ ?_ ?_ <;> intro h1
 ·refine goS ?_
  refine ⟨_, CallVC.pr (ordered_ok t hf (shp_of_shpD t 60 h1) (hb h1)) rfl rfl, ?_⟩
  refine goS ?_
  exact LEP.of (congrArg PV.bool (by rw [rightT, h1]; rfl))
 ·refine goS ?_
  exact LEP.of (congrArg PV.bool (by rw [rightT, h1]; rfl))
def txtT (t : Tm) : Bs := if shpD t 60 then t.text else []
theorem Text_ok (t : Tm) (hf : Fit t) (hb : shpD t 60 = true → t.text.length ≤ 1099511627776) : K true 97 [tv t] (.pv (.str (txtT t))) := by
 refine PC_of_vc (cx_ok true) (mixed true) {} Tryz.func97 (by kernel_rfl) rfl rfl (by kernel_rfl) ?_
 refine goS ?_
 refine ⟨_, CallVC.pr (shape_ok t hf 60 (by decide)) rfl rfl, ?_⟩
 refine goS ?_
 refine @bool_rec _ _ _ ?_ ?_ <;> intro h1
 ·have h1 : shpD t 60 = false := by simpa using h1
  refine goS ?_
  exact LEP.of (congrArg PV.str (by rw [txtT, if_neg (by rw [h1]; decide)]))
 ·have h1 : shpD t 60 = true := by simpa using h1
  refine goS ?_
  refine ⟨_, CallVC.pr (text_ok t hf (shp_of_shpD t 60 h1) (hb h1)) rfl rfl, ?_⟩
  refine goS ?_
  exact LEP.of (congrArg PV.str (by rw [txtT, if_pos h1]))
def lessT (t u : Tm) : Bool := Op.bytesLess (txtT t) (txtT u)
theorem less_ok (t u : Tm) (hf : Fit t) (hg : Fit u) (hb : shpD t 60 = true → t.text.length ≤ 1099511627776) (hc : shpD u 60 = true → u.text.length ≤ 1099511627776) : K true 159 [tv t, tv u] (.pv (.bool (lessT t u))) := by
 refine PC_of_vc (cx_ok true) (mixed true) {} Tryz.func159 (by kernel_rfl) rfl rfl (by kernel_rfl) ?_
 refine goS ?_
 refine ⟨_, CallVC.pr (Text_ok t hf hb) rfl rfl, ?_⟩
 refine goS ?_
 refine ⟨_, CallVC.pr (Text_ok u hg hc) rfl rfl, ?_⟩
 refine goS ?_
 exact LEP.refl _
def shareT (x y : Tm) : Tm := if lessT y x then .mk 9 [] [y, x] else .mk 9 [] [x, y]
theorem share_ok (x y : Tm) (hf : Fit x) (hg : Fit y) (hb : shpD x 60 = true → x.text.length ≤ 1099511627776) (hc : shpD y 60 = true → y.text.length ≤ 1099511627776) : K true 217 [tv x, tv y] (.pv (TV (shareT x y))) := by
 refine PC_of_vc (cx_ok true) (mixed true) {} Tryz.func217 (by kernel_rfl) rfl rfl (by kernel_rfl) ?_
 refine goS ?_
 refine ⟨_, CallVC.pr (less_ok y x hg hf hc hb) rfl rfl, ?_⟩
 refine goS ?_
 refine @bool_rec _ _ _ ?_ ?_ <;> intro h1
 ·refine goS ?_
  refine ⟨_, CallVC.pr (made_ok true 9 [] _ [y, x] (tmvs2 y x) (by simp)) rfl rfl, ?_⟩
  refine goS ?_
  exact LEP.of (by rw [shareT, if_pos h1]; rfl)
 ·refine goS ?_
  refine ⟨_, CallVC.pr (made_ok true 9 [] _ [x, y] (tmvs2 x y) (by simp)) rfl rfl, ?_⟩
  refine goS ?_
  exact LEP.of (by rw [shareT, if_neg (by rw [h1]; decide)]; rfl)
end Go.Sl
