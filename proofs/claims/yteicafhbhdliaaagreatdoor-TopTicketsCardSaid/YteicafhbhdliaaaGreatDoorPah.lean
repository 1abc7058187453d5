/- The statement TopTickets, without a condition: a ticket of one KDC is none of another one's. Part 8: Gd Ge Gg Gh Gj Ib Ic Id Ie If. -/
import Derived.Test.YteicafhbhdliaaaGreatDoorPag
set_option linter.unusedSimpArgs false
set_option linter.unusedVariables false
set_option maxHeartbeats 4000000
namespace Go.Sl
open Go Go.Vc Go.Proofs Go.RowKit
def depT (t : Tm) (d : Nat) : Nat := min t.depth d
theorem depths_take {l : List Tm} {i : Nat} (h : i < l.length) : Tm.depths (l.take (i + 1)) = max (Tm.depths (l.take i)) l[i].depth := by
 induction l generalizing i with
 | nil => simp at h
 | cons t ts ih =>
  cases i with
  | zero => simp [Tm.depths]
  | succ i =>
   simp only [List.take_succ_cons, Tm.depths, List.getElem_cons_succ]
   rw [ih (by simpa using h)]
   omega
theorem depth_mk (t : Tm) : t.depth = Tm.depths t.kids + 1 := by cases t; rfl
theorem depth_ok (b : Bool) : ∀ t, Fit t → ∀ d : Nat, 1 ≤ d → d ≤ 1000 → K b 212 [tv t, iv d] (.pv (.int .i64 (depT t d : Nat))) := by
 intro t
 induction t using Tm.indk with
 | h t ih =>
 intro hf d h1 hd
 have hlen := hf.len
 refine PC_of_vc (cx_ok b) (mixed b) {} Tryz.func212 (by kernel_rfl) rfl rfl (by kernel_rfl) ?_
 refine goL ?_
 refine @bool_rec _ _ _ ?_ ?_ <;> intro h2
 ·have h2 : d = 1 := by have : (d : Int) ≤ 1 := of_decide_eq_true h2; omega
  refine goL ?_
  refine LEP.of (congrArg (PV.int .i64) ?_)
  rw [depT, depth_mk]
  omega
 ·have h2 : 1 < d := by have : ¬ (d : Int) ≤ 1 := of_decide_eq_false h2; omega
  refine goL ?_
  refine ⟨Rd t.kids.length, fun i => S.of [(1, iv d), (5, iv ((min (Tm.depths (t.kids.take i.1)) (d - 1) : Nat) : Int)), (12, lv t.kids), (13, iv ((tmvs t.kids).length : Int)), (14, iv (i.1 : Int))] [], fun i => t.kids.length - i.1, Rd.zero _, ?_, ?_⟩
  ·refine Ge.of rfl ?_ ?_
   ·repeat (conv => whnf); first | refine ⟨LE.of (show _ = iv ((min (Tm.depths (t.kids.take 0)) (d - 1) : Nat) : Int) by simp [Tm.depths]; rfl), ?_⟩ | refine ⟨LE.of rfl, ?_⟩
    trivial
   ·repeat (conv => whnf); refine ⟨OLE.of rfl, ?_⟩
    trivial
  rintro ⟨i, hi⟩
  refine goL ?_
  refine @bool_rec _ _ _ ?_ ?_ <;> intro h4
  ·have hlt : i < t.kids.length := by have := of_decide_eq_true h4; rw [tmvs_length] at this; exact Int.ofNat_lt.1 this
   have hm := List.getElem_mem hlt
   refine goL ?_
   refine ⟨Int.natCast_nonneg _, TV t.kids[i], tmvs_getN hlt, rfl, rfl, ?_⟩
   refine goL ?_
   refine ⟨_, wrapN (n := d - 1) (by omega) (by omega), ?_⟩
   refine goL ?_
   refine ⟨_, CallVC.pr (ih t.kids[i] hm (hf.kid hm) (d - 1) (by omega) (by omega)) rfl rfl, ?_⟩
   refine goL ?_
   refine ⟨_, wrapN (n := i + 1) rfl (by omega), ?_⟩
   refine goL ?_
   refine ⟨⟨i + 1, hlt⟩, ?_, by show t.kids.length - (i + 1) < t.kids.length - i; omega⟩
   have hmx : (SV.p (.int .i64 (max ((min (Tm.depths (t.kids.take i)) (d - 1) : Nat) : Int) ((depT t.kids[i] (d - 1) : Nat) : Int)))) = iv ((min (Tm.depths (t.kids.take (i + 1))) (d - 1) : Nat) : Int) := by
    rw [depths_take hlt, depT]
    congr 2
    omega
   refine Ge.of rfl ?_ ?_
   ·repeat (conv => whnf); first | refine ⟨LE.of hmx, ?_⟩ | refine ⟨LE.of rfl, ?_⟩
    trivial
   ·repeat (conv => whnf); refine ⟨OLE.of rfl, ?_⟩
    trivial
  ·have hge : t.kids.take i = t.kids := List.take_of_length_le (by have := of_decide_eq_false h4; rw [tmvs_length] at this; have h5 : ¬ ((i : Int) < t.kids.length) := this; omega)
   refine goL ?_
   refine ⟨_, wrapN (n := min (Tm.depths (t.kids.take i)) (d - 1) + 1) rfl (by omega), ?_⟩
   refine goL ?_
   refine LEP.of (congrArg (PV.int .i64) ?_)
   rw [hge, depT, depth_mk]
   omega
theorem Depth_ok (b : Bool) (t : Tm) (hf : Fit t) : K b 180 [tv t] (.pv (.int .i64 (depT t 61 : Nat))) := by
 refine PC_of_vc (cx_ok b) (mixed b) {} Tryz.func180 (by kernel_rfl) rfl rfl (by kernel_rfl) ?_
 refine goL ?_
 refine ⟨_, CallVC.pr (depth_ok b t hf 61 (by decide) (by decide)) rfl rfl, ?_⟩
 refine goL ?_
 exact LEP.refl _
end Go.Sl
namespace Go.Sl
open Go Go.Vc Go.Proofs Go.RowKit
theorem hbd48' {a b : Nat} (h : a + b ≤ 2932031007402) : (a + b) * tiTerm.bytes ≤ 140737488355328 := by
 show (a + b) * 48 ≤ 140737488355328
 omega
end Go.Sl
namespace Go.Sl
open Go Go.Vc Go.Proofs Go.RowKit
mutual
def wt : Tm → Nat
 | .mk k n l => n.length + wts l + 1
def wts : List Tm → Nat
 | [] => 0
 | t :: ts => wt t + wts ts
end
theorem wt_eq (t : Tm) : wt t = t.name.length + wts t.kids + 1 := by cases t; rfl
theorem wts_mem {l : List Tm} {u : Tm} (h : u ∈ l) : wt u ≤ wts l := by
 induction l with
 | nil => cases h
 | cons t ts ih =>
  rw [wts]
  rcases List.mem_cons.1 h with rfl | h
  ·omega
  ·have := ih h; omega
theorem nameText_wt {n : Bs} (h : n.length ≤ 9223372036854775808) : (Tm.nameText n).length ≤ n.length + 20 := by
 unfold Tm.nameText
 split
 ·simp
 ·have := decDigits_len n.length h
  simp
  omega
theorem text_wt : ∀ t : Tm, Fit t → t.text.length + 1 ≤ 26 * wt t := by
 intro t
 induction t using Tm.indk with
 | h t ih =>
 intro hf
 have key' : ∀ l : List Tm, (∀ u ∈ l, u.text.length + 1 ≤ 26 * wt u) → (Tm.texts' l).length ≤ 26 * wts l := by
  intro l
  induction l with
  | nil => intro _; simp [Tm.texts']
  | cons u l ihl =>
   intro h
   have h1 := h u (List.mem_cons_self ..)
   have h2 := ihl fun v hv => h v (List.mem_cons_of_mem _ hv)
   rw [Tm.texts', wts]
   simp only [List.length_cons, List.length_append]
   omega
 have key : (Tm.texts t.kids).length ≤ 26 * wts t.kids := by
  have hk : ∀ u ∈ t.kids, u.text.length + 1 ≤ 26 * wt u := fun u hu => ih u hu (hf.kid hu)
  revert hk
  generalize t.kids = l
  intro hk
  cases l with
  | nil => simp [Tm.texts]
  | cons u l =>
   have h1 := hk u (List.mem_cons_self ..)
   have h2 := key' l fun v hv => hk v (List.mem_cons_of_mem _ hv)
   rw [Tm.texts, wts]
   simp only [List.length_append]
   omega
 have hn := nameText_wt (n := t.name) (by have := hf.nlen; omega)
 rw [text_mk, wt_eq]
 simp only [List.length_cons, List.length_append]
 split
 ·simp
  omega
 ·simp
  omega
end Go.Sl
namespace Go.Sl
open Go Go.Vc Go.Proofs Go.RowKit
theorem depths_le (l : List Tm) (d : Nat) : Tm.depths l ≤ d ↔ ∀ u ∈ l, u.depth ≤ d := by
 induction l with
 | nil => simp [Tm.depths]
 | cons t ts ih =>
  simp only [Tm.depths, List.mem_cons, forall_eq_or_imp, ← ih]
  omega
theorem shpDs_all (l : List Tm) (d : Nat) : shpDs l d = true ↔ ∀ u ∈ l, shpD u d = true := by
 induction l with
 | nil => simp [shpDs]
 | cons t ts ih => simp [shpDs, ih]
theorem shpD_iff : ∀ (t : Tm) (d : Nat), shpD t d = true ↔ t.shp = true ∧ t.depth ≤ d := by
 intro t
 induction t using Tm.indk with
 | h t ih =>
 intro d
 cases d with
 | zero =>
  rw [shpD_zero, depth_mk]
  simp
 | succ d =>
  rw [shpD_eq, Bool.and_eq_true, shpDs_all, depth_mk]
  have hs : t.shp = true ↔ (Tm.known t.kind && (Tm.named t.kind == !t.name.isEmpty) && (decide (Tm.arity t.kind < 0) || decide ((t.kids.length : Int) = Tm.arity t.kind))) = true ∧ ∀ u ∈ t.kids, u.shp = true := by
   obtain ⟨k, n, l⟩ := t
   rw [Tm.shp, Bool.and_eq_true, Tm.shps_iff]
   rfl
  rw [hs]
  have hd : Tm.depths t.kids + 1 ≤ d + 1 ↔ ∀ u ∈ t.kids, u.depth ≤ d := by rw [← depths_le]; omega
  rw [hd]
  constructor
  ·rintro ⟨h1, h2⟩
   exact ⟨⟨h1, fun u hu => ((ih u hu d).1 (h2 u hu)).1⟩, fun u hu => ((ih u hu d).1 (h2 u hu)).2⟩
  ·rintro ⟨⟨h1, h2⟩, h3⟩
   exact ⟨h1, fun u hu => (ih u hu d).2 ⟨h2 u hu, h3 u hu⟩⟩
end Go.Sl
namespace Go.Sl
open Go Go.Vc Go.Proofs Go.RowKit
def swapT (k : Int) (n : Bs) : List Tm → Tm
 | [x, y] => if k = 9 ∧ lessT y x = true then .mk k n [y, x] else .mk k n [x, y]
 | l => .mk k n l
mutual
def canT : Tm → Tm
 | .mk k n l => swapT k n (canTs l)
def canTs : List Tm → List Tm
 | [] => []
 | t :: ts => canT t :: canTs ts
end
theorem Fit.of {t : Tm} (h1 : t.kids.length ≤ 9223372036854775807) (h2 : t.name.length ≤ 9223372036854775807) (h3 : ∀ u ∈ t.kids, Fit u) : Fit t := by cases t; exact Fit.mk h1 h2 h3
theorem text_big {t : Tm} (hf : Fit t) (hw : wt t ≤ 1000000000) : t.text.length ≤ 1099511627776 := by
 have := text_wt t hf
 omega
end Go.Sl
namespace Go.Sl
open Go Go.Vc Go.Proofs Go.RowKit
theorem pubx_ok (b : Bool) (k : Tm) : K b 158 [tv k] (.pv (TV (.mk 8 [] [k]))) := by
 refine PC_of_vc (cx_ok b) (mixed b) {} Tryz.func158 (by kernel_rfl) rfl rfl (by kernel_rfl) ?_
 refine goM ?_
 refine ⟨_, CallVC.pr (made_ok b 8 [] _ [k] (tmvs1 k) (by simp)) rfl rfl, ?_⟩
 refine goM ?_
 exact LEP.refl _
theorem maskx_ok (b : Bool) (k m : Tm) : K b 178 [tv k, tv m] (.pv (TV (.mk 10 [] [k, m]))) := by
 refine PC_of_vc (cx_ok b) (mixed b) {} Tryz.func178 (by kernel_rfl) rfl rfl (by kernel_rfl) ?_
 refine goM ?_
 refine ⟨_, CallVC.pr (made_ok b 10 [] _ [k, m] (tmvs2 k m) (by simp)) rfl rfl, ?_⟩
 refine goM ?_
 exact LEP.refl _
theorem tmvs5' (a b c d e : Tm) : [TV a, TV b, TV c, TV d, TV e] = tmvs [a, b, c, d, e] := (tmvs_eq [a, b, c, d, e]).symm
def secondT (s w o a h : Tm) (n : Int) : Tm := numT (hashT (pairT [s, w, o, a, h])) useW n
theorem ksecond_ok (b : Bool) (s w o a h : Tm) (n : Int) (h0 : -9223372036854775808 ≤ n) (h1 : n ≤ 9223372036854775807) : K b 216 [tv s, tv w, tv o, tv a, tv h, iv n] (.pv (TV (secondT s w o a h n))) := by
 refine PC_of_vc (cx_ok b) (mixed b) {} Tryz.func216 (by kernel_rfl) rfl rfl (by kernel_rfl) ?_
 refine goL ?_
 refine ⟨_, CallVC.pr (pair_ok b _ [s, w, o, a, h] (tmvs5' s w o a h) (by simp)) rfl rfl, ?_⟩
 refine goL ?_
 refine ⟨_, CallVC.pr (hash_ok b _) rfl rfl, ?_⟩
 refine goM ?_
 refine ⟨_, CallVC.pr (use_ok b _ n h0 h1) rfl rfl, ?_⟩
 refine goM ?_
 exact LEP.refl _
def ccaW : Bs := [99, 108, 105, 101, 110, 116, 99, 104, 97, 108, 108, 101, 110, 103, 101, 97, 114, 109, 111, 114]
def cclW : Bs := [99, 104, 97, 108, 108, 101, 110, 103, 101, 108, 111, 110, 103, 116, 101, 114, 109]
abbrev chW : Bs := [99, 104, 97, 108, 108, 101, 110, 103, 101]
abbrev timeW : Bs := [116, 105, 109, 101]
abbrev otpM : Bs := [111, 116, 112]
abbrev codeW : Bs := [99, 111, 100, 101]
abbrev spW : Bs := [115, 112, 97, 107, 101]
abbrev facW : Bs := [102, 97, 99, 116, 111, 114]
def chalT (ak u : Tm) : Tm := joinT ak u ccaW cclW
theorem chal_ok (b : Bool) (ak u : Tm) : K b 189 [tv ak, tv u] (.pv (TV (chalT ak u))) := by
 refine PC_of_vc (cx_ok b) (mixed b) {} Tryz.func189 (by kernel_rfl) rfl rfl (by kernel_rfl) ?_
 refine goM ?_
 refine ⟨_, CallVC.pr (join_ok b ak u ccaW cclW (by decide) (by decide)) rfl rfl, ?_⟩
 refine goM ?_
 exact LEP.refl _
def challengeT (ak u body : Tm) (now : Int) : Tm := packT chW [sealT (chalT ak u) 54 (packT timeW [wordT (Lib.itoa now), hashT body])]
theorem challenge_ok (b : Bool) (ak u body : Tm) (n : Int) (h0 : -9223372036854775808 ≤ n) (h1 : n ≤ 9223372036854775807) : K b 207 [tv ak, tv u, tv body, iv n] (.pv (TV (challengeT ak u body n))) := by
 refine PC_of_vc (cx_ok b) (mixed b) {} Tryz.func207 (by kernel_rfl) rfl rfl (by kernel_rfl) ?_
 refine goM ?_
 refine ⟨_, CallVC.pr (number15m_ok b n h0 h1) rfl rfl, ?_⟩
 refine goM ?_
 refine ⟨_, CallVC.pr (hash_ok b body) rfl rfl, ?_⟩
 refine goM ?_
 refine ⟨_, CallVC.pr (pack_ok b timeW _ [wordT (Lib.itoa n), hashT body] (tmvs2 _ _) (by simp)) rfl rfl, ?_⟩
 refine goM ?_
 refine ⟨_, CallVC.pr (chal_ok b ak u) rfl rfl, ?_⟩
 refine goM ?_
 refine ⟨_, CallVC.pr (seal_ok b _ _ 54 (by decide) (by decide)) rfl rfl, ?_⟩
 refine goM ?_
 refine ⟨_, CallVC.pr (pack_ok b chW _ [sealT (chalT ak u) 54 (packT timeW [wordT (Lib.itoa n), hashT body])] (tmvs1 _) (by simp)) rfl rfl, ?_⟩
 refine goM ?_
 exact LEP.refl _
def apartI (a b : Int) : Int := if max a b - min a b > 5 then 6 else max a b - min a b
theorem wrapI {k : Int} {r : Int} (h0 : -9223372036854775808 ≤ k) (h1 : k ≤ 9223372036854775807) (e : k = r) : IntKind.i64.wrap k = r := by
 subst e
 simp only [IntKind.wrap, IntKind.bits, IntKind.signed]
 simp
 omega
theorem apart_ok (b : Bool) (x y : Int) (hx0 : -9223372036854775808 ≤ x) (hx1 : x ≤ 9223372036854775807) (hy0 : -9223372036854775808 ≤ y) (hy1 : y ≤ 9223372036854775807) : K b 190 [iv x, iv y] (.pv (.int .i64 (apartI x y))) := by
 unfold apartI
 refine PC_of_vc (cx_ok b) (mixed b) {} Tryz.func190 (by kernel_rfl) rfl rfl (by kernel_rfl) ?_
 refine goM ?_
 refine @bool_rec _ _ _ ?_ ?_ <;> intro h1
 ·have h1 : x < y := of_decide_eq_true h1
  rw [show max x y = y by omega, show min x y = x by omega]
  refine goM ?_
  refine @bool_rec _ _ _ ?_ ?_ <;> intro h2
  ·have h2 : x < 0 := of_decide_eq_true h2
   refine goM ?_
   refine ⟨_, wrapI (by omega) (by omega) rfl, ?_⟩
   refine goM ?_
   refine ⟨_, wrapI (by omega) (by omega) rfl, ?_⟩
   refine goM ?_
   refine @bool_rec _ _ _ ?_ ?_ <;> intro h3
   ·have h3 : x + 5 + 1 < y := of_decide_eq_true h3
    rw [if_pos (by omega)]
    refine goM ?_
    exact LEP.refl _
   ·have h3 : ¬ x + 5 + 1 < y := of_decide_eq_false h3
    refine goM ?_
    refine ⟨_, wrapI (by omega) (by omega) rfl, ?_⟩
    refine goM ?_
    refine @bool_rec _ _ _ ?_ ?_ <;> intro h4
    ·have h4 : 5 < y - x := of_decide_eq_true h4
     rw [if_pos h4]
     refine goM ?_
     exact LEP.refl _
    ·have h4 : ¬ 5 < y - x := of_decide_eq_false h4
     rw [if_neg h4]
     refine goM ?_
     refine ⟨_, wrapI (by omega) (by omega) rfl, ?_⟩
     refine goM ?_
     exact LEP.refl _
  ·have h2 : ¬ x < 0 := of_decide_eq_false h2
   refine goM ?_
   refine ⟨_, wrapI (by omega) (by omega) rfl, ?_⟩
   refine goM ?_
   refine @bool_rec _ _ _ ?_ ?_ <;> intro h4
   ·have h4 : 5 < y - x := of_decide_eq_true h4
    rw [if_pos h4]
    refine goM ?_
    exact LEP.refl _
   ·have h4 : ¬ 5 < y - x := of_decide_eq_false h4
    rw [if_neg h4]
    refine goM ?_
    refine ⟨_, wrapI (by omega) (by omega) rfl, ?_⟩
    refine goM ?_
    exact LEP.refl _
 ·have h1 : ¬ x < y := of_decide_eq_false h1
  rw [show max x y = x by omega, show min x y = y by omega]
  refine goM ?_
  refine @bool_rec _ _ _ ?_ ?_ <;> intro h2
  ·have h2 : y < 0 := of_decide_eq_true h2
   refine goM ?_
   refine ⟨_, wrapI (by omega) (by omega) rfl, ?_⟩
   refine goM ?_
   refine ⟨_, wrapI (by omega) (by omega) rfl, ?_⟩
   refine goM ?_
   refine @bool_rec _ _ _ ?_ ?_ <;> intro h3
   ·have h3 : y + 5 + 1 < x := of_decide_eq_true h3
    rw [if_pos (by omega)]
    refine goM ?_
    exact LEP.refl _
   ·have h3 : ¬ y + 5 + 1 < x := of_decide_eq_false h3
    refine goM ?_
    refine ⟨_, wrapI (by omega) (by omega) rfl, ?_⟩
    refine goM ?_
    refine @bool_rec _ _ _ ?_ ?_ <;> intro h4
    ·have h4 : 5 < x - y := of_decide_eq_true h4
     rw [if_pos h4]
     refine goM ?_
     exact LEP.refl _
    ·have h4 : ¬ 5 < x - y := of_decide_eq_false h4
     rw [if_neg h4]
     refine goM ?_
     refine ⟨_, wrapI (by omega) (by omega) rfl, ?_⟩
     refine goM ?_
     exact LEP.refl _
  ·have h2 : ¬ y < 0 := of_decide_eq_false h2
   refine goM ?_
   refine ⟨_, wrapI (by omega) (by omega) rfl, ?_⟩
   refine goM ?_
   refine @bool_rec _ _ _ ?_ ?_ <;> intro h4
   ·have h4 : 5 < x - y := of_decide_eq_true h4
    rw [if_pos h4]
    refine goM ?_
    exact LEP.refl _
   ·have h4 : ¬ 5 < x - y := of_decide_eq_false h4
    rw [if_neg h4]
    refine goM ?_
    refine ⟨_, wrapI (by omega) (by omega) rfl, ?_⟩
    refine goM ?_
    exact LEP.refl _
def checkChalT (ak u body p : Tm) (now : Int) : Int :=
 match unpackT chW 1 p with
 | none => 2
 | some l =>
  if (unsealT (chalT ak u) 54 (at_ l 0)).2 = 4 then 6 else if (unsealT (chalT ak u) 54 (at_ l 0)).2 ≠ 0 then (unsealT (chalT ak u) 54 (at_ l 0)).2 else
  match unpackT timeW 2 (unsealT (chalT ak u) 54 (at_ l 0)).1 with
  | none => 2
  | some m => if (numOfT (at_ m 0)).2 = false then 2 else if at_ m 1 ≠ hashT body then 6 else if 5 < apartI (numOfT (at_ m 0)).1 now then 5 else 0
theorem wt_fit : ∀ t : Tm, wt t ≤ 1000000000 → Fit t := by
 intro t
 induction t using Tm.indk with
 | h t ih =>
 intro h
 rw [wt_eq] at h
 have hl : ∀ l : List Tm, l.length ≤ wts l := by
  intro l
  induction l with
  | nil => exact Nat.le_refl _
  | cons u l ihl =>
   rw [wts, List.length_cons, wt_eq]
   omega
 have := hl t.kids
 refine Fit.of (by omega) (by omega) fun u hu => ih u hu ?_
 have := wts_mem hu
 omega
theorem wt_kid {t u : Tm} (h : u ∈ t.kids) : wt u ≤ wt t := by
 have := wts_mem h
 rw [wt_eq t]
 omega
theorem wt_name (t : Tm) : t.name.length ≤ wt t := by rw [wt_eq]; omega
theorem wt_at {l : List Tm} {N : Nat} (h : ∀ u ∈ l, wt u ≤ N) (h1 : 1 ≤ N) (i : Nat) : wt (at_ l i) ≤ N := by
 unfold at_
 rw [List.getD_eq_getElem?_getD]
 cases e : l[i]? with
 | none => exact h1
 | some u => exact h u (List.mem_of_getElem? e)
theorem wt_pos (t : Tm) : 1 ≤ wt t := by rw [wt_eq]; omega
theorem wt_unpack {tag : Bs} {n : Nat} {t : Tm} {l : List Tm} (h : unpackT tag n t = some l) : ∀ u ∈ l, wt u ≤ wt t := by
 unfold unpackT at h
 split at h
 ·cases h
  exact fun u hu => wt_kid (List.mem_of_mem_drop hu)
 ·cases h
theorem wt_unseal {k : Tm} {n : Int} {t : Tm} : wt (unsealT k n t).1 ≤ wt t := by
 unfold unsealT
 split
 ·split
  ·exact wt_kid (List.getElem_mem _)
  ·exact wt_pos t
 ·exact wt_pos t
theorem numOfT_bounds (t : Tm) : -9223372036854775808 ≤ (numOfT t).1 ∧ (numOfT t).1 ≤ 9223372036854775807 := by
 unfold numOfT
 split
 ·exact atoiP_bounds _
 ·decide
theorem checkchal_ok (b : Bool) (ak u body p : Tm) (now : Int) (h0 : -9223372036854775808 ≤ now) (h1 : now ≤ 9223372036854775807) (hw : wt p ≤ 1000000000) :
  K b 141 [tv ak, tv u, tv body, tv p, iv now] (.pv (.int .i64 (checkChalT ak u body p now))) := by
 have hf := wt_fit p hw
 have hu := unpack_ok b chW 1 p (by decide) hf
 unfold checkChalT
 cases e : unpackT chW 1 p with
 | none =>
  rw [e] at hu
  refine PC_of_vc (cx_ok b) (mixed b) { ps := psT [(4, [13])] } Tryz.func141 (by kernel_rfl) rfl rfl (by kernel_rfl) ?_
  refine goM ?_
  refine ⟨_, CallVC.pr hu rfl rfl, ?_⟩
  refine goM ?_
  exact LEP.refl _
 | some l =>
  rw [e] at hu
  have hl := unpackT_len e
  have hwl := wt_unpack e
  have hw0 : wt (at_ l 0) ≤ 1000000000 := Nat.le_trans (wt_at hwl (wt_pos p) 0) hw
  have hs := unseal_ok b (chalT ak u) (at_ l 0) 54 (by decide) (by decide) (wt_fit _ hw0)
  have hwx := Nat.le_trans (wt_unseal (k := chalT ak u) (n := 54) (t := at_ l 0)) hw0
  show K b _ _ (.pv (.int .i64 (if (unsealT (chalT ak u) 54 (at_ l 0)).2 = 4 then 6 else if (unsealT (chalT ak u) 54 (at_ l 0)).2 ≠ 0 then (unsealT (chalT ak u) 54 (at_ l 0)).2 else match unpackT timeW 2 (unsealT (chalT ak u) 54 (at_ l 0)).1 with | none => 2 | some m => if (numOfT (at_ m 0)).2 = false then 2 else if at_ m 1 ≠ hashT body then 6 else if 5 < apartI (numOfT (at_ m 0)).1 now then 5 else 0)))
  revert hs hwx
  generalize unsealT (chalT ak u) 54 (at_ l 0) = y
  obtain ⟨x, c⟩ := y
  intro hs hwx
  have hwx : wt x ≤ 1000000000 := hwx
  by_cases hc4 : c = 4
  ·subst hc4
   refine PC_of_vc (cx_ok b) (mixed b) { ps := psT [(4, [13])] } Tryz.func141 (by kernel_rfl) rfl rfl (by kernel_rfl) ?_
   refine goM ?_
   refine ⟨_, CallVC.pr hu rfl rfl, ?_⟩
   refine goM ?_
   refine ⟨_, CallVC.pr (chal_ok b ak u) rfl rfl, ?_⟩
   refine goM ?_
   refine ⟨_, tmvs_at (l := l) (i := 0) (by omega), rfl, rfl, ?_⟩
   refine goM ?_
   refine ⟨_, CallVC.pr hs rfl rfl, ?_⟩
   refine goM ?_
   exact LEP.refl _
  ·by_cases hc0 : c = 0
   ·subst hc0
    have hu2 := unpack_ok b timeW 2 x (by decide) (wt_fit _ hwx)
    show K b _ _ (.pv (.int .i64 (match unpackT timeW 2 x with | none => 2 | some m => if (numOfT (at_ m 0)).2 = false then 2 else if at_ m 1 ≠ hashT body then 6 else if 5 < apartI (numOfT (at_ m 0)).1 now then 5 else 0)))
    cases e2 : unpackT timeW 2 x with
    | none =>
     rw [e2] at hu2
     refine PC_of_vc (cx_ok b) (mixed b) { ps := psT [(4, [13])] } Tryz.func141 (by kernel_rfl) rfl rfl (by kernel_rfl) ?_
     refine goM ?_
     refine ⟨_, CallVC.pr hu rfl rfl, ?_⟩
     refine goM ?_
     refine ⟨_, CallVC.pr (chal_ok b ak u) rfl rfl, ?_⟩
     refine goM ?_
     refine ⟨_, tmvs_at (l := l) (i := 0) (by omega), rfl, rfl, ?_⟩
     refine goM ?_
     refine ⟨_, CallVC.pr hs rfl rfl, ?_⟩
     refine goM ?_
     refine ⟨_, CallVC.pr hu2 rfl rfl, ?_⟩
     refine goM ?_
     exact LEP.refl _
    | some m =>
     rw [e2] at hu2
     have hm := unpackT_len e2
     have hwm := wt_unpack e2
     have hwm0 := wt_at hwm (wt_pos x) 0
     have hwm1 := wt_at hwm (wt_pos x) 1
     have hn := numof_ok b (at_ m 0) (by have := wt_name (at_ m 0); omega)
     have hb := numOfT_bounds (at_ m 0)
     have hsm := same_ok b (at_ m 1) (wt_fit _ (by omega)) (hashT body)
     show K b _ _ (.pv (.int .i64 (if (numOfT (at_ m 0)).2 = false then 2 else if at_ m 1 ≠ hashT body then 6 else if 5 < apartI (numOfT (at_ m 0)).1 now then 5 else 0)))
     revert hn hb
     generalize numOfT (at_ m 0) = y
     obtain ⟨n, q⟩ := y
     intro hn hb
     have hap := apart_ok b n now hb.1 hb.2 h0 h1
     refine PC_of_vc (cx_ok b) (mixed b) { ps := psT [(4, [13])] } Tryz.func141 (by kernel_rfl) rfl rfl (by kernel_rfl) ?_
     refine goM ?_
     refine ⟨_, CallVC.pr hu rfl rfl, ?_⟩
     refine goM ?_
     refine ⟨_, CallVC.pr (chal_ok b ak u) rfl rfl, ?_⟩
     refine goM ?_
     refine ⟨_, tmvs_at (l := l) (i := 0) (by omega), rfl, rfl, ?_⟩
     refine goM ?_
     refine ⟨_, CallVC.pr hs rfl rfl, ?_⟩
     refine goM ?_
     refine ⟨_, CallVC.pr hu2 rfl rfl, ?_⟩
     refine goM ?_
     refine ⟨_, tmvs_at (l := m) (i := 0) (by omega), rfl, rfl, ?_⟩
     refine goM ?_
     refine ⟨_, CallVC.pr hn rfl rfl, ?_⟩
     cases q with
     | false =>
      refine goM ?_
      exact LEP.refl _
     | true =>
      refine goM ?_
      refine ⟨_, tmvs_at (l := m) (i := 1) (by omega), rfl, rfl, ?_⟩
      refine goM ?_
      refine ⟨_, CallVC.pr (hash_ok b body) rfl rfl, ?_⟩
      refine goM ?_
      refine ⟨_, CallVC.pr hsm rfl rfl, ?_⟩
      refine goM ?_
      refine @bool_rec _ _ _ ?_ ?_ <;> intro h3
      ·have h3 : at_ m 1 ≠ hashT body := by simpa using h3
       rw [if_neg (by simp), if_pos h3]
       refine goM ?_
       exact LEP.refl _
      ·have h3 : at_ m 1 = hashT body := by simpa using h3
       rw [if_neg (by simp), if_neg (by simpa using h3)]
       refine goM ?_
       refine ⟨_, CallVC.pr hap rfl rfl, ?_⟩
       refine goM ?_
       refine @bool_rec _ _ _ ?_ ?_ <;> intro h4
       ·have h4 : 5 < apartI n now := of_decide_eq_true h4
        rw [if_pos h4]
        refine goM ?_
        exact LEP.refl _
       ·have h4 : ¬ 5 < apartI n now := of_decide_eq_false h4
        rw [if_neg h4]
        refine goM ?_
        exact LEP.refl _
   ·rw [if_neg (show ¬ ((x, c).2 = 4) from hc4), if_pos (show (x, c).2 ≠ 0 from hc0)]
    refine PC_of_vc (cx_ok b) (mixed b) { ps := psT [(4, [13])] } Tryz.func141 (by kernel_rfl) rfl rfl (by kernel_rfl) ?_
    refine goM ?_
    refine ⟨_, CallVC.pr hu rfl rfl, ?_⟩
    refine goM ?_
    refine ⟨_, CallVC.pr (chal_ok b ak u) rfl rfl, ?_⟩
    refine goM ?_
    refine ⟨_, tmvs_at (l := l) (i := 0) (by omega), rfl, rfl, ?_⟩
    refine goM ?_
    refine ⟨_, CallVC.pr hs rfl rfl, ?_⟩
    refine goM ?_
    refine @bool_rec _ _ _ ?_ ?_ <;> intro h3
    ·exact absurd (of_decide_eq_true h3) hc4
    ·refine goM ?_
     refine @bool_rec _ _ _ ?_ ?_ <;> intro h4
     ·exact absurd (of_decide_eq_true h4) hc0
     ·refine goM ?_
      exact LEP.refl _
end Go.Sl
namespace Go.Sl
open Go Go.Vc Go.Proofs Go.RowKit
def askOfT (t : Tm) : Tm × Tm × Tm × Bool :=
 match unpackT askW 3 t with
 | none => (zeroT, zeroT, zeroT, false)
 | some l => (at_ l 0, at_ l 1, at_ l 2, true)
def tttR (x : Tm × Tm × Tm × Bool) : Res := .tup [TV x.1, TV x.2.1, TV x.2.2.1, .bool x.2.2.2]
theorem askof_ok (b : Bool) (t : Tm) (hf : Fit t) : K b 80 [tv t] (tttR (askOfT t)) := by
 have h := unpack_ok b askW 3 t (by decide) hf
 unfold askOfT
 cases e : unpackT askW 3 t with
 | none =>
  rw [e] at h
  refine PC_of_vc (cx_ok b) (mixed b) { ps := psT [(3, [2, 3, 4]), (4, [2, 3, 4])] } Tryz.func80 (by kernel_rfl) rfl rfl (by kernel_rfl) ?_
  refine goM ?_
  refine ⟨_, CallVC.pr h rfl rfl, ?_⟩
  refine goM ?_
  exact ⟨LE_leaf 0 [], LE_leaf 0 [], LE_leaf 0 [], LEP.refl _, trivial⟩
 | some l =>
  rw [e] at h
  have hl := unpackT_len e
  refine PC_of_vc (cx_ok b) (mixed b) { ps := psT [(3, [2, 3, 4]), (4, [2, 3, 4])] } Tryz.func80 (by kernel_rfl) rfl rfl (by kernel_rfl) ?_
  refine goM ?_
  refine ⟨_, CallVC.pr h rfl rfl, ?_⟩
  refine goM ?_
  refine ⟨_, tmvs_at (l := l) (i := 0) (by omega), rfl, rfl, ?_⟩
  refine goM ?_
  refine ⟨_, tmvs_at (l := l) (i := 1) (by omega), rfl, rfl, ?_⟩
  refine goM ?_
  refine ⟨_, tmvs_at (l := l) (i := 2) (by omega), rfl, rfl, ?_⟩
  refine goM ?_
  exact ⟨LEP.refl _, LEP.refl _, LEP.refl _, LEP.refl _, trivial⟩
def wordsT (l : List Bs) : Tm := pairT (l.map wordT)
theorem words_ok (b : Bool) (l : List Bs) (hl : l.length ≤ 1000000000) (hs : ∀ s ∈ l, s.length ≤ 9223372036854775800) : K b 100 [.p (.lst (strL l))] (.pv (TV (wordsT l))) := by
 refine PC_of_vc (cx_ok b) (mixed b) { own := fun q => Nat.beq q 3 || Nat.beq q 16, fz := fun r => cond (Nat.beq r 7) [3] [] } Tryz.func100 (by kernel_rfl) rfl rfl (by kernel_rfl) ?_
 refine goM ?_
 refine ⟨Rd l.length, fun i => S.of [(2, .ptr 2 0), (3, .slc 3), (6, .p (.lst (strL l))), (7, iv ((strL l).length : Int)), (8, iv (i.1 : Int))] [(2, .var true 26 (.p (.agg [.int .i64 0, .str [], .nilS]))), (3, .row 26 3 (tmvs ((l.take i.1).map wordT)))], fun i => l.length - i.1, Rd.zero _, ?_, ?_⟩
 ·exact Ge.go
 rintro ⟨i, hi⟩
 refine goM ?_
 refine @bool_rec _ _ _ ?_ ?_ <;> intro h1
 ·have hlt : i < l.length := by have := of_decide_eq_true h1; rw [strL_length] at this; exact Int.ofNat_lt.1 this
  have hrow : tmvs ((l.take i).map wordT) ++ [TV (wordT l[i])] = tmvs ((l.take (i + 1)).map wordT) := by
   rw [List.take_succ_eq_append_getElem hlt, List.map_append, tmvs_append, List.map_cons, List.map_nil, tmvs1]
  refine goM ?_
  refine ⟨Int.natCast_nonneg _, .str l[i], by show (strL l)[i]? = _; simp [strL, hlt], rfl, rfl, ?_⟩
  refine goM ?_
  refine ⟨_, CallVC.pr (word_ok b l[i] (hs _ (List.getElem_mem hlt))) rfl rfl, ?_⟩
  refine goM ?_
  refine ⟨hbd48' (by simp only [tmvs_length, List.length_map, List.length_take, List.length_cons, List.length_nil]; omega), ?_⟩
  refine goM ?_
  refine ⟨_, wrapN (n := i + 1) rfl (by omega), ?_⟩
  refine goM ?_
  refine ⟨⟨i + 1, hlt⟩, ?_, by show l.length - (i + 1) < l.length - i; omega⟩
  refine Ge.of rfl ?_ ?_
  ·repeat (conv => whnf); refine ⟨LE.of rfl, ?_⟩
   trivial
  ·conv => whnf
   refine ⟨OLE.of rfl, OLE.of (congrArg (AO.row 26 3) hrow), ?_⟩
   trivial
 ·have hge : l.take i = l := by have h1 := of_decide_eq_false h1; rw [strL_length] at h1; have h1 : ¬ (i : Int) < (l.length : Int) := h1; exact List.take_of_length_le (by omega)
  have hrow : tmvs ((l.take i).map wordT) = tmvs (l.map wordT) := by rw [hge]
  refine goM ?_
  refine ⟨_, CallVC.pr (pair_ok b _ (l.map wordT) hrow (by simp; omega)) rfl rfl, ?_⟩
  refine goM ?_
  exact LEP.refl _
def offerOtpT (n : Tm) : Tm := packT otpM [n]
theorem offerotp_ok (b : Bool) (n : Tm) : K b 89 [tv n] (.pv (TV (offerOtpT n))) := by
 refine PC_of_vc (cx_ok b) (mixed b) {} Tryz.func89 (by kernel_rfl) rfl rfl (by kernel_rfl) ?_
 refine goM ?_
 refine ⟨_, CallVC.pr (pack_ok b otpM _ [n] (tmvs1 n) (by simp)) rfl rfl, ?_⟩
 refine goM ?_
 exact LEP.refl _
def answerOtpT (ak offer code : Tm) : Tm × Int :=
 match unpackT otpM 1 offer with
 | none => (zeroT, 2)
 | some l => (packT otpM [sealT ak 45 (packT codeW [at_ l 0, code])], 0)
theorem answerotp_ok (b : Bool) (ak offer code : Tm) (hf : Fit offer) : K b 208 [tv ak, tv offer, tv code] (tmR (answerOtpT ak offer code)) := by
 have h := unpack_ok b otpM 1 offer (by decide) hf
 unfold answerOtpT
 cases e : unpackT otpM 1 offer with
 | none =>
  rw [e] at h
  refine PC_of_vc (cx_ok b) (mixed b) {} Tryz.func208 (by kernel_rfl) rfl rfl (by kernel_rfl) ?_
  refine goM ?_
  refine ⟨_, CallVC.pr h rfl rfl, ?_⟩
  refine goM ?_
  exact ⟨LE_leaf 0 [], LEP.refl _, trivial⟩
 | some l =>
  rw [e] at h
  have hl := unpackT_len e
  refine PC_of_vc (cx_ok b) (mixed b) {} Tryz.func208 (by kernel_rfl) rfl rfl (by kernel_rfl) ?_
  refine goM ?_
  refine ⟨_, CallVC.pr h rfl rfl, ?_⟩
  refine goM ?_
  refine ⟨_, tmvs_at (l := l) (i := 0) (by omega), rfl, rfl, ?_⟩
  refine goM ?_
  refine ⟨_, CallVC.pr (pack_ok b codeW _ [at_ l 0, code] (tmvs2 _ _) (by simp)) rfl rfl, ?_⟩
  refine goM ?_
  refine ⟨_, CallVC.pr (seal_ok b ak _ 45 (by decide) (by decide)) rfl rfl, ?_⟩
  refine goM ?_
  refine ⟨_, CallVC.pr (pack_ok b otpM _ [sealT ak 45 (packT codeW [at_ l 0, code])] (tmvs1 _) (by simp)) rfl rfl, ?_⟩
  refine goM ?_
  exact ⟨LEP.refl _, LEP.refl _, trivial⟩
def maskedT (x u : Tm) : Tm := .mk 10 [] [.mk 8 [] [x], kdfT u wordW]
theorem masked_ok (b : Bool) (x u : Tm) : K b 136 [tv x, tv u] (.pv (TV (maskedT x u))) := by
 refine PC_of_vc (cx_ok b) (mixed b) {} Tryz.func136 (by kernel_rfl) rfl rfl (by kernel_rfl) ?_
 refine goM ?_
 refine ⟨_, CallVC.pr (pubx_ok b x) rfl rfl, ?_⟩
 refine goM ?_
 refine ⟨_, CallVC.pr (keyword_ok b u) rfl rfl, ?_⟩
 refine goM ?_
 refine ⟨_, CallVC.pr (maskx_ok b _ _) rfl rfl, ?_⟩
 refine goM ?_
 exact LEP.refl _
def exponentT (t u : Tm) : Tm × Int :=
 if t.kind = 10 ∧ t.kids.length = 2 then
  (if (at_ t.kids 0).kind = 8 ∧ (at_ t.kids 0).kids.length = 1 then (if at_ t.kids 1 = kdfT u wordW then (at_ (at_ t.kids 0).kids 0, 0) else (zeroT, 6)) else (zeroT, 2))
 else (zeroT, 2)
theorem exponent_ok (b : Bool) (t u : Tm) (hf : Fit t) : K b 186 [tv t, tv u] (tmR (exponentT t u)) := by
 unfold exponentT
 refine PC_of_vc (cx_ok b) (mixed b) {} Tryz.func186 (by kernel_rfl) rfl rfl (by kernel_rfl) ?_
 refine goM ?_
 refine @bool_rec _ _ _ ?_ ?_ <;> intro h1
 ·have h1 : ¬ t.kind = 10 := of_decide_eq_true h1
  rw [if_neg (fun h => h1 h.1)]
  refine goM ?_
  exact ⟨LE_leaf 0 [], LEP.refl _, trivial⟩
 ·have h1 : t.kind = 10 := by simpa using h1
  refine goM ?_
  refine @bool_rec _ _ _ ?_ ?_ <;> intro h2
  ·have h2 : ¬ t.kids.length = 2 := by have := of_decide_eq_true h2; rw [tmvs_length] at this; omega
   rw [if_neg (fun h => h2 h.2)]
   refine goM ?_
   exact ⟨LE_leaf 0 [], LEP.refl _, trivial⟩
  ·have h2 : t.kids.length = 2 := by have := of_decide_eq_false h2; rw [tmvs_length] at this; omega
   rw [if_pos ⟨h1, h2⟩]
   have hk1 : at_ t.kids 1 ∈ t.kids := by simp [at_, h2]
   refine goM ?_
   refine ⟨_, tmvs_at (l := t.kids) (i := 0) (by omega), rfl, rfl, ?_⟩
   refine goM ?_
   refine @bool_rec _ _ _ ?_ ?_ <;> intro h3
   ·have h3 : ¬ (at_ t.kids 0).kind = 8 := of_decide_eq_true h3
    rw [if_neg (fun h => h3 h.1)]
    refine goM ?_
    exact ⟨LE_leaf 0 [], LEP.refl _, trivial⟩
   ·have h3 : (at_ t.kids 0).kind = 8 := by simpa using h3
    refine goM ?_
    refine @bool_rec _ _ _ ?_ ?_ <;> intro h4
    ·have h4 : ¬ (at_ t.kids 0).kids.length = 1 := by have := of_decide_eq_true h4; rw [tmvs_length] at this; omega
     rw [if_neg (fun h => h4 h.2)]
     refine goM ?_
     exact ⟨LE_leaf 0 [], LEP.refl _, trivial⟩
    ·have h4 : (at_ t.kids 0).kids.length = 1 := by have := of_decide_eq_false h4; rw [tmvs_length] at this; omega
     rw [if_pos ⟨h3, h4⟩]
     refine goM ?_
     refine ⟨_, tmvs_at (l := t.kids) (i := 1) (by omega), rfl, rfl, ?_⟩
     refine goM ?_
     refine ⟨_, CallVC.pr (keyword_ok b u) rfl rfl, ?_⟩
     refine goM ?_
     refine ⟨_, CallVC.pr (same_ok b (at_ t.kids 1) (hf.kid hk1) _) rfl rfl, ?_⟩
     refine goM ?_
     refine @bool_rec _ _ _ ?_ ?_ <;> intro h5
     ·have h5 : ¬ at_ t.kids 1 = kdfT u wordW := by simpa using h5
      rw [if_neg h5]
      refine goM ?_
      exact ⟨LE_leaf 0 [], LEP.refl _, trivial⟩
     ·have h5 : at_ t.kids 1 = kdfT u wordW := by simpa using h5
      rw [if_pos h5]
      refine goM ?_
      refine ⟨_, tmvs_at (l := (at_ t.kids 0).kids) (i := 0) (by omega), rfl, rfl, ?_⟩
      refine goM ?_
      exact ⟨LEP.refl _, LEP.refl _, trivial⟩
abbrev exV (x y u o a d : Tm) : SV := .p (.agg [.int .i64 x.kind, .str x.name, .lst (tmvs x.kids), .int .i64 y.kind, .str y.name, .lst (tmvs y.kids), .int .i64 u.kind, .str u.name, .lst (tmvs u.kids), .int .i64 o.kind, .str o.name, .lst (tmvs o.kids), .int .i64 a.kind, .str a.name, .lst (tmvs a.kids), .int .i64 d.kind, .str d.name, .lst (tmvs d.kids)])
def exKeyT (x y u o a d : Tm) (n : Int) : Tm := secondT (shareT x y) (kdfT u wordW) o a (hashT d) n
theorem exkey_ok (x y u o a d : Tm) (n : Int) (h0 : -9223372036854775808 ≤ n) (h1 : n ≤ 9223372036854775807) (hx : wt x ≤ 1000000000) (hy : wt y ≤ 1000000000) : K true 188 [exV x y u o a d, iv n] (.pv (TV (exKeyT x y u o a d n))) := by
 have fx := wt_fit x hx
 have fy := wt_fit y hy
 refine PC_of_vc (cx_ok true) (mixed true) {} Tryz.func188 (by kernel_rfl) rfl rfl (by kernel_rfl) ?_
 refine goL ?_
 refine ⟨_, CallVC.pr (share_ok x y fx fy (fun _ => text_big fx hx) (fun _ => text_big fy hy)) rfl rfl, ?_⟩
 refine goL ?_
 refine ⟨_, CallVC.pr (keyword_ok true u) rfl rfl, ?_⟩
 refine goL ?_
 refine ⟨_, CallVC.pr (hash_ok true d) rfl rfl, ?_⟩
 refine goL ?_
 refine ⟨_, CallVC.pr (ksecond_ok true (shareT x y) (kdfT u wordW) o a (hashT d) n h0 h1) rfl rfl, ?_⟩
 refine goL ?_
 exact LEP.refl _
def factorT (x y u o a d : Tm) : Tm := sealT (exKeyT x y u o a d 1) 60 (packT facW [])
theorem factor_ok (x y u o a d : Tm) (hx : wt x ≤ 1000000000) (hy : wt y ≤ 1000000000) : K true 187 [exV x y u o a d] (.pv (TV (factorT x y u o a d))) := by
 refine PC_of_vc (cx_ok true) (mixed true) {} Tryz.func187 (by kernel_rfl) rfl rfl (by kernel_rfl) ?_
 refine goL ?_
 refine ⟨_, CallVC.pr (exkey_ok x y u o a d 1 (by decide) (by decide) hx hy) rfl rfl, ?_⟩
 refine goL ?_
 refine ⟨_, CallVC.le (pack_ok true facW _ [] rfl (by simp)) ⟨LE.refl _, LE_nil, trivial⟩ rfl rfl, ?_⟩
 refine goL ?_
 refine ⟨_, CallVC.pr (seal_ok true _ _ 60 (by decide) (by decide)) rfl rfl, ?_⟩
 refine goL ?_
 exact LEP.refl _
def offerSpakeT (u y : Tm) : Tm := packT spW [maskedT y u]
theorem offerspake_ok (b : Bool) (u y : Tm) : K b 90 [tv u, tv y] (.pv (TV (offerSpakeT u y))) := by
 refine PC_of_vc (cx_ok b) (mixed b) {} Tryz.func90 (by kernel_rfl) rfl rfl (by kernel_rfl) ?_
 refine goM ?_
 refine ⟨_, CallVC.pr (masked_ok b y u) rfl rfl, ?_⟩
 refine goM ?_
 refine ⟨_, CallVC.pr (pack_ok b spW _ [maskedT y u] (tmvs1 _) (by simp)) rfl rfl, ?_⟩
 refine goM ?_
 exact LEP.refl _
end Go.Sl
namespace Go.Sl
open Go Go.Vc Go.Proofs Go.RowKit
theorem wt_exponent (t u : Tm) : wt (exponentT t u).1 ≤ wt t := by
 unfold exponentT
 split
 ·split
  ·split
   ·rename_i h1 h2 h3
    have h4 : at_ t.kids 0 ∈ t.kids := by simp [at_, h1.2]
    have h5 : at_ (at_ t.kids 0).kids 0 ∈ (at_ t.kids 0).kids := by
     have : 0 < (at_ t.kids 0).kids.length := by omega
     show (at_ t.kids 0).kids.getD 0 zeroT ∈ _
     rw [List.getD_eq_getElem?_getD, List.getElem?_eq_getElem this]
     exact List.getElem_mem _
    exact Nat.le_trans (wt_kid h5) (wt_kid h4)
   ·exact wt_pos t
  ·exact wt_pos t
 ·exact wt_pos t
def answerSpakeT (u body offer x : Tm) : Tm × Tm × Int :=
 match unpackT spW 1 offer with
 | none => (zeroT, zeroT, 2)
 | some l =>
  if (exponentT (at_ l 0) u).2 ≠ 0 then (zeroT, zeroT, (exponentT (at_ l 0) u).2) else
  (packT spW [maskedT x u, factorT x (exponentT (at_ l 0) u).1 u (at_ l 0) (maskedT x u) body], exKeyT x (exponentT (at_ l 0) u).1 u (at_ l 0) (maskedT x u) body 0, 0)
def tteR (x : Tm × Tm × Int) : Res := .tup [TV x.1, TV x.2.1, .int .i64 x.2.2]
theorem answerspake_ok (u body offer x : Tm) (hw : wt offer ≤ 1000000000) (hx : wt x ≤ 1000000000) : K true 209 [tv u, tv body, tv offer, tv x] (tteR (answerSpakeT u body offer x)) := by
 have hf := wt_fit offer hw
 have h := unpack_ok true spW 1 offer (by decide) hf
 unfold answerSpakeT
 cases e : unpackT spW 1 offer with
 | none =>
  rw [e] at h
  refine PC_of_vc (cx_ok true) (mixed true) { ps := psT [(4, [13])] } Tryz.func209 (by kernel_rfl) rfl rfl (by kernel_rfl) ?_
  refine goM ?_
  refine ⟨_, CallVC.pr h rfl rfl, ?_⟩
  refine goM ?_
  exact ⟨LE_leaf 0 [], LE_leaf 0 [], LEP.refl _, trivial⟩
 | some l =>
  rw [e] at h
  have hl := unpackT_len e
  have hw0 : wt (at_ l 0) ≤ 1000000000 := Nat.le_trans (wt_at (wt_unpack e) (wt_pos offer) 0) hw
  have h2 := exponent_ok true (at_ l 0) u (wt_fit _ hw0)
  have hwy := Nat.le_trans (wt_exponent (at_ l 0) u) hw0
  show K true _ _ (tteR (if (exponentT (at_ l 0) u).2 ≠ 0 then (zeroT, zeroT, (exponentT (at_ l 0) u).2) else (packT spW [maskedT x u, factorT x (exponentT (at_ l 0) u).1 u (at_ l 0) (maskedT x u) body], exKeyT x (exponentT (at_ l 0) u).1 u (at_ l 0) (maskedT x u) body 0, 0)))
  revert h2 hwy
  generalize exponentT (at_ l 0) u = z
  obtain ⟨y, c⟩ := z
  intro h2 hwy
  have hwy : wt y ≤ 1000000000 := hwy
  refine PC_of_vc (cx_ok true) (mixed true) { ps := psT [(4, [13])] } Tryz.func209 (by kernel_rfl) rfl rfl (by kernel_rfl) ?_
  refine goM ?_
  refine ⟨_, CallVC.pr h rfl rfl, ?_⟩
  refine goM ?_
  refine ⟨_, tmvs_at (l := l) (i := 0) (by omega), rfl, rfl, ?_⟩
  refine goM ?_
  refine ⟨_, CallVC.pr h2 rfl rfl, ?_⟩
  refine goM ?_
  refine @bool_rec _ _ _ ?_ ?_ <;> intro h3
  ·have h3 : c ≠ 0 := of_decide_eq_true h3
   rw [if_pos h3]
   refine goM ?_
   exact ⟨LE_leaf 0 [], LE_leaf 0 [], LEP.refl _, trivial⟩
  ·have h3 : c = 0 := by simpa using h3
   subst h3
   rw [if_neg (by simp)]
   refine goL ?_
   refine ⟨_, tmvs_at (l := l) (i := 0) (by omega), rfl, rfl, ?_⟩
   refine goL ?_
   refine ⟨_, CallVC.pr (masked_ok true x u) rfl rfl, ?_⟩
   refine goL ?_
   refine ⟨_, CallVC.pr (factor_ok x y u (at_ l 0) (maskedT x u) body hx hwy) rfl rfl, ?_⟩
   refine goL ?_
   refine ⟨_, CallVC.pr (pack_ok true spW _ [maskedT x u, factorT x y u (at_ l 0) (maskedT x u) body] (tmvs2 _ _) (by simp)) rfl rfl, ?_⟩
   refine goL ?_
   refine ⟨_, CallVC.pr (exkey_ok x y u (at_ l 0) (maskedT x u) body 0 (by decide) (by decide) hx hwy) rfl rfl, ?_⟩
   refine goL ?_
   exact ⟨LEP.refl _, LEP.refl _, LEP.refl _, trivial⟩
def checkSpakeT (u body y p : Tm) : Tm × Int :=
 match unpackT spW 2 p with
 | none => (zeroT, 2)
 | some l =>
  if (exponentT (at_ l 0) u).2 ≠ 0 then (zeroT, (exponentT (at_ l 0) u).2) else
  if at_ l 1 ≠ factorT (exponentT (at_ l 0) u).1 y u (maskedT y u) (at_ l 0) body then (zeroT, 6) else
  (exKeyT (exponentT (at_ l 0) u).1 y u (maskedT y u) (at_ l 0) body 0, 0)
theorem checkspake_ok (u body y p : Tm) (hw : wt p ≤ 1000000000) (hy : wt y ≤ 1000000000) : K true 140 [tv u, tv body, tv y, tv p] (tmR (checkSpakeT u body y p)) := by
 have hf := wt_fit p hw
 have h := unpack_ok true spW 2 p (by decide) hf
 unfold checkSpakeT
 cases e : unpackT spW 2 p with
 | none =>
  rw [e] at h
  refine PC_of_vc (cx_ok true) (mixed true) { ps := psT [(4, [12])] } Tryz.func140 (by kernel_rfl) rfl rfl (by kernel_rfl) ?_
  refine goM ?_
  refine ⟨_, CallVC.pr h rfl rfl, ?_⟩
  refine goM ?_
  exact ⟨LE_leaf 0 [], LEP.refl _, trivial⟩
 | some l =>
  rw [e] at h
  have hl := unpackT_len e
  have hwl := wt_unpack e
  have hw0 : wt (at_ l 0) ≤ 1000000000 := Nat.le_trans (wt_at hwl (wt_pos p) 0) hw
  have hw1 : wt (at_ l 1) ≤ 1000000000 := Nat.le_trans (wt_at hwl (wt_pos p) 1) hw
  have h2 := exponent_ok true (at_ l 0) u (wt_fit _ hw0)
  have hwx := Nat.le_trans (wt_exponent (at_ l 0) u) hw0
  show K true _ _ (tmR (if (exponentT (at_ l 0) u).2 ≠ 0 then (zeroT, (exponentT (at_ l 0) u).2) else if at_ l 1 ≠ factorT (exponentT (at_ l 0) u).1 y u (maskedT y u) (at_ l 0) body then (zeroT, 6) else (exKeyT (exponentT (at_ l 0) u).1 y u (maskedT y u) (at_ l 0) body 0, 0)))
  revert h2 hwx
  generalize exponentT (at_ l 0) u = z
  obtain ⟨x, c⟩ := z
  intro h2 hwx
  have hwx : wt x ≤ 1000000000 := hwx
  refine PC_of_vc (cx_ok true) (mixed true) { ps := psT [(4, [12])] } Tryz.func140 (by kernel_rfl) rfl rfl (by kernel_rfl) ?_
  refine goM ?_
  refine ⟨_, CallVC.pr h rfl rfl, ?_⟩
  refine goM ?_
  refine ⟨_, tmvs_at (l := l) (i := 0) (by omega), rfl, rfl, ?_⟩
  refine goM ?_
  refine ⟨_, CallVC.pr h2 rfl rfl, ?_⟩
  refine goM ?_
  refine @bool_rec _ _ _ ?_ ?_ <;> intro h3
  ·have h3 : c ≠ 0 := of_decide_eq_true h3
   rw [if_pos h3]
   refine goM ?_
   exact ⟨LE_leaf 0 [], LEP.refl _, trivial⟩
  ·have h3 : c = 0 := by simpa using h3
   subst h3
   rw [if_neg (by simp)]
   refine goL ?_
   refine ⟨_, CallVC.pr (masked_ok true y u) rfl rfl, ?_⟩
   refine goL ?_
   refine ⟨_, tmvs_at (l := l) (i := 0) (by omega), rfl, rfl, ?_⟩
   refine goL ?_
   refine ⟨_, tmvs_at (l := l) (i := 1) (by omega), rfl, rfl, ?_⟩
   refine goL ?_
   refine ⟨_, CallVC.pr (factor_ok x y u (maskedT y u) (at_ l 0) body hwx hy) rfl rfl, ?_⟩
   refine goL ?_
   refine ⟨_, CallVC.pr (same_ok true (at_ l 1) (wt_fit _ hw1) _) rfl rfl, ?_⟩
   refine goL ?_
   refine @bool_rec _ _ _ ?_ ?_ <;> intro h4
   ·have h4 : at_ l 1 ≠ factorT x y u (maskedT y u) (at_ l 0) body := by simpa using h4
    rw [if_pos h4]
    refine goL ?_
    exact ⟨LE_leaf 0 [], LEP.refl _, trivial⟩
   ·have h4 : at_ l 1 = factorT x y u (maskedT y u) (at_ l 0) body := by simpa using h4
    rw [if_neg (by simpa using h4)]
    refine goL ?_
    refine ⟨_, CallVC.pr (exkey_ok x y u (maskedT y u) (at_ l 0) body 0 (by decide) (by decide) hwx hy) rfl rfl, ?_⟩
    refine goL ?_
    exact ⟨LEP.refl _, LEP.refl _, trivial⟩
end Go.Sl
namespace Go.Sl
open Go Go.Vc Go.Proofs Go.RowKit
theorem LE_agg {xs ys : List PV} (h : LEPL xs ys) : LE (.p (.agg xs)) (.p (.agg ys)) := fun ok β w v hr => by
 rw [R, RP] at hr ⊢
 obtain ⟨vs, h1, h2, h3⟩ := hr
 exact ⟨vs, h1, h2, LEPL_R h h3⟩
theorem LEP_agg {xs ys : List PV} (h : LEPL xs ys) : LEP (.agg xs) (.agg ys) := fun ok w v hr => by
 rw [RP] at hr ⊢
 obtain ⟨vs, h1, h2, h3⟩ := hr
 exact ⟨vs, h1, h2, LEPL_R h h3⟩
theorem LE_mix {cs : List PV} {xs : List SV} (h : LEL (cs.map .p) xs) : LE (.p (.agg cs)) (.mix xs) := fun ok β w v hr => by
 rw [R, RP] at hr
 obtain ⟨vs, h1, h2, h3⟩ := hr
 rw [R]
 exact ⟨vs, h1, h2, LEL_R h (RL_map_p h3)⟩
theorem LEP_nil : LEP .nilS (.lst []) := fun ok w v hr => by
 have := LE_nil ok (fun _ => undef) w v (by rw [R]; exact hr)
 rwa [R] at this
structure Ck where
 client : Bs
 nonce : Bs
 done : List Bs
 secret : Tm
 til : Int
def Ck.pv (c : Ck) : PV := .agg [.str c.client, .str c.nonce, .lst (strL c.done), .int .i64 c.secret.kind, .str c.secret.name, .lst (tmvs c.secret.kids), .int .i64 c.til]
abbrev ckV (c : Ck) : SV := .p (.agg [.str c.client, .str c.nonce, .lst (strL c.done), .int .i64 c.secret.kind, .str c.secret.name, .lst (tmvs c.secret.kids), .int .i64 c.til])
def fitsB (t : Tm) : Bool := rightT t && decide (depT t 61 ≤ 57)
theorem fits_ok (t : Tm) (hw : wt t ≤ 1000000000) : K true 137 [tv t] (.pv (.bool (fitsB t))) := by
 have hf := wt_fit t hw
 have h := right_ok t hf (fun _ => text_big hf hw)
 unfold fitsB
 revert h
 generalize rightT t = q
 intro h
 cases q with
 | false =>
  refine PC_of_vc (cx_ok true) (mixed true) {} Tryz.func137 (by kernel_rfl) rfl rfl (by kernel_rfl) ?_
  refine goM ?_
  refine ⟨_, CallVC.pr h rfl rfl, ?_⟩
  refine goM ?_
  exact LEP.refl _
 | true =>
  refine PC_of_vc (cx_ok true) (mixed true) {} Tryz.func137 (by kernel_rfl) rfl rfl (by kernel_rfl) ?_
  refine goM ?_
  refine ⟨_, CallVC.pr h rfl rfl, ?_⟩
  refine goM ?_
  refine ⟨_, CallVC.pr (Depth_ok true t hf) rfl rfl, ?_⟩
  refine goM ?_
  exact LEP.of (congrArg PV.bool (by rw [Bool.true_and]; exact decide_eq_decide.2 (by omega)))
def ckW : Bs := [99, 111, 111, 107, 105, 101]
def sealCkT (key : Tm) (c : Ck) : Tm :=
 if fitsB key = true ∧ fitsB c.secret = true then encT key (pairT [dataT ckW, dataT (99 :: c.client), dataT (110 :: c.nonce), pairT (c.done.map fun s => dataT (100 :: s)), c.secret, dataT (117 :: Lib.itoa c.til)]) else zeroT
theorem tmvs6 (a b c d e f : Tm) : [TV a, TV b, TV c, TV d, TV e, TV f] = tmvs [a, b, c, d, e, f] := (tmvs_eq [a, b, c, d, e, f]).symm
structure Ck.ok (c : Ck) : Prop where
 client : c.client.length ≤ 1000000000
 nonce : c.nonce.length ≤ 1000000000
 done : c.done.length ≤ 1000000000
 dones : ∀ s ∈ c.done, s.length ≤ 1000000000
 secret : wt c.secret ≤ 1000000000
 til0 : -9223372036854775808 ≤ c.til
 til1 : c.til ≤ 9223372036854775807
theorem sealck_ok (key : Tm) (c : Ck) (hk : wt key ≤ 1000000000) (hc : c.ok) : K true 92 [tv key, ckV c] (.pv (TV (sealCkT key c))) := by
 have h1 := fits_ok key hk
 have h2 := fits_ok c.secret hc.secret
 have hl := itoa_len hc.til0 hc.til1
 have hit := itoa_ok true c.til hc.til0 hc.til1
 have c1 := hc.client
 have c2 := hc.nonce
 have c3 := hc.done
 unfold sealCkT
 revert h1 h2
 generalize fitsB key = p
 generalize fitsB c.secret = q
 intro h1 h2
 cases p with
 | false =>
  refine PC_of_vc (cx_ok true) (mixed true) { own := fun q => Nat.beq q 5 || Nat.beq q 31, fz := fun r => cond (Nat.beq r 10) [5] [] } Tryz.func92 (by kernel_rfl) rfl rfl (by kernel_rfl) ?_
  refine goL ?_
  refine ⟨_, CallVC.pr h1 rfl rfl, ?_⟩
  refine goL ?_
  exact LE_leaf 0 []
 | true =>
  cases q with
  | false =>
   refine PC_of_vc (cx_ok true) (mixed true) { own := fun q => Nat.beq q 5 || Nat.beq q 31, fz := fun r => cond (Nat.beq r 10) [5] [] } Tryz.func92 (by kernel_rfl) rfl rfl (by kernel_rfl) ?_
   refine goL ?_
   refine ⟨_, CallVC.pr h1 rfl rfl, ?_⟩
   refine goL ?_
   refine ⟨_, CallVC.pr h2 rfl rfl, ?_⟩
   refine goL ?_
   exact LE_leaf 0 []
  | true =>
   rw [if_pos ⟨rfl, rfl⟩]
   refine PC_of_vc (cx_ok true) (mixed true) { own := fun q => Nat.beq q 5 || Nat.beq q 31, fz := fun r => cond (Nat.beq r 10) [5] [] } Tryz.func92 (by kernel_rfl) rfl rfl (by kernel_rfl) ?_
   refine goL ?_
   refine ⟨_, CallVC.pr h1 rfl rfl, ?_⟩
   refine goL ?_
   refine ⟨_, CallVC.pr h2 rfl rfl, ?_⟩
   refine goL ?_
   refine ⟨Rd c.done.length, fun i => S.of [(2, .ptr 2 0), (3, .ptr 3 0), (4, .ptr 4 0), (5, .slc 5), (20, .p (.lst (strL c.done))), (21, iv ((strL c.done).length : Int)), (22, iv (i.1 : Int))] [(2, .var true 26 (tv key)), (3, .var true 92 (ckV c)), (4, .var true 26 (.p (.agg [.int .i64 0, .str [], .nilS]))), (5, .row 26 3 (tmvs ((c.done.take i.1).map fun s => dataT (100 :: s))))], fun i => c.done.length - i.1, Rd.zero _, ?_, ?_⟩
   ·exact Ge.go
   rintro ⟨i, hi⟩
   refine goL ?_
   refine @bool_rec _ _ _ ?_ ?_ <;> intro h3
   ·have hlt : i < c.done.length := by have := of_decide_eq_true h3; rw [strL_length] at this; exact Int.ofNat_lt.1 this
    have hrow : tmvs ((c.done.take i).map fun s => dataT (100 :: s)) ++ [TV (dataT (100 :: c.done[i]))] = tmvs ((c.done.take (i + 1)).map fun s => dataT (100 :: s)) := by
     rw [List.take_succ_eq_append_getElem hlt, List.map_append, tmvs_append, List.map_cons, List.map_nil, tmvs1]
    have hsl := hc.dones _ (List.getElem_mem hlt)
    refine goL ?_
    refine ⟨Int.natCast_nonneg _, .str c.done[i], by show (strL c.done)[i]? = _; simp [strL, hlt], rfl, rfl, ?_⟩
    refine goL ?_
    refine ⟨by show 1 + c.done[i].length ≤ _; omega, ?_⟩
    refine goL ?_
    refine ⟨_, CallVC.pr (data_ok true (100 :: c.done[i])) rfl rfl, ?_⟩
    refine goL ?_
    refine ⟨hbd48' (by simp only [tmvs_length, List.length_map, List.length_take, List.length_cons, List.length_nil]; omega), ?_⟩
    refine goL ?_
    refine ⟨_, wrapN (n := i + 1) rfl (by omega), ?_⟩
    refine goL ?_
    refine ⟨⟨i + 1, hlt⟩, ?_, by show c.done.length - (i + 1) < c.done.length - i; omega⟩
    refine Ge.of rfl ?_ ?_
    ·repeat (conv => whnf); refine ⟨LE.of rfl, ?_⟩
     trivial
    ·conv => whnf
     refine ⟨OLE.of rfl, ?_⟩
     conv => whnf
     refine ⟨OLE.of rfl, ?_⟩
     conv => whnf
     refine ⟨OLE.of rfl, ?_⟩
     conv => whnf
     refine ⟨OLE.of (congrArg (AO.row 26 3) hrow), ?_⟩
     trivial
   ·have hge : c.done.take i = c.done := by have h1 := of_decide_eq_false h3; rw [strL_length] at h1; have h1 : ¬ (i : Int) < (c.done.length : Int) := h1; exact List.take_of_length_le (by omega)
    have hrow : tmvs ((c.done.take i).map fun s => dataT (100 :: s)) = tmvs (c.done.map fun s => dataT (100 :: s)) := by rw [hge]
    refine goL ?_
    refine ⟨_, CallVC.pr hit rfl rfl, ?_⟩
    refine goL ?_
    refine ⟨by show 1 + (Lib.itoa c.til).length ≤ _; omega, ?_⟩
    refine goL ?_
    refine ⟨_, CallVC.pr (data_ok true (117 :: Lib.itoa c.til)) rfl rfl, ?_⟩
    refine goL ?_
    refine ⟨_, CallVC.pr (data_ok true ckW) rfl rfl, ?_⟩
    refine goL ?_
    refine ⟨by show 1 + c.client.length ≤ _; omega, ?_⟩
    refine goL ?_
    refine ⟨_, CallVC.pr (data_ok true (99 :: c.client)) rfl rfl, ?_⟩
    refine goL ?_
    refine ⟨by show 1 + c.nonce.length ≤ _; omega, ?_⟩
    refine goL ?_
    refine ⟨_, CallVC.pr (data_ok true (110 :: c.nonce)) rfl rfl, ?_⟩
    refine goL ?_
    refine ⟨_, CallVC.pr (pair_ok true _ (c.done.map fun s => dataT (100 :: s)) hrow (by simp; omega)) rfl rfl, ?_⟩
    refine goL ?_
    refine ⟨_, CallVC.pr (pair_ok true _ [dataT ckW, dataT (99 :: c.client), dataT (110 :: c.nonce), pairT (c.done.map fun s => dataT (100 :: s)), c.secret, dataT (117 :: Lib.itoa c.til)] (tmvs6 _ _ _ _ _ _) (by simp)) rfl rfl, ?_⟩
    refine goL ?_
    refine ⟨_, CallVC.pr (enc_ok true key _) rfl rfl, ?_⟩
    refine goL ?_
    exact LEP.refl _
end Go.Sl
namespace Go.Sl
open Go Go.Vc Go.Proofs Go.RowKit
def gI : Nat → Nat := fun k => k
theorem ckbody_ok (b : Bool) (t : Tm) (i : Nat) (letter : Bs) (hi : i < t.kids.length) : K b 177 [tv t, iv i, sv letter] (.pv (.str (cutP (at_ t.kids i).name letter).1)) := by
 have h := cutprefix_ok b (at_ t.kids i).name letter
 revert h
 generalize cutP (at_ t.kids i).name letter = x
 obtain ⟨s, m⟩ := x
 intro h
 refine PC_of_vc (cx_ok b) (mixed b) {} Tryz.func177 (by kernel_rfl) rfl rfl (by kernel_rfl) ?_
 refine goL ?_
 refine ⟨Int.natCast_nonneg _, _, tmvs_at (l := t.kids) (i := i) hi, rfl, rfl, ?_⟩
 refine goL ?_
 refine ⟨_, CallVC.pr h rfl rfl, ?_⟩
 refine goL ?_
 exact LEP.refl _
abbrev ckA0 (cl n : Bs) : List (Nat × AO) := [(2000, .var true 92 (.p (.agg [.str cl, .str n, .nilS, .int .i64 0, .str [], .nilS, .int .i64 0])))]
abbrev ckA1 (cl n : Bs) : List (Nat × AO) := [(2000, .var true 92 (.mix [.p (.str cl), .p (.str n), .p .nilS, .p (.int .i64 0), .p (.str []), .p .nilS, .p (.int .i64 0)]))]
abbrev ckM (c : Ck) : List (Nat × AO) := [(2000, .var true 92 (.mix [.p (.str c.client), .p (.str c.nonce), .slc 1001, .p (.int .i64 c.secret.kind), .p (.str c.secret.name), .p (.lst (tmvs c.secret.kids)), .p (.int .i64 c.til)])), (1001, .row 9 1 (strL c.done))]
abbrev ckM0 (c : Ck) : List (Nat × AO) := [(2000, .var true 92 (.mix [.p (.str c.client), .p (.str c.nonce), .slc 1001, .p (.int .i64 0), .p (.str []), .p .nilS, .p (.int .i64 0)])), (1001, .row 9 1 (strL c.done))]
theorem ckclient_ok (t : Tm) (cl n : Bs) (hi : 1 < t.kids.length) : PM (cx true) 131 (ckA0 cl n) [tv t, .ptr 2000 0] (ckA0 (cutP (at_ t.kids 1).name [99]).1 n) (.tupS []) := by
 have h := ckbody_ok true t 1 [99] hi
 generalize (cutP (at_ t.kids 1).name [99]).1 = x at h ⊢
 refine PM_of_vc (cx_ok true) (mixed true) {} Tryz.func131 (by kernel_rfl) rfl rfl (by kernel_rfl) ?_ ?_
 ·rfl
 refine goL ?_
 refine ⟨_, CallVC.pr h rfl rfl, ?_⟩
 refine goL ?_
 exact ⟨gI, rfl, ⟨.inr (.inl rfl), trivial⟩, rfl, rfl⟩
theorem cknonce_ok (t : Tm) (cl n : Bs) (hi : 2 < t.kids.length) : PM (cx true) 132 (ckA0 cl n) [tv t, .ptr 2000 0] (ckA0 cl (cutP (at_ t.kids 2).name [110]).1) (.tupS []) := by
 have h := ckbody_ok true t 2 [110] hi
 generalize (cutP (at_ t.kids 2).name [110]).1 = x at h ⊢
 refine PM_of_vc (cx_ok true) (mixed true) {} Tryz.func132 (by kernel_rfl) rfl rfl (by kernel_rfl) ?_ ?_
 ·rfl
 refine goL ?_
 refine ⟨_, CallVC.pr h rfl rfl, ?_⟩
 refine goL ?_
 exact ⟨gI, rfl, ⟨.inr (.inl rfl), trivial⟩, rfl, rfl⟩
def doneT (l : List Tm) : List Bs := l.map fun k => (cutP k.name [100]).1
theorem ckdone_ok (t : Tm) (cl n : Bs) (hi : 3 < t.kids.length) (hl : (at_ t.kids 3).kids.length ≤ 1000000000) : PM (cx true) 133 (ckA1 cl n) [tv t, .ptr 2000 0] (ckM0 ⟨cl, n, doneT (at_ t.kids 3).kids, zeroT, 0⟩) (.tupS []) := by
 have hg : (tmvs t.kids)[3]? = some (TV (at_ t.kids 3)) := tmvs_at hi
 revert hg
 generalize at_ t.kids 3 = u at hl ⊢
 intro hg
 obtain ⟨ku, nu, l⟩ := u
 have hl : l.length ≤ 1000000000 := hl
 refine PM_of_vc (cx_ok true) (mixed true) { own := fun q => Nat.beq q 32, nl := fun r => cond (Nat.beq r 1) [(2000, 2, 1001, 9, 1)] [] } Tryz.func133 (by kernel_rfl) rfl rfl (by kernel_rfl) ?_ ?_
 ·rfl
 refine goL ?_
 refine ⟨_, hg, rfl, rfl, ?_⟩
 refine goL ?_
 refine ⟨Rd l.length, fun i => S.of [(1, .ptr 2000 0), (13, lv l), (14, iv ((tmvs l).length : Int)), (15, iv (i.1 : Int))] [(2000, .var true 92 (.mix [.p (.str cl), .p (.str n), .slc 1001, .p (.int .i64 0), .p (.str []), .p .nilS, .p (.int .i64 0)])), (1001, .row 9 1 (strL (doneT (l.take i.1))))], fun i => l.length - i.1, Rd.zero _, ?_, ?_⟩
 ·exact Ge.go
 rintro ⟨i, hi⟩
 refine goL ?_
 refine @bool_rec _ _ _ ?_ ?_ <;> intro h3
 ·have hlt : i < l.length := by have := of_decide_eq_true h3; rw [tmvs_length] at this; exact Int.ofNat_lt.1 this
  have hrow : strL (doneT (l.take i)) ++ [.str (cutP l[i].name [100]).1] = strL (doneT (l.take (i + 1))) := by
   rw [List.take_succ_eq_append_getElem hlt]
   simp only [doneT, strL, List.map_append, List.map_cons, List.map_nil]
  have h := cutprefix_ok true l[i].name [100]
  revert h hrow
  generalize cutP l[i].name [100] = x
  obtain ⟨s, m⟩ := x
  intro hrow h
  refine goL ?_
  refine ⟨Int.natCast_nonneg _, TV l[i], tmvs_getN hlt, rfl, rfl, ?_⟩
  refine goL ?_
  refine ⟨_, CallVC.pr h rfl rfl, ?_⟩
  refine goL ?_
  refine ⟨by show ((strL (doneT (l.take i))).length + 1) * 16 ≤ _; simp [strL, doneT]; omega, ?_⟩
  refine goL ?_
  refine ⟨_, wrapN (n := i + 1) rfl (by omega), ?_⟩
  refine goL ?_
  refine ⟨⟨i + 1, hlt⟩, ?_, by show l.length - (i + 1) < l.length - i; omega⟩
  refine Ge.of rfl ?_ ?_
  ·repeat (conv => whnf); refine ⟨LE.of rfl, ?_⟩
   trivial
  ·conv => whnf
   refine ⟨OLE.of rfl, ?_⟩
   conv => whnf
   refine ⟨OLE.of (congrArg (AO.row 9 1) hrow), ?_⟩
   trivial
 ·have hge : l.take i = l := by have h1 := of_decide_eq_false h3; rw [tmvs_length] at h1; have h1 : ¬ (i : Int) < (l.length : Int) := h1; exact List.take_of_length_le (by omega)
  have hrow : strL (doneT (l.take i)) = strL (doneT l) := by rw [hge]
  refine goL ?_
  exact ⟨gI, rfl, ⟨.inr (.inl rfl), .inr (.inl (congrArg (AO.row 9 1) hrow)), trivial⟩, rfl, rfl⟩
theorem cksecret_ok (t : Tm) (c : Ck) (hi : 4 < t.kids.length) : PM (cx true) 134 (ckM0 c) [tv t, .ptr 2000 0] (ckM ⟨c.client, c.nonce, c.done, at_ t.kids 4, 0⟩) (.tupS []) := by
 refine PM_of_vc (cx_ok true) (mixed true) {} Tryz.func134 (by kernel_rfl) rfl rfl (by kernel_rfl) ?_ ?_
 ·rfl
 refine goL ?_
 refine ⟨_, tmvs_at (l := t.kids) (i := 4) hi, rfl, rfl, ?_⟩
 refine goL ?_
 exact ⟨gI, rfl, ⟨.inr (.inl rfl), .inr (.inl rfl), trivial⟩, rfl, rfl⟩
theorem cktil_ok (t : Tm) (c : Ck) (hi : 5 < t.kids.length) (hn : (at_ t.kids 5).name.length ≤ 281474976710656) : PM (cx true) 135 (ckM c) [tv t, .ptr 2000 0] (ckM ⟨c.client, c.nonce, c.done, c.secret, (atoiP (cutP (at_ t.kids 5).name [117]).1).1⟩) (.tupS []) := by
 have h := ckbody_ok true t 5 [117] hi
 have hl : (cutP (at_ t.kids 5).name [117]).1.length ≤ 281474976710656 := by
  unfold cutP
  split
  ·show (List.drop 1 (at_ t.kids 5).name).length ≤ _
   rw [List.length_drop]
   omega
  ·exact hn
 generalize (cutP (at_ t.kids 5).name [117]).1 = x at h hl ⊢
 have h2 := atoi_ok true x hl
 revert h2
 generalize atoiP x = y
 obtain ⟨v, e⟩ := y
 intro h2
 refine PM_of_vc (cx_ok true) (mixed true) {} Tryz.func135 (by kernel_rfl) rfl rfl (by kernel_rfl) ?_ ?_
 ·rfl
 refine goL ?_
 refine ⟨_, CallVC.pr h rfl rfl, ?_⟩
 refine goL ?_
 refine ⟨_, CallVC.pr h2 rfl rfl, ?_⟩
 cases e with
 | false =>
  refine goL ?_
  exact ⟨gI, rfl, ⟨.inr (.inl rfl), .inr (.inl rfl), trivial⟩, rfl, rfl⟩
 | true =>
  refine goL ?_
  exact ⟨gI, rfl, ⟨.inr (.inl rfl), .inr (.inl rfl), trivial⟩, rfl, rfl⟩
end Go.Sl
