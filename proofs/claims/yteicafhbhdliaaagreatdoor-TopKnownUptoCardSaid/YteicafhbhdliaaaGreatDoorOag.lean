/- Part 7 of the proof: Fd Gg Gh Gi Gj Ha Hb Hc Hd He Hf Hg. -/
import Derived.Test.YteicafhbhdliaaaGreatDoorOaf
set_option linter.unusedSimpArgs false
set_option linter.unusedVariables false
namespace Go.Sl
open Go Go.Vc Go.Proofs Go.RowKit Go.Sort Go.Lib
theorem oE {m : Nat} (h : 10 <= m) : decDigits m = decDigits (m / 10) ++ [UInt8.ofNat (48 + m % 10)] := by
 rw [decDigits, dif_neg (by omega)]
theorem lh : ∀ (k m : Nat), m < 10 ^ (k + 1) -> (decDigits m).length <= k + 1
 | 0, m, h => by rw [decDigits_one (by simpa using h)]; simp
 | k + 1, m, h => by
  by_cases hm : m < 10
  ·rw [decDigits_one hm]; simp
  ·rw [oE (by omega), List.length_append];have := lh k (m / 10) (by rw [Nat.pow_succ] at h; omega);simpa using this
theorem gN (m : Nat) (h : m <= 9223372036854775808) : (decDigits m).length <= 19 := lh 18 m (by omega)
theorem bj {n : Int} (h0 : -9223372036854775808 <= n) (h1 : n <= 9223372036854775807) : (itoa n).length <= 20 := by
 unfold itoa;split
 ·have := gN n.natAbs (by omega);simpa using this
 ·have := gN n.toNat (by omega);omega
end Go.Sl
namespace Go.Sl
open Go Go.Vc Go.Proofs Go.RowKit
mutual
def wt : Tm -> Nat
 | .mk k n l => n.length + wts l + 1
def wts : List Tm -> Nat
 | [] => 0
 | t :: ts => wt t + wts ts
end
theorem bR (t : Tm) : wt t = t.name.length + wts t.kids + 1 := by cases t; rfl
theorem fJ {l : List Tm} {u : Tm} (h : u ∈ l) : wt u <= wts l := by
 induction l with
 | nil => cases h
 | cons t ts ih =>
  rw [wts];rcases List.mem_cons.1 h with rfl | h
  ·omega
  ·have := ih h; omega
theorem xj : ∀ t : Tm, t.size <= wt t := by
 intro t
 induction t using Tm.indk with
 | h t ih =>
 have key : ∀ l : List Tm, (∀ u ∈ l, u.size <= wt u) -> Tm.sizes l <= wts l := by
  intro l
  induction l with
  | nil => intro _; simp [Tm.sizes]
  | cons u l ihl =>
   intro h;have h1 := h u (List.mem_cons_self ..);have h2 := ihl fun v hv => h v (List.mem_cons_of_mem _ hv)
   rw [Tm.sizes, wts];omega
 have := key t.kids ih;rw [Tm.size_eq, bR];omega
theorem tu {n : Bs} (h : n.length <= 9223372036854775808) : (Tm.nameText n).length <= n.length + 20 := by
 unfold Tm.nameText;split
 ·simp
 ·have := gN n.length h;simp;omega
theorem D0 : ∀ t : Tm, Fit t -> t.text.length + 1 <= 26 * wt t := by
 intro t
 induction t using Tm.indk with
 | h t ih =>
 intro hf;have key' : ∀ l : List Tm, (∀ u ∈ l, u.text.length + 1 <= 26 * wt u) -> (Tm.texts' l).length <= 26 * wts l := by
  intro l
  induction l with
  | nil => intro _; simp [Tm.texts']
  | cons u l ihl =>
   intro h;have h1 := h u (List.mem_cons_self ..);have h2 := ihl fun v hv => h v (List.mem_cons_of_mem _ hv)
   rw [Tm.texts', wts];simp only [List.length_cons, List.length_append];omega
 have key : (Tm.texts t.kids).length <= 26 * wts t.kids := by
  have hk : ∀ u ∈ t.kids, u.text.length + 1 <= 26 * wt u := fun u hu => ih u hu (hf.kid hu)
  revert hk;generalize t.kids = l;intro hk;cases l with
  | nil => simp [Tm.texts]
  | cons u l =>
   have h1 := hk u (List.mem_cons_self ..);have h2 := key' l fun v hv => hk v (List.mem_cons_of_mem _ hv)
   rw [Tm.texts, wts];simp only [List.length_append];omega
 have hn := tu (n := t.name) (by have := hf.nlen; omega);rw [iB, bR];simp only [List.length_cons, List.length_append];split
 ·simp;omega
 ·simp;omega
end Go.Sl
namespace Go.Sl
open Go Go.Vc Go.Proofs Go.RowKit
theorem yr (l : List Tm) (d : Nat) : Tm.depths l <= d ↔ ∀ u ∈ l, u.depth <= d := by
 induction l with
 | nil => simp [Tm.depths]
 | cons t ts ih =>
  simp only [Tm.depths, List.mem_cons, forall_eq_or_imp, <- ih];omega
theorem yt (l : List Tm) (d : Nat) : m7 l d = true ↔ ∀ u ∈ l, dX u d = true := by
 induction l with
 | nil => simp [m7]
 | cons t ts ih => simp [m7, ih]
theorem tw : ∀ (t : Tm) (d : Nat), dX t d = true ↔ t.shp = true /\ t.depth <= d := by
 intro t
 induction t using Tm.indk with
 | h t ih =>
 intro d;cases d with
 | zero =>
  rw [me, fg];simp
 | succ d =>
  rw [iA, Bool.and_eq_true, yt, fg];have hs : t.shp = true ↔ (Tm.known t.kind && (Tm.named t.kind == !t.name.isEmpty) && (decide (Tm.arity t.kind < 0) || decide ((t.kids.length : Int) = Tm.arity t.kind))) = true /\ ∀ u ∈ t.kids, u.shp = true := by
   obtain ⟨k, n, l⟩ := t;rw [Tm.shp, Bool.and_eq_true, Tm.shps_iff];rfl
  rw [hs];have hd : Tm.depths t.kids + 1 <= d + 1 ↔ ∀ u ∈ t.kids, u.depth <= d := by rw [<- yr]; omega
  rw [hd]
  constructor
  ·rintro ⟨h1, h2⟩
   exact ⟨⟨h1, fun u hu => ((ih u hu d).1 (h2 u hu)).1⟩, fun u hu => ((ih u hu d).1 (h2 u hu)).2⟩
  ·rintro ⟨⟨h1, h2⟩, h3⟩
   exact ⟨h1, fun u hu => (ih u hu d).2 ⟨h2 u hu, h3 u hu⟩⟩
end Go.Sl
namespace Go.Sl
open Go Go.Vc Go.Proofs Go.RowKit
def gT : List (Nat × Nat) -> Nat -> Nat
 | [], k => k
 | (a, b) :: r, k => cond (Nat.beq a k) b (gT r k)
theorem tx (b : Bool) (l : List Tm) (hl : l.length * 48 <= 140737488355328) : K b 152 [lv l] (.fresh 26 3 (af l)) := by
 refine pcv { own := oO [5, 7, 2], fz := fun r => cond (Nat.beq r 2 || Nat.beq r 3) [2] [] } Tryz.func152 ?_;refine goM ?_;refine ⟨fun h => ?_, ?_⟩
 ·refine goM ?_;exact h.symm
 ·refine goM ?_;refine ⟨gD l, goM ?_⟩;refine ⟨by rw [ab]; show (0 + l.length) * 48 <= _; omega, goM ?_⟩;rfl
theorem A1 (b : Bool) (x y : Tm) : PM (cx b) 160 [(2000, .row 26 3 [TV x, TV y])] [.slc 2000] [(2000, .row 26 3 [TV y, TV x])] (.tupS []) := by
 refine aW (bo b) (bp b) { tr := trT [(3, [0, 0, 0, 0, 0, 0, 48, 112, 0, 0, 768, 1792, 4083, 8179, 16383, 32767], qQ [0, 1, 4, 5, 6, 7, 8, 9, 10, 11, 12] (.alt (.one 2 (.alt (qQ [3, 13, 14, 15] .fin) (qQ [13, 3, 14, 15] .fin))) (.alt (.one 3 (.alt (qQ [2, 13, 14, 15] .fin) (qQ [13, 2, 14, 15] .fin))) (qQ [13, 2, 3, 14, 15] .fin))))] } Tryz.func160 (by kernel_rfl) rfl rfl (by kernel_rfl) rfl (goM ?_);refine ⟨1, rfl, goM ?_⟩;refine ⟨Bool, fun q => S.of [(0, .slc 2000), (2, iv (cond q 1 0)), (3, iv (cond q 0 1))] [(2000, .row 26 3 (cond q [TV y, TV x] [TV x, TV y]))], fun q => cond q 0 1, false, ?_, ?_⟩
 ·exact Ge.go
 intro q;cases q with
 | false =>
  refine goM ?_;refine ⟨TV y, rfl, rfl, rfl, rfl, goM ?_⟩;refine ⟨TV x, rfl, rfl, rfl, rfl, ?_⟩
  repeat' ((conv => whnf); first | refine sS ?_ | refine aQ ?_ ?_)
  all_goals (conv => whnf)
  all_goals refine ⟨1, rfl, ?_⟩
  repeat' ((conv => whnf); first | refine sS ?_ | refine aQ ?_ ?_)
  all_goals (conv => whnf)
  all_goals refine ⟨0, rfl, ?_⟩
  repeat' ((conv => whnf); first | refine sS ?_ | refine aQ ?_ ?_)
  all_goals (conv => whnf)
  all_goals refine ⟨true, ?_, by decide⟩
  all_goals refine Ge.of rfl ?_ ?_
  all_goals repeat (conv => whnf); first | refine ⟨LE.of rfl, ?_⟩ | refine ⟨OLE.of rfl, ?_⟩
  all_goals trivial
 | true =>
  refine goM ?_;exact rR id (rfl)
end Go.Sl
namespace Go.Sl
open Go Go.Vc Go.Proofs Go.RowKit
def eD (k : Int) (n : Bs) : List Tm -> Tm
 | [x, y] => if k = 9 /\ lg y x = true then .mk k n [y, x] else .mk k n [x, y]
 | l => .mk k n l
mutual
def aL : Tm -> Tm
 | .mk k n l => eD k n (xm l)
def xm : List Tm -> List Tm
 | [] => []
 | t :: ts => aL t :: xm ts
end
theorem yu (l : List Tm) : xm l = l.map aL := by
 induction l with
 | nil => rfl
 | cons t l ih => rw [xm, ih]; rfl
theorem eU (t : Tm) : aL t = eD t.kind t.name (t.kids.map aL) := by cases t; rw [aL, yu]; rfl
theorem dG (k : Int) (n : Bs) (l : List Tm) : (eD k n l).kind = k /\ (eD k n l).name = n /\ ((eD k n l).kids = l \/ ∃ x y, l = [x, y] /\ (eD k n l).kids = [y, x]) := by
 unfold eD;split
 ·split
  ·exact ⟨rfl, rfl, .inr ⟨_, _, rfl, rfl⟩⟩
  ·exact ⟨rfl, rfl, .inl rfl⟩
 ·exact ⟨rfl, rfl, .inl rfl⟩
theorem D3 {l : List Tm} (h : ∀ u ∈ l, wt (aL u) = wt u) : wts (l.map aL) = wts l := by
 induction l with
 | nil => rfl
 | cons t l ih =>
  simp only [List.map_cons, wts];rw [h t (List.mem_cons_self ..), ih fun u hu => h u (List.mem_cons_of_mem _ hu)]
theorem rG : ∀ t : Tm, wt (aL t) = wt t := by
 intro t
 induction t using Tm.indk with
 | h t ih =>
 rw [eU];obtain ⟨h1, h2, h3⟩ := dG t.kind t.name (t.kids.map aL);have hm := D3 ih;rw [bR, bR t, h2];rcases h3 with h3 | ⟨x, y, h3, h4⟩
 ·rw [h3, hm]
 ·rw [h4, <- hm, h3];simp only [wts];omega
theorem Fit.of {t : Tm} (h1 : t.kids.length <= 9223372036854775807) (h2 : t.name.length <= 9223372036854775807) (h3 : ∀ u ∈ t.kids, Fit u) : Fit t := by cases t; exact Fit.mk h1 h2 h3
theorem nA : ∀ t : Tm, Fit t -> Fit (aL t) := by
 intro t
 induction t using Tm.indk with
 | h t ih =>
 intro hf;rw [eU];obtain ⟨h1, h2, h3⟩ := dG t.kind t.name (t.kids.map aL);have hl := hf.len;have hk : ∀ u ∈ t.kids.map aL, Fit u := fun u hu => by
  obtain ⟨v, hv, rfl⟩ := List.mem_map.1 hu;exact ih v hv (hf.kid hv)
 refine Fit.of ?_ (by rw [h2]; exact hf.nlen) ?_
 ·rcases h3 with h3 | ⟨x, y, h3, h4⟩
  ·rw [h3, List.length_map]; exact hl
  ·rw [h4]; simp
 ·rcases h3 with h3 | ⟨x, y, h3, h4⟩
  ·rw [h3]; exact hk
  ·rw [h4];rw [h3] at hk;intro u hu;simp only [List.mem_cons, List.not_mem_nil, or_false] at hu;rcases hu with rfl | rfl
   ·exact hk _ (by simp)
   ·exact hk _ (by simp)
theorem dn {t : Tm} (hf : Fit t) (hw : wt t <= 1000000000) : t.text.length <= 1099511627776 := by
 have := D0 t hf;omega
def ep (l : List Tm) (i : Nat) : List Tm := (l.take i).map aL ++ l.drop i
theorem D4 {l : List Tm} {i : Nat} (h : i < l.length) : (af (ep l i))[i]? = some (TV l[i]) := by
 rw [cw, List.getElem?_map, ep, List.getElem?_append_right (by simp; omega)];simp [Nat.min_eq_left (Nat.le_of_lt h), List.getElem?_drop, h]
theorem D5 {l : List Tm} {i : Nat} (h : i < l.length) : (af (ep l i)).set i (TV (aL l[i])) = af (ep l (i + 1)) := by
 rw [cw, cw, <- List.map_set]
 congr 1
 rw [ep, ep, List.set_append_right _ _ (by simp; omega), show i - ((l.take i).map aL).length = 0 by simp; omega, List.drop_eq_getElem_cons h, List.set_cons_zero, List.take_succ_eq_append_getElem h, List.map_append, List.append_assoc];rfl
theorem rH (l : List Tm) (i : Nat) : (af (ep l i)).length = l.length := by
 rw [ab, ep];simp;omega
theorem D6 (l : List Tm) : ep l l.length = l.map aL := by simp [ep]
theorem tz : ∀ t, Fit t -> wt t <= 1000000000 -> K true 112 [tv t] (.pv (TV (aL t))) := by
 intro t
 induction t using Tm.indk with
 | h t ih =>
 intro hf hw;have hsw := xj t;have hkl : t.kids.length <= 1000000000 := by
  have h1 := bR t;have : ∀ l : List Tm, l.length <= wts l := by
   intro l
   induction l with
   | nil => simp
   | cons u l ih => have := bR u; simp only [List.length_cons, wts]; omega
  have := this t.kids;omega
 refine pcv { own := oO [7, 100046], kp := kpT [(5, [1, 2, 3, 4, 10, 11, 12], [1, 2, 4, 7]), (7, [1, 2], [1, 2, 7])] } Tryz.func112 ?_;refine goM ?_;refine cC (tx true t.kids (by omega)) (goM ?_);refine ⟨{ i : Nat // i <= t.kids.length }, fun i => S.of [(1, .ptr 1 0), (2, .ptr 2 0), (10, .slc 7), (11, iv ((af t.kids).length : Int)), (12, iv (i.1 : Int))] [(1, .var true 26 (.mix [.p (.int .i64 t.kind), .p (.str t.name), .slc 7])), (2, .var true 26 (.p mc.zero)), (7, .row 26 3 (af (ep t.kids i.1)))], fun i => t.kids.length - i.1, ⟨0, Nat.zero_le _⟩, ?_, ?_⟩
 ·exact Ge.go
 rintro ⟨i, hi⟩
 refine goM ?_;refine aa ?_ ?_ <;> intro h1
 ·have hlt : i < t.kids.length := by have := of_decide_eq_true h1; rw [ab] at this; exact Int.ofNat_lt.1 this
  refine goM ?_;refine ⟨Int.natCast_nonneg _, by show i < (af (ep t.kids i)).length; rw [rH]; exact hlt, goM ?_⟩;refine ⟨TV t.kids[i], D4 hlt, rfl, rfl, rfl, goM ?_⟩;refine cC (ih t.kids[i] (List.getElem_mem hlt) (hf.kid (List.getElem_mem hlt)) (by have := fJ (List.getElem_mem hlt); have := bR t; omega)) (goM ?_);refine ⟨Int.natCast_nonneg _, by show i < (af (ep t.kids i)).length; rw [rH]; exact hlt, goM ?_⟩;refine ⟨by show i < (af (ep t.kids i)).length; rw [rH]; exact hlt, rfl, rfl, rfl, goM ?_⟩;refine ⟨_, aq (n := i + 1) rfl (by omega), goM ?_⟩;refine ⟨⟨i + 1, hlt⟩, ?_, by show t.kids.length - (i + 1) < t.kids.length - i; omega⟩;refine Ge.of rfl ?_ ?_
  ·repeat (conv => whnf); refine ⟨LE.of rfl, ?_⟩
   trivial
  ·repeat (conv => whnf); first | refine ⟨OLE.of rfl, ?_⟩ | refine ⟨OLE.of (congrArg (AO.row 26 3) (D5 hlt)), ?_⟩
   trivial
 ·have hge : i = t.kids.length := by have h1 := of_decide_eq_false h1; rw [ab] at h1; have h1 : ¬ (i : Int) < (t.kids.length : Int) := h1; omega
  have hL : ep t.kids i = t.kids.map aL := by rw [hge]; exact D6 _
  have hcan : aL t = eD t.kind t.name (ep t.kids i) := by rw [hL]; exact eU t
  have hfin : (∀ x y, ep t.kids i = [x, y] -> ¬ (t.kind = 9 /\ lg y x = true)) -> TV (.mk t.kind t.name (ep t.kids i)) = TV (aL t) := by
   intro h;rw [hcan];unfold eD;split
   ·rename_i x y e;rw [if_neg (h x y e), e]
   ·rfl
  refine goM ?_;refine aa ?_ ?_ <;> intro h2
  ·have h2 : t.kind = 9 := of_decide_eq_true h2;refine goM ?_;refine aa ?_ ?_ <;> intro h3
   ·have h3 : (ep t.kids i).length = 2 := by have := of_decide_eq_true h3; rw [ab] at this; exact Int.ofNat_inj.1 this
    obtain ⟨x, y, hxy⟩ : ∃ x y, ep t.kids i = [x, y] := by
     match ep t.kids i, h3 with
     | [x, y], _ => exact ⟨x, y, rfl⟩
    have hrow : af (ep t.kids i) = [TV x, TV y] := by rw [hxy]; exact (cK x y).symm
    have hmem : ∀ u ∈ ep t.kids i, Fit u /\ wt u <= 1000000000 := fun u hu => by
     rw [hL] at hu;obtain ⟨v, hv, rfl⟩ := List.mem_map.1 hu;exact ⟨nA v (hf.kid hv), by rw [rG]; have := fJ hv; have := bR t; omega⟩
    have hx := hmem x (by rw [hxy]; simp);have hy := hmem y (by rw [hxy]; simp);have hless := xi y x hy.1 hx.1 (fun _ => dn hy.1 hy.2) (fun _ => dn hx.1 hx.2);refine goM ?_;refine ⟨by show 1 < (af (ep t.kids i)).length; rw [hrow]; simp, goM ?_⟩;refine ⟨TV y, by show (af (ep t.kids i))[1]? = _; rw [hrow]; rfl, rfl, rfl, rfl, goM ?_⟩;refine ⟨by show 0 < (af (ep t.kids i)).length; rw [hrow]; simp, goM ?_⟩;refine ⟨TV x, by show (af (ep t.kids i))[0]? = _; rw [hrow]; rfl, rfl, rfl, rfl, goM ?_⟩;refine cC hless (goM ?_);refine aa ?_ ?_ <;> intro h4
    ·have h4 : lg y x = true := h4;refine goM ?_;refine ⟨_, ac.pr (gT [(2000, 7)]) (A1 true x y) ⟨LE.of rfl, trivial⟩ (by (conv => whnf); exact ⟨.inr (.inl (congrArg (AO.row 26 3) hrow)), trivial⟩) rfl, goM ?_⟩;refine LEP.of ((Hl (cK y x)).trans (congrArg TV ?_));rw [hcan, hxy];exact (if_pos ⟨h2, h4⟩).symm
    ·have h4 : lg y x = false := h4;refine goM ?_;exact LEP.of (hfin fun x' y' e h => by
      rw [hxy] at e;cases e;rw [h4] at h;cases h.2)
   ·have h3 : ¬ (ep t.kids i).length = 2 := by have := of_decide_eq_false h3; rw [ab] at this; exact fun e => this (congrArg Int.ofNat e)
    refine goM ?_;exact LEP.of (hfin fun x y e => absurd (congrArg List.length e) h3)
  ·have h2 : ¬ t.kind = 9 := of_decide_eq_false h2;refine goM ?_;exact LEP.of (hfin fun x y e h => h2 h.1)
end Go.Sl
namespace Go.Sl
open Go Go.Vc Go.Proofs Go.RowKit
def isM (S : List Bs) : List (MK × PV) := S.map fun s => (.s s, .bool true)
def mdM (D : List (Bs × Bool)) : List (MK × PV) := D.map fun x => (.s x.1, .bool x.2)
theorem gE (s : Bs) (S : List Bs) : iW (.s s) (isM S) = if s ∈ S then some (.bool true) else none := by
 induction S with
 | nil => rfl
 | cons x S ih =>
  show (if MK.s s = MK.s x then some (PV.bool true) else iW (.s s) (isM S)) = _
  by_cases e : s = x
  ·subst e; simp
  ·rw [if_neg (fun h => e (by injection h)), ih];simp [e]
theorem D7 {s : Bs} {S : List Bs} (h : s ∉ S) : kh (.s s) (.bool true) (isM S) = isM (S ++ [s]) := by
 induction S with
 | nil => rfl
 | cons x S ih =>
  simp only [List.mem_cons, not_or] at h;show (if MK.s s = MK.s x then (MK.s s, PV.bool true) :: isM S else (MK.s x, PV.bool true) :: kh (.s s) (.bool true) (isM S)) = _;rw [if_neg (fun e => h.1 (by injection e)), ih h.2];rfl
theorem jP (s : Bs) (D : List (Bs × Bool)) : iW (.s s) (mdM D) = (D.lookup s).map .bool := by
 induction D with
 | nil => rfl
 | cons x D ih =>
  obtain ⟨k, b⟩ := x;show (if MK.s s = MK.s k then some (PV.bool b) else iW (.s s) (mdM D)) = _
  by_cases e : s = k
  ·subst e; simp [List.lookup]
  ·have hb : (s == k) = false := beq_eq_false_iff_ne.2 e;rw [if_neg (fun h => e (by injection h)), ih];simp [List.lookup, hb]
abbrev KS (L : List Tm) (S : List Bs) (D : List (Bs × Bool)) : List (Nat × AO) :=
 [(2000, .var true 176 (.mix [.slc 1001, .slc 2002, .slc 2003])), (1001, .row 26 3 (af L)), (2002, .mp 174 true (isM S)), (2003, .mp 174 true (mdM D))]
abbrev KP (L : List Tm) (S : List Bs) (D : List (Bs × Bool)) : List (Nat × AO) :=
 [(2000, .var true 176 (.mix [.slc 2001, .slc 2002, .slc 2003])), (2001, .row 26 3 (af L)), (2002, .mp 174 true (isM S)), (2003, .mp 174 true (mdM D))]
structure Kn where
 l : List Tm
 s : List Bs
 d : List (Bs × Bool)
abbrev Kn.obs (k : Kn) : List (Nat × AO) := KS k.l k.s k.d
def cq (k : Kn) (t : Tm) : Kn := if aG (aL t) = [] \/ aG (aL t) ∈ k.s then k else ⟨k.l ++ [aL t], k.s ++ [aG (aL t)], []⟩
theorem A2 (k : Kn) (t : Tm) (hf : Fit t) (hw : wt t <= 1000000000) (hl : k.l.length <= 1000000000) :
  PM (cx true) 110 k.obs [.ptr 2000 0, tv t] (cq k t).obs (.tupS []) := by
 have hc := tz t hf hw;have fc := nA t hf;have wc : wt (aL t) <= 1000000000 := by rw [rG]; exact hw
 have hT := lf (aL t) fc fun _ => dn fc wc
 obtain ⟨u, hu⟩ : ∃ u, u = aL t := ⟨_, rfl⟩
 rw [<- hu] at hc fc wc hT;obtain ⟨L, S, D⟩ := k;refine aW (bo true) (bp true) { own := oO [31], kp := kpT [(5, [0, 3, 4], [3, 2000, 1001, 2002, 2003])], tr := trT [(5, [0, 1, 3, 7, 0, 15, 0, 127, 255, 511, 255, 1279, 3327], qQ [0, 1, 2, 3, 4, 5, 6, 7] (.alt (.one 8 (.alt (qQ [9, 10, 11, 12] .fin) (.one 10 (.alt (qQ [9, 11, 12] .fin) (.one 11 (.alt (qQ [9, 12] .fin) (qQ [12, 9] .fin))))))) (.one 10 (.alt (.one 8 (.alt (qQ [9, 11, 12] .fin) (.one 11 (.alt (qQ [9, 12] .fin) (qQ [12, 9] .fin))))) (.one 11 (.alt (.one 8 (.alt (qQ [9, 12] .fin) (qQ [12, 9] .fin))) (qQ [12, 8, 9] .fin)))))))] } Tryz.func110 (by kernel_rfl) rfl rfl (by kernel_rfl) ?_ ?_
 ·unfold cq;split <;> rfl
 have hk : cq ⟨L, S, D⟩ t = if aG u = [] \/ aG u ∈ S then ⟨L, S, D⟩ else ⟨L ++ [u], S ++ [aG u], []⟩ := by rw [hu]; rfl
 rw [hk];refine goM ?_;refine cC hc (goM ?_);refine cC hT (goM ?_);refine aa ?_ ?_ <;> intro h1
 ·have h1 : aG u = [] := of_decide_eq_true h1;rw [if_pos (.inl h1)];refine goM ?_;exact rR id (rfl)
 ·have h1 : ¬ aG u = [] := of_decide_eq_false h1;refine goM ?_;refine ⟨_, gE (aG u) S, ?_⟩
  by_cases h2 : aG u ∈ S
  ·rw [if_pos h2, if_pos (.inr h2)];refine goM ?_;exact rR id (rfl)
  ·rw [if_neg h2, if_neg (fun h => h.elim h1 h2)];have hlt : (af L).length < (af L ++ [PV.agg [.int .i64 0, .str [], .nilS]]).length := by simp
   have hset : (af L ++ [PV.agg [.int .i64 0, .str [], .nilS]]).set (af L).length (TV u) = af (L ++ [u]) := by
    rw [List.set_append_right _ _ (Nat.le_refl _), Nat.sub_self, List.set_cons_zero, dR, <- aO]
   refine goM ?_;refine ⟨by show ((af L).length + 1) * 48 <= _; rw [ab]; have hl : L.length <= 1000000000 := hl; omega, ?_⟩
   repeat' ((conv => whnf); first | refine sS ?_ | refine aQ ?_ ?_ | refine ⟨Int.natCast_nonneg _, hlt, ?_⟩ | refine ⟨hlt, rfl, rfl, rfl, ?_⟩ | fail)
   all_goals (conv => whnf)
   all_goals exact ⟨id, rfl, ⟨.inr (.inl rfl), .inr (.inl (congrArg (AO.row 26 3) hset)), .inr (.inl (congrArg (AO.mp 174 true) (D7 h2))), .inr (.inl rfl), trivial⟩, rfl, rfl⟩
end Go.Sl
namespace Go.Sl
open Go Go.Vc Go.Proofs Go.RowKit
def oF (q : Tm -> Bool) (l : List Tm) : Nat := min l.length ((l.takeWhile q).length + 1)
theorem lj {q : Tm -> Bool} : ∀ {l : List Tm} {i : Nat} (hi : i < l.length), (∀ u ∈ l.take i, q u = true) -> q l[i] = false -> (l.takeWhile q).length = i
 | [], i, hi, _, _ => by simp at hi
 | t :: l, 0, hi, _, h => by
  simp at h;simp [List.takeWhile, h]
 | t :: l, i + 1, hi, h1, h2 => by
  have ht := h1 t (by simp);simp only [List.takeWhile, ht];rw [List.length_cons, lj (i := i) (by simpa using hi) (fun u hu => h1 u (by simp [hu])) (by simpa using h2)]
theorem pK {q : Tm -> Bool} {l : List Tm} (h : ∀ u ∈ l, q u = true) : (l.takeWhile q).length = l.length := by
 induction l with
 | nil => rfl
 | cons t l ih => simp only [List.takeWhile, h t (List.mem_cons_self ..), List.length_cons]; rw [ih fun u hu => h u (List.mem_cons_of_mem _ hu)]
def gid : Nat -> Nat := fun k => k
theorem FZ (L : List Tm) (S : List Bs) (q : Tm -> Bool) (l : List Tm) (Ds : Nat -> List (Bs × Bool)) (hl : l.length <= 9223372036854775807)
  (h : ∀ i (hi : i < l.length), PM (cx true) 111 (KP L S (Ds i)) [.ptr 2000 0, tv l[i]] (KP L S (Ds (i + 1))) (.p (.bool (q l[i])))) :
  PM (cx true) 109 (KP L S (Ds 0)) [.ptr 2000 0, lv l] (KP L S (Ds (oF q l))) (.p (.bool (l.all q))) := by
 refine aW (bo true) (bp true) { own := oO [100015] } Tryz.func109 (by kernel_rfl) rfl rfl (by kernel_rfl) rfl (goM ?_);refine ⟨{ i : Nat // i <= l.length /\ ∀ u ∈ l.take i, q u = true }, fun i => Vc.S.of [(0, .ptr 2000 0), (4, .p (.bool false)), (7, lv l), (8, iv ((af l).length : Int)), (9, iv (i.1 : Int))] (KP L S (Ds i.1)), fun i => l.length - i.1, ⟨0, Nat.zero_le _, by simp⟩, ?_, ?_⟩
 ·exact Ge.go
 rintro ⟨i, hi, hq⟩
 refine goM ?_;refine aa ?_ ?_ <;> intro h1
 ·have hlt : i < l.length := by have := of_decide_eq_true h1; rw [ab] at this; exact Int.ofNat_lt.1 this
  refine goM ?_;refine ⟨Int.natCast_nonneg _, TV l[i], bQ hlt, rfl, rfl, goM ?_⟩;refine ⟨_, ac.pr gid (h i hlt) ⟨LE.of rfl, LE.of rfl, trivial⟩ ⟨.inr (.inl rfl), .inr (.inl rfl), .inr (.inl rfl), .inr (.inl rfl), trivial⟩ rfl, goM ?_⟩;refine aa ?_ ?_ <;> intro h2
  ·have h2 : q l[i] = false := by have h2 : (!q l[i]) = true := h2; revert h2; cases q l[i] <;> simp
   have hstop : oF q l = i + 1 := by rw [oF, lj hlt hq h2]; omega
   have hall : l.all q = false := by
    rw [<- Bool.not_eq_true, List.all_eq_true];intro hc;rw [hc _ (List.getElem_mem hlt)] at h2;cases h2
   rw [hstop, hall];refine goM ?_;exact rR gid
  ·have h2 : q l[i] = true := by have h2 : (!q l[i]) = false := h2; revert h2; cases q l[i] <;> simp
   refine goM ?_;refine ⟨_, aq (n := i + 1) rfl (by omega), goM ?_⟩;refine ⟨⟨i + 1, hlt, fun u hu => ?_⟩, ?_, by show l.length - (i + 1) < l.length - i; omega⟩
   ·rw [List.take_succ_eq_append_getElem hlt, List.mem_append] at hu;rcases hu with hu | hu
    ·exact hq u hu
    ·rw [List.mem_singleton.1 hu]; exact h2
   ·exact Ge.go
 ·have hge : i = l.length := by have h1 := of_decide_eq_false h1; rw [ab] at h1; have h1 : ¬ (i : Int) < (l.length : Int) := h1; omega
  have hq : ∀ u ∈ l, q u = true := fun u hu => hq u (by show u ∈ l.take i; rw [hge, List.take_length]; exact hu)
  have hstop : oF q l = i := by rw [oF, pK hq]; omega
  have hall : l.all q = true := List.all_eq_true.2 hq;rw [hstop, hall];refine goM ?_;exact rR gid
end Go.Sl
namespace Go.Sl
open Go Go.Vc Go.Proofs Go.RowKit
abbrev dY (t : Tm) : Tm := .mk 8 [] [t]
def mkF : Nat -> List Bs -> Tm -> Bool
 | 0, _, _ => false
 | n + 1, S, t => if aG t = [] then false else if aG t ∈ S then true else if t.kind = 1 then true else if t.kind = 2 then false else if t.kind = 9 then
   (match t.kids with | [x, y] => (mkF n S x && mkF n S (dY y)) || (mkF n S y && mkF n S (dY x)) | _ => false) else t.kids.all (mkF n S)
def mkB (S : List Bs) (t : Tm) : Bool := mkF t.size S t
theorem size_mem {t u : Tm} (h : u ∈ t.kids) : u.size < t.size := by
 rw [Tm.size_eq t];have : ∀ l : List Tm, u ∈ l -> u.size <= Tm.sizes l := by
  intro l
  induction l with
  | nil => intro h; cases h
  | cons v l ih =>
   intro h;simp only [Tm.sizes];cases h with
   | head => omega
   | tail _ h => have := ih h; omega
 have := this _ h;omega
theorem ll {t x y : Tm} (h : t.kids = [x, y]) : (dY x).size < t.size /\ (dY y).size < t.size := by
 rw [Tm.size_eq t, h];simp only [Tm.size, Tm.sizes];have hx : 0 < x.size := by cases x; simp [Tm.size]
 have hy : 0 < y.size := by cases y; simp [Tm.size]
 omega
theorem tA (S : List Bs) : ∀ (n m : Nat) (t : Tm), t.size <= n -> t.size <= m -> mkF n S t = mkF m S t
 | 0, _, t, h, _ => by have : 0 < t.size := (by cases t; simp [Tm.size];); omega
 | _, 0, t, _, h => by have : 0 < t.size := (by cases t; simp [Tm.size];); omega
 | n + 1, m + 1, t, h1, h2 => by
  have hk : ∀ u, u.size < t.size -> mkF n S u = mkF m S u := fun u hu => tA S n m u (by omega) (by omega)
  simp only [mkF]
  congr 4
  ·congr 1
   split
   ·rename_i x y e;have hp := ll e;rw [hk x (size_mem (by rw [e]; simp)), hk y (size_mem (by rw [e]; simp)), hk _ hp.1, hk _ hp.2]
   ·rfl
   ·rw [Bool.eq_iff_iff, List.all_eq_true, List.all_eq_true];exact ⟨fun h u hu => by rw [<- hk u (size_mem hu)]; exact h u hu, fun h u hu => by rw [hk u (size_mem hu)]; exact h u hu⟩
theorem jr (S : List Bs) (t : Tm) : mkB S t = if aG t = [] then false else if aG t ∈ S then true else if t.kind = 1 then true else if t.kind = 2 then false else if t.kind = 9 then
      (match t.kids with | [x, y] => (mkB S x && mkB S (dY y)) || (mkB S y && mkB S (dY x)) | _ => false) else t.kids.all (mkB S) := by
 obtain ⟨n, hn⟩ : ∃ n, t.size = n + 1 := ⟨t.size - 1, by have : 0 < t.size := (by cases t; simp [Tm.size]); omega⟩
 have hk : ∀ u, u.size < t.size -> mkF n S u = mkB S u := fun u hu => tA S _ _ u (by omega) (Nat.le_refl _)
 rw [mkB, hn];simp only [mkF]
 congr 4
 congr 1
 ·split
  ·rename_i x y e;have hp := ll e;rw [hk x (size_mem (by rw [e]; simp)), hk y (size_mem (by rw [e]; simp)), hk _ hp.1, hk _ hp.2]
  ·rfl
 ·rw [Bool.eq_iff_iff, List.all_eq_true, List.all_eq_true];exact ⟨fun h u hu => by rw [<- hk u (size_mem hu)]; exact h u hu, fun h u hu => by rw [hk u (size_mem hu)]; exact h u hu⟩
def js (s : Bs) (b : Bool) : List (Bs × Bool) -> List (Bs × Bool)
 | [] => [(s, b)]
 | (k, c) :: r => if s = k then (s, b) :: r else (k, c) :: js s b r
theorem jt (s : Bs) (b : Bool) (D : List (Bs × Bool)) : kh (.s s) (.bool b) (mdM D) = mdM (js s b D) := by
 induction D with
 | nil => rfl
 | cons x D ih =>
  obtain ⟨k, c⟩ := x;show (if MK.s s = MK.s k then (MK.s s, PV.bool b) :: mdM D else (MK.s k, PV.bool c) :: kh (.s s) (.bool b) (mdM D)) = _
  by_cases e : s = k
  ·subst e; rw [if_pos rfl, js, if_pos rfl]; rfl
  ·rw [if_neg (fun h => e (by injection h)), ih, js, if_neg e]; rfl
theorem tB (s s' : Bs) (b : Bool) (D : List (Bs × Bool)) : (js s b D).lookup s' = if s' = s then some b else D.lookup s' := by
 induction D with
 | nil =>
  by_cases e : s' = s
  ·subst e; simp [js, List.lookup]
  ·have hb : (s' == s) = false := beq_eq_false_iff_ne.2 e;simp [js, List.lookup, hb, e]
 | cons x D ih =>
  obtain ⟨k, c⟩ := x
  by_cases e : s = k
  ·subst e
   by_cases e2 : s' = s
   ·subst e2; simp [js, List.lookup]
   ·have hb : (s' == s) = false := beq_eq_false_iff_ne.2 e2;simp [js, List.lookup, hb, e2]
  ·rw [js, if_neg e]
   by_cases e2 : s' = k
   ·subst e2;have : ¬ s' = s := fun h => e h.symm
    simp [List.lookup, this]
   ·have hb : (s' == k) = false := beq_eq_false_iff_ne.2 e2;simp only [List.lookup, hb, ih]
def DOk (S : List Bs) (D : List (Bs × Bool)) : Prop := ∀ u b, aG u ≠ [] -> D.lookup (aG u) = some b -> b = mkB S u
theorem tC {t u : Tm} (h0 : aG t ≠ []) (h : aG t = aG u) : t = u := by
 have h1 : dX t 60 = true := by
  cases e : dX t 60 with
  | true => rfl
  | false => rw [aG, e] at h0; exact absurd rfl h0
 have h2 : dX u 60 = true := by
  cases e : dX u 60 with
  | true => rfl
  | false => rw [h, aG, e] at h0; exact absurd rfl h0
 rw [aG, if_pos h1, aG, if_pos h2] at h;exact (Tm.text_inj t u [] [] (cU t 60 h1) (cU u 60 h2) (by rw [h])).1
theorem DOk.put {S : List Bs} {D : List (Bs × Bool)} (h : DOk S D) (t : Tm) : DOk S (js (aG t) (mkB S t) D) := by
 intro u b hu hb;rw [tB] at hb;split at hb
 ·rename_i e;cases hb;rw [tC hu e]
 ·exact h u b hu hb
theorem DOk.nil (S : List Bs) : DOk S [] := fun u b _ h => by cases h
theorem tD (L : List Tm) (S : List Bs) : ∀ (l : List Tm) (D : List (Bs × Bool)), DOk S D ->
  (∀ u ∈ l, ∀ D, DOk S D -> ∃ D', DOk S D' /\ PM (cx true) 111 (KP L S D) [.ptr 2000 0, tv u] (KP L S D') (.p (.bool (mkB S u)))) ->
  ∃ Ds : Nat -> List (Bs × Bool), Ds 0 = D /\ (∀ i, i <= l.length -> DOk S (Ds i)) /\ ∀ i (hi : i < l.length), PM (cx true) 111 (KP L S (Ds i)) [.ptr 2000 0, tv l[i]] (KP L S (Ds (i + 1))) (.p (.bool (mkB S l[i])))
 | [], D, hD, _ => ⟨fun _ => D, rfl, fun _ _ => hD, fun i hi => by simp at hi⟩
 | u :: l, D, hD, h => by
  obtain ⟨D1, h1, h2⟩ := h u (List.mem_cons_self ..) D hD;obtain ⟨Ds, g1, g2, g3⟩ := tD L S l D1 h1 fun v hv => h v (List.mem_cons_of_mem _ hv)
  refine ⟨fun i => match i with | 0 => D | i + 1 => Ds i, rfl, fun i hi => ?_, fun i hi => ?_⟩
  ·cases i with
   | zero => exact hD
   | succ i => exact g2 i (by simpa using hi)
  ·cases i with
   | zero => simp only [List.getElem_cons_zero]; rw [g1]; exact h2
   | succ i => exact g3 i (by simpa using hi)
theorem D8 (q : Tm -> Bool) (l : List Tm) : oF q l <= l.length := Nat.min_le_left _ _
theorem nB (L : List Tm) (S : List Bs) (l : List Tm) (D : List (Bs × Bool)) (hD : DOk S D) (hl : l.length <= 9223372036854775807)
  (h : ∀ u ∈ l, ∀ D, DOk S D -> ∃ D', DOk S D' /\ PM (cx true) 111 (KP L S D) [.ptr 2000 0, tv u] (KP L S D') (.p (.bool (mkB S u)))) :
  ∃ D', DOk S D' /\ PM (cx true) 109 (KP L S D) [.ptr 2000 0, lv l] (KP L S D') (.p (.bool (l.all (mkB S)))) := by
 obtain ⟨Ds, g1, g2, g3⟩ := tD L S l D hD h;refine ⟨Ds (oF (mkB S) l), g2 _ (D8 _ _), ?_⟩;have := FZ L S (mkB S) l Ds hl g3
 rwa [g1] at this
end Go.Sl
namespace Go.Sl
open Go Go.Vc Go.Proofs Go.RowKit
theorem vU (b : Bool) (k : Tm) : K b 158 [tv k] (.pv (TV (dY k))) := by
 refine pcv {} Tryz.func158 ?_;refine goM ?_;refine cC (fG b 8 [] _ [k] (dR k) (by simp)) (goM ?_);exact LEP.refl _
theorem rI {t : Tm} (h : ¬ aG t = []) : dX t 60 = true := by
 cases e : dX t 60 with
 | true => rfl
 | false => rw [aG, e] at h; exact absurd rfl h
theorem oG (L : List Tm) (S : List Bs) : ∀ (n : Nat) (t : Tm), t.size <= n -> Fit t -> wt t <= 1000000000 -> ∀ D, DOk S D -> ∃ D', DOk S D' /\ PM (cx true) 111 (KP L S D) [.ptr 2000 0, tv t] (KP L S D') (.p (.bool (mkB S t)))
 | 0, t, hn, _, _, _, _ => by
  have : 0 < t.size := by cases t; simp [Tm.size]
  omega
 | n + 1, t, hn, hf, hw, D, hD => by
  have ih : ∀ u, u.size < t.size -> Fit u -> wt u <= wt t -> ∀ D, DOk S D -> ∃ D', DOk S D' /\ PM (cx true) 111 (KP L S D) [.ptr 2000 0, tv u] (KP L S D') (.p (.bool (mkB S u))) :=
   fun u hu fu hwu D hD => oG L S n u (by omega) fu (by omega) D hD
  have ihk : ∀ u ∈ t.kids, ∀ D, DOk S D -> ∃ D', DOk S D' /\ PM (cx true) 111 (KP L S D) [.ptr 2000 0, tv u] (KP L S D') (.p (.bool (mkB S u))) :=
   fun u hu => ih u (size_mem hu) (hf.kid hu) (by have := fJ hu; have := bR t; omega)
  have hT := lf t hf fun _ => dn hf hw
  have hmk := jr S t
  -- how it is told what follows, for whatever is found out last
  have start : ∀ (D2 : List (Bs × Bool)), True := fun _ => trivial
  by_cases h1 : aG t = []
  ·refine ⟨D, hD, ?_⟩;rw [hmk, if_pos h1];refine aW (bo true) (bp true) {} Tryz.func111 (by kernel_rfl) rfl rfl (by kernel_rfl) rfl (goM ?_);refine cC hT ?_;rw [h1];refine goM ?_;exact rR gid
  ·by_cases h2 : aG t ∈ S
   ·refine ⟨D, hD, ?_⟩;rw [hmk, if_neg h1, if_pos h2];refine aW (bo true) (bp true) {} Tryz.func111 (by kernel_rfl) rfl rfl (by kernel_rfl) rfl (goM ?_);refine cC hT (goM ?_);refine aa ?_ ?_ <;> intro h3
    ·exact absurd (of_decide_eq_true h3) h1
    refine goM ?_;refine ⟨_, gE (aG t) S, ?_⟩;rw [if_pos h2];refine goM ?_;refine ⟨gid, ⟨rfl, LE.of (congrArg (fun b => SV.p (PV.bool b)) (decide_eq_true h1))⟩, ⟨.inr (.inl rfl), .inr (.inl rfl), .inr (.inl rfl), .inr (.inl rfl), trivial⟩, rfl, rfl⟩
   ·cases h3 : D.lookup (aG t) with
    | some b =>
     have hb := hD t b h1 h3;refine ⟨D, hD, ?_⟩;rw [<- hb];refine aW (bo true) (bp true) {} Tryz.func111 (by kernel_rfl) rfl rfl (by kernel_rfl) rfl (goM ?_);refine cC hT (goM ?_);refine aa ?_ ?_ <;> intro h4
     ·exact absurd (of_decide_eq_true h4) h1
     refine goM ?_;refine ⟨_, gE (aG t) S, ?_⟩;rw [if_neg h2];refine goM ?_;refine ⟨_, jP (aG t) D, ?_⟩;rw [h3];refine goM ?_;exact rR gid
    | none =>
     have hput : ∀ b D2, mkB S t = b -> DOk S D2 -> DOk S (js (aG t) b D2) := fun b D2 e h => by rw [<- e]; exact h.put t
     rw [if_neg h1, if_neg h2] at hmk
     by_cases k1 : t.kind = 1
     ·rw [if_pos k1] at hmk;refine ⟨js (aG t) true D, hput _ _ hmk hD, ?_⟩;rw [hmk];refine aW (bo true) (bp true) { own := oO [100061, 100068, 100041], ps := psT [(14, [9, 10])], kp := kpT [(14, [0, 3, 4, 5, 8], [3, 2000, 2001, 2002, 2003]), (15, [0, 3, 4, 5, 8, 9, 10], [3, 9, 10, 2000, 2001, 2002, 2003])] } Tryz.func111 (by kernel_rfl) rfl rfl (by kernel_rfl) rfl (goM ?_);refine cC hT (goM ?_);refine aa ?_ ?_ <;> intro h4
      ·exact absurd (of_decide_eq_true h4) h1
      refine goM ?_;refine ⟨_, gE (aG t) S, ?_⟩;rw [if_neg h2];refine goM ?_;refine ⟨_, jP (aG t) D, ?_⟩;rw [h3];refine goM ?_;refine aa ?_ ?_ <;> intro h5
      ·skip
       refine goM ?_;exact rR gid (b := ⟨.inr (.inl rfl), .inr (.inl rfl), .inr (.inl rfl), .inr (.inl (congrArg (AO.mp 174 true) (jt (aG t) true D))), trivial⟩)
      ·exact absurd k1 (of_decide_eq_false h5)
     by_cases k2 : t.kind = 2
     ·rw [if_neg k1, if_pos k2] at hmk;refine ⟨js (aG t) false D, hput _ _ hmk hD, ?_⟩;rw [hmk];refine aW (bo true) (bp true) { own := oO [100061, 100068, 100041], ps := psT [(14, [9, 10])], kp := kpT [(14, [0, 3, 4, 5, 8], [3, 2000, 2001, 2002, 2003]), (15, [0, 3, 4, 5, 8, 9, 10], [3, 9, 10, 2000, 2001, 2002, 2003])] } Tryz.func111 (by kernel_rfl) rfl rfl (by kernel_rfl) rfl (goM ?_);refine cC hT (goM ?_);refine aa ?_ ?_ <;> intro h4
      ·exact absurd (of_decide_eq_true h4) h1
      refine goM ?_;refine ⟨_, gE (aG t) S, ?_⟩;rw [if_neg h2];refine goM ?_;refine ⟨_, jP (aG t) D, ?_⟩;rw [h3];refine goM ?_;refine aa ?_ ?_ <;> intro h5
      ·exact absurd (of_decide_eq_true h5) k1
      refine goM ?_;refine aa ?_ ?_ <;> intro h6
      ·skip
       refine goM ?_;exact rR gid (b := ⟨.inr (.inl rfl), .inr (.inl rfl), .inr (.inl rfl), .inr (.inl (congrArg (AO.mp 174 true) (jt (aG t) false D))), trivial⟩)
      ·exact absurd k2 (of_decide_eq_false h6)
     by_cases k9 : t.kind = 9
     ·rw [if_neg k1, if_neg k2, if_pos k9] at hmk;have hshp := rI h1;have hlen := qo (cU t 60 hshp) k9;obtain ⟨x, y, hxy⟩ : ∃ x y, t.kids = [x, y] := by
       match t.kids, hlen with
       | [x, y], _ => exact ⟨x, y, rfl⟩
      have hk0 : (af t.kids)[0]? = some (TV x) := by rw [hxy, <- cK]; rfl
      have hk1 : (af t.kids)[1]? = some (TV y) := by rw [hxy, <- cK]; rfl
      have fx : Fit x := hf.kid (by rw [hxy]; simp);have fy : Fit y := hf.kid (by rw [hxy]; simp);have hwt : wt x + wt y + 1 <= wt t := by rw [bR t, hxy]; simp only [wts]; omega
      have hsp := ll hxy;have fpub : ∀ u, Fit u -> Fit (dY u) := fun u h => Fit.mk (by simp) (by decide) (by simp [h])
      have wpub : ∀ u, wt (dY u) = wt u + 1 := fun u => by simp [wt, wts]
      have ihA : ∀ u ∈ [x, dY y], ∀ D, DOk S D -> ∃ D', DOk S D' /\ PM (cx true) 111 (KP L S D) [.ptr 2000 0, tv u] (KP L S D') (.p (.bool (mkB S u))) := by
       intro u hu;simp only [List.mem_cons, List.not_mem_nil, or_false] at hu;rcases hu with rfl | rfl
       ·exact ihk u (by rw [hxy]; simp)
       ·exact ih _ (by first | exact hsp.1 | exact hsp.2) (fpub _ (by assumption)) (by rw [wpub]; omega)
      have ihB : ∀ u ∈ [y, dY x], ∀ D, DOk S D -> ∃ D', DOk S D' /\ PM (cx true) 111 (KP L S D) [.ptr 2000 0, tv u] (KP L S D') (.p (.bool (mkB S u))) := by
       intro u hu;simp only [List.mem_cons, List.not_mem_nil, or_false] at hu;rcases hu with rfl | rfl
       ·exact ihk u (by rw [hxy]; simp)
       ·exact ih _ (by first | exact hsp.1 | exact hsp.2) (fpub _ (by assumption)) (by rw [wpub]; omega)
      obtain ⟨Da, a1, a2⟩ := nB L S [x, dY y] D hD (by simp) ihA;obtain ⟨Db, b1, b2⟩ := nB L S [y, dY x] Da a1 (by simp) ihB;rw [hxy] at hmk;have e1 : [x, dY y].all (mkB S) = (mkB S x && mkB S (dY y)) := by simp
      have e2 : [y, dY x].all (mkB S) = (mkB S y && mkB S (dY x)) := by simp
      have hmk : mkB S t = ([x, dY y].all (mkB S) || [y, dY x].all (mkB S)) := by rw [e1, e2]; exact hmk
      cases hb : [x, dY y].all (mkB S) with
      | true =>
       rw [hb, Bool.true_or] at hmk;refine ⟨js (aG t) true Da, hput _ _ hmk a1, ?_⟩;rw [hmk];rw [hb] at a2;refine aW (bo true) (bp true) { own := oO [100061, 100068, 100041], ps := psT [(14, [9, 10])], kp := kpT [(14, [0, 3, 4, 5, 8], [3, 2000, 2001, 2002, 2003]), (15, [0, 3, 4, 5, 8, 9, 10], [3, 9, 10, 2000, 2001, 2002, 2003])] } Tryz.func111 (by kernel_rfl) rfl rfl (by kernel_rfl) rfl (goM ?_);refine cC hT (goM ?_);refine aa ?_ ?_ <;> intro h4
       ·exact absurd (of_decide_eq_true h4) h1
       refine goM ?_;refine ⟨_, gE (aG t) S, ?_⟩;rw [if_neg h2];refine goM ?_;refine ⟨_, jP (aG t) D, ?_⟩;rw [h3];refine goM ?_;refine aa ?_ ?_ <;> intro h5
       ·exact absurd (of_decide_eq_true h5) k1
       refine goM ?_;refine aa ?_ ?_ <;> intro h6
       ·exact absurd (of_decide_eq_true h6) k2
       refine goM ?_;refine aa ?_ ?_ <;> intro h7
       case refine_2 => exact absurd k9 (of_decide_eq_false h7)
       refine goM ?_;refine ⟨_, hk0, rfl, rfl, goM ?_⟩;refine ⟨_, hk1, rfl, rfl, goM ?_⟩;refine cC (vU true y) (goM ?_);refine ⟨_, ac.pr gid a2 ⟨LE.of rfl, LE.of (congrArg (fun l => SV.p (PV.lst l)) (cK x (dY y))), trivial⟩ ⟨.inr (.inl rfl), .inr (.inl rfl), .inr (.inl rfl), .inr (.inl rfl), trivial⟩ rfl, goM ?_⟩;exact rR gid (b := ⟨.inr (.inl rfl), .inr (.inl rfl), .inr (.inl rfl), .inr (.inl (congrArg (AO.mp 174 true) (jt (aG t) true Da))), trivial⟩)
      | false =>
       rw [hb, Bool.false_or] at hmk;refine ⟨js (aG t) ([y, dY x].all (mkB S)) Db, hput _ _ hmk b1, ?_⟩;rw [hmk];rw [hb] at a2;refine aW (bo true) (bp true) { own := oO [100061, 100068, 100041], ps := psT [(14, [9, 10])], kp := kpT [(14, [0, 3, 4, 5, 8], [3, 2000, 2001, 2002, 2003]), (15, [0, 3, 4, 5, 8, 9, 10], [3, 9, 10, 2000, 2001, 2002, 2003])] } Tryz.func111 (by kernel_rfl) rfl rfl (by kernel_rfl) rfl (goM ?_);refine cC hT (goM ?_);refine aa ?_ ?_ <;> intro h4
       ·exact absurd (of_decide_eq_true h4) h1
       refine goM ?_;refine ⟨_, gE (aG t) S, ?_⟩;rw [if_neg h2];refine goM ?_;refine ⟨_, jP (aG t) D, ?_⟩;rw [h3];refine goM ?_;refine aa ?_ ?_ <;> intro h5
       ·exact absurd (of_decide_eq_true h5) k1
       refine goM ?_;refine aa ?_ ?_ <;> intro h6
       ·exact absurd (of_decide_eq_true h6) k2
       refine goM ?_;refine aa ?_ ?_ <;> intro h7
       case refine_2 => exact absurd k9 (of_decide_eq_false h7)
       refine goM ?_;refine ⟨_, hk0, rfl, rfl, goM ?_⟩;refine ⟨_, hk1, rfl, rfl, goM ?_⟩;refine cC (vU true y) (goM ?_);refine ⟨_, ac.pr gid a2 ⟨LE.of rfl, LE.of (congrArg (fun l => SV.p (PV.lst l)) (cK x (dY y))), trivial⟩ ⟨.inr (.inl rfl), .inr (.inl rfl), .inr (.inl rfl), .inr (.inl rfl), trivial⟩ rfl, goM ?_⟩;refine cC (vU true x) (goM ?_);refine ⟨_, ac.pr gid b2 ⟨LE.of rfl, LE.of (congrArg (fun l => SV.p (PV.lst l)) (cK y (dY x))), trivial⟩ ⟨.inr (.inl rfl), .inr (.inl rfl), .inr (.inl rfl), .inr (.inl rfl), trivial⟩ rfl, goM ?_⟩;exact rR gid (b := ⟨.inr (.inl rfl), .inr (.inl rfl), .inr (.inl rfl), .inr (.inl (congrArg (AO.mp 174 true) (jt (aG t) _ Db))), trivial⟩)
     ·rw [if_neg k1, if_neg k2, if_neg k9] at hmk;obtain ⟨D1, d1, d2⟩ := nB L S t.kids D hD hf.len ihk;refine ⟨js (aG t) (t.kids.all (mkB S)) D1, hput _ _ hmk d1, ?_⟩;rw [hmk];refine aW (bo true) (bp true) { own := oO [100061, 100068, 100041], ps := psT [(14, [9, 10])], kp := kpT [(14, [0, 3, 4, 5, 8], [3, 2000, 2001, 2002, 2003]), (15, [0, 3, 4, 5, 8, 9, 10], [3, 9, 10, 2000, 2001, 2002, 2003])] } Tryz.func111 (by kernel_rfl) rfl rfl (by kernel_rfl) rfl (goM ?_);refine cC hT (goM ?_);refine aa ?_ ?_ <;> intro h4
      ·exact absurd (of_decide_eq_true h4) h1
      refine goM ?_;refine ⟨_, gE (aG t) S, ?_⟩;rw [if_neg h2];refine goM ?_;refine ⟨_, jP (aG t) D, ?_⟩;rw [h3];refine goM ?_;refine aa ?_ ?_ <;> intro h5
      ·exact absurd (of_decide_eq_true h5) k1
      refine goM ?_;refine aa ?_ ?_ <;> intro h6
      ·exact absurd (of_decide_eq_true h6) k2
      refine goM ?_;refine aa ?_ ?_ <;> intro h7
      ·exact absurd (of_decide_eq_true h7) k9
      refine goM ?_;refine ⟨_, ac.pr gid d2 ⟨LE.of rfl, LE.of rfl, trivial⟩ ⟨.inr (.inl rfl), .inr (.inl rfl), .inr (.inl rfl), .inr (.inl rfl), trivial⟩ rfl, goM ?_⟩;exact rR gid (b := ⟨.inr (.inl rfl), .inr (.inl rfl), .inr (.inl rfl), .inr (.inl (congrArg (AO.mp 174 true) (jt (aG t) _ D1))), trivial⟩)
end Go.Sl
namespace Go.Sl
open Go Go.Vc Go.Proofs Go.RowKit
theorem A3 (L : List Tm) (S : List Bs) (t : Tm) (hf : Fit t) (hw : wt t <= 1000000000) (D : List (Bs × Bool)) (hD : DOk S D) :
  ∃ D', DOk S D' /\ PM (cx true) 55 (KP L S D) [.ptr 2000 0, tv t] (KP L S D') (.p (.bool (mkB S (aL t)))) := by
 obtain ⟨D', h1, h2⟩ := oG L S _ (aL t) (Nat.le_refl _) (nA t hf) (by rw [rG]; exact hw) D hD;refine ⟨D', h1, ?_⟩;refine aW (bo true) (bp true) { own := oO [100008] } Tryz.func55 (by kernel_rfl) rfl rfl (by kernel_rfl) rfl (goM ?_);refine cC (tz t hf hw) (goM ?_);refine ⟨_, ac.pr gid h2 ⟨LE.of rfl, LE.of rfl, trivial⟩ ⟨.inr (.inl rfl), .inr (.inl rfl), .inr (.inl rfl), .inr (.inl rfl), trivial⟩ rfl, goM ?_⟩;exact rR gid
def ofT (l : List Tm) : Kn := l.foldl cq ⟨[], [], []⟩
theorem A4 {l : List Tm} {i : Nat} (h : i < l.length) : ofT (l.take (i + 1)) = cq (ofT (l.take i)) l[i] := by
 rw [List.take_succ_eq_append_getElem h];unfold ofT;rw [List.foldl_append];rfl
theorem D9 (k : Kn) (t : Tm) : (cq k t).l.length <= k.l.length + 1 := by
 unfold cq;split
 ·omega
 ·simp
theorem pL (l : List Tm) (k : Kn) : (l.foldl cq k).l.length <= k.l.length + l.length := by
 induction l generalizing k with
 | nil => simp
 | cons t l ih =>
  have := ih (cq k t);have := D9 k t;simp only [List.foldl_cons, List.length_cons];omega
abbrev gOf : Nat -> Nat := gT [(2000, 9), (1001, 1500), (2002, 6), (2003, 7)]
theorem Hm (l : List Tm) (hf : ∀ t ∈ l, Fit t) (hw : ∀ t ∈ l, wt t <= 1000000000) (hl : l.length <= 1000000000) :
  PM (cx true) 107 [] [lv l] (ofT l).obs (.ptr 2000 0) := by
 refine aW (bo true) (bp true) { own := oO [100018], nl := fun r => cond (Nat.beq r 2) [(9, 0, 1500, 26, 3)] [] } Tryz.func107 (by kernel_rfl) rfl rfl (by kernel_rfl) rfl (goM ?_);refine ⟨{ i : Nat // i <= l.length }, fun i => Vc.S.of [(3, .ptr 9 0), (10, lv l), (11, iv ((af l).length : Int)), (12, iv (i.1 : Int))] [(9, .var true 176 (.mix [.slc 1500, .slc 6, .slc 7])), (1500, .row 26 3 (af (ofT (l.take i.1)).l)), (6, .mp 174 true (isM (ofT (l.take i.1)).s)), (7, .mp 174 true (mdM (ofT (l.take i.1)).d))], fun i => l.length - i.1, ⟨0, Nat.zero_le _⟩, ?_, ?_⟩
 ·exact Ge.go
 rintro ⟨i, hi⟩
 refine goM ?_;refine aa ?_ ?_ <;> intro h1
 ·have hlt : i < l.length := by have := of_decide_eq_true h1; rw [ab] at this; exact Int.ofNat_lt.1 this
  refine goM ?_;refine ⟨Int.natCast_nonneg _, TV l[i], bQ hlt, rfl, rfl, goM ?_⟩;refine ⟨_, ac.pr gOf (A2 (ofT (l.take i)) l[i] (hf _ (List.getElem_mem hlt)) (hw _ (List.getElem_mem hlt)) (by have := pL (l.take i) ⟨[], [], []⟩; simp at this; show (List.foldl cq ⟨[], [], []⟩ (l.take i)).l.length <= _; omega)) ⟨LE.of rfl, LE.of rfl, trivial⟩ ⟨.inr (.inl rfl), .inr (.inl rfl), .inr (.inl rfl), .inr (.inl rfl), trivial⟩ rfl, goM ?_⟩;refine ⟨_, aq (n := i + 1) rfl (by omega), goM ?_⟩;have e := A4 hlt;refine ⟨⟨i + 1, hlt⟩, ?_, by show l.length - (i + 1) < l.length - i; omega⟩;refine Ge.of rfl ?_ ?_
  ·repeat (conv => whnf); refine ⟨LE.of rfl, ?_⟩
   trivial
  ·repeat (conv => whnf); first | refine ⟨OLE.of rfl, ?_⟩ | refine ⟨OLE.of (congrArg (fun k : Kn => AO.row 26 3 (af k.l)) e.symm), ?_⟩ | refine ⟨OLE.of (congrArg (fun k : Kn => AO.mp 174 true (isM k.s)) e.symm), ?_⟩ | refine ⟨OLE.of (congrArg (fun k : Kn => AO.mp 174 true (mdM k.d)) e.symm), ?_⟩
   trivial
 ·have hge : i = l.length := by have h1 := of_decide_eq_false h1; rw [ab] at h1; have h1 : ¬ (i : Int) < (l.length : Int) := h1; omega
  have e : ofT (l.take i) = ofT l := by rw [hge, List.take_length]
  refine goM ?_;exact rR gOf (b := ⟨.inr (.inl rfl), .inr (.inl (congrArg (fun k : Kn => AO.row 26 3 (af k.l)) e)), .inr (.inl (congrArg (fun k : Kn => AO.mp 174 true (isM k.s)) e)), .inr (.inl (congrArg (fun k : Kn => AO.mp 174 true (mdM k.d)) e)), trivial⟩)
end Go.Sl
namespace Go.Sl
open Go Go.Vc Go.Proofs Go.RowKit
def fnP (f : Nat) : PV := .exact (.func (.func f) #[] #[])
def yw (f g : Nat) : PV := .agg [fnP f, fnP g]
def oH : List (MK × PV) := [(.n 3, yw 154 157), (.n 4, yw 155 156), (.n 10, yw 156 155)]
theorem Ea (t : Tm) : K true 154 [tv t] (.pv (.lst [])) := by
 refine pcv {} Tryz.func154 ?_;refine goM ?_;exact LEP.refl _
theorem A5 (t : Tm) : K true 157 [tv t] (.pv (.lst (af t.kids))) := by
 refine pcv {} Tryz.func157 ?_;refine goM ?_;exact LEP.refl _
theorem tE (t x y : Tm) (h : t.kids = [x, y]) : K true 155 [tv t] (.pv (.lst (af [x]))) := by
 have hk : af t.kids = [TV x, TV y] := by rw [h]; exact (cK x y).symm
 refine pcv {} Tryz.func155 ?_;refine goM ?_;rw [hk];refine goM ?_;refine ⟨⟨mc, rfl, rfl, rfl, trivial⟩, goM ?_⟩;exact LEP.of (congrArg PV.lst (dR x))
theorem qp (t x y : Tm) (h : t.kids = [x, y]) : K true 156 [tv t] (.pv (.lst (af [y]))) := by
 have hk : af t.kids = [TV x, TV y] := by rw [h]; exact (cK x y).symm
 refine pcv {} Tryz.func156 ?_;refine goM ?_;rw [hk];refine goM ?_;refine ⟨⟨mc, rfl, rfl, rfl, trivial⟩, goM ?_⟩;exact LEP.of (congrArg PV.lst (dR y))
theorem Eb : PM (cx true) 108 [] [] [(2010, .mp 172 false oH)] (.slc 2010) := by
 refine aW (bo true) (bp true) {} Tryz.func108 (by kernel_rfl) rfl rfl (by kernel_rfl) rfl (goM ?_);exact rR (gT [(2010, 5)])
end Go.Sl
namespace Go.Sl
open Go Go.Vc Go.Proofs Go.RowKit
theorem tF : ∀ {a b : List UInt8}, Op.bytesLess a b = true -> Op.bytesLess b a = false
 | [], [], h => by simp [Op.bytesLess] at h
 | _ :: _, [], h => by simp [Op.bytesLess] at h
 | [], _ :: _, h => by simp [Op.bytesLess]
 | a :: x, b :: y, h => by
  simp only [Op.bytesLess, Bool.or_eq_true, Bool.and_eq_true, decide_eq_true_eq, beq_iff_eq] at h;simp only [Op.bytesLess, Bool.or_eq_false_iff, Bool.and_eq_false_iff, decide_eq_false_iff_not];rcases h with h | ⟨rfl, h⟩
  ·exact ⟨UInt8.lt_asymm h, .inl (by simp only [beq_eq_false_iff_ne]; rintro rfl; exact UInt8.lt_irrefl _ h)⟩
  ·exact ⟨UInt8.lt_irrefl _, .inr (tF h)⟩
theorem vV (k : Int) (n : Bs) : ∀ l : List Tm, eD k n (eD k n l).kids = eD k n l
 | [] => rfl
 | [_] => rfl
 | _ :: _ :: _ :: _ => rfl
 | [x, y] => by
  have e : ∀ x y, eD k n [x, y] = if k = 9 /\ lg y x = true then .mk k n [y, x] else .mk k n [x, y] := fun _ _ => rfl
  by_cases h : k = 9 /\ lg y x = true
  ·have h2 : lg x y = false := tF h.2;rw [e x y, if_pos h];show eD k n [y, x] = _;rw [e y x, if_neg (by rw [h2]; simp)]
  ·rw [e x y, if_neg h];show eD k n [x, y] = _;rw [e x y, if_neg h]
theorem lm {α β : Type} {f : α -> β} : ∀ {l : List α}, (l.map f).Nodup -> l.Nodup
 | [], _ => List.nodup_nil
 | a :: l, h => by
  rw [List.map_cons, List.nodup_cons] at h;rw [List.nodup_cons];exact ⟨fun ha => h.1 (List.mem_map.2 ⟨a, ha, rfl⟩), lm h.2⟩
theorem qq (k : Int) (n : Bs) (l : List Tm) : ∀ u, u ∈ (eD k n l).kids ↔ u ∈ l := by
 intro u;rcases (dG k n l).2.2 with h | ⟨x, y, h1, h2⟩
 ·rw [h]
 ·rw [h2, h1];simp only [List.mem_cons, List.not_mem_nil, or_false];exact or_comm
theorem jQ : ∀ t : Tm, aL (aL t) = aL t := by
 intro t
 induction t using Tm.indk with
 | h t ih =>
 rw [eU (aL t)];have e := eU t;obtain ⟨h1, h2, h3⟩ := dG t.kind t.name (t.kids.map aL);rw [e, h1, h2];have hm : (eD t.kind t.name (t.kids.map aL)).kids.map aL = (eD t.kind t.name (t.kids.map aL)).kids := by
  have : ∀ l : List Tm, (∀ u ∈ l, aL u = u) -> l.map aL = l := by
   intro l
   induction l with
   | nil => intro _; rfl
   | cons u l ih => intro h; rw [List.map_cons, h u (List.mem_cons_self ..), ih fun v hv => h v (List.mem_cons_of_mem _ hv)]
  refine this _ fun u hu => ?_
  rw [qq] at hu;obtain ⟨v, hv, rfl⟩ := List.mem_map.1 hu;exact ih v hv
 rw [hm];exact vV _ _ _
theorem rJ {t u : Tm} (h : aL t = t) (hu : u ∈ t.kids) : aL u = u := by
 rw [<- h, eU t, qq] at hu;obtain ⟨v, hv, rfl⟩ := List.mem_map.1 hu;exact jQ v
mutual
def inT : Tm -> List Tm
 | .mk k n l => .mk k n l :: ns l
def ns : List Tm -> List Tm
 | [] => []
 | t :: ts => inT t ++ ns ts
end
theorem ln {l : List Tm} {u v : Tm} (hu : u ∈ l) (hv : v ∈ inT u) : v ∈ ns l := by
 induction l with
 | nil => cases hu
 | cons t l ih =>
  rw [ns, List.mem_append];cases hu with
  | head => exact .inl hv
  | tail _ hu => exact .inr (ih hu)
theorem nC {l : List Tm} {v : Tm} (h : v ∈ ns l) : ∃ u ∈ l, v ∈ inT u := by
 induction l with
 | nil => cases h
 | cons t l ih =>
  rw [ns, List.mem_append] at h;rcases h with h | h
  ·exact ⟨t, List.mem_cons_self .., h⟩
  ·obtain ⟨u, hu, hv⟩ := ih h;exact ⟨u, List.mem_cons_of_mem _ hu, hv⟩
theorem rK (t : Tm) : inT t = t :: ns t.kids := by cases t; rw [inT]; rfl
theorem tG (t : Tm) : t ∈ inT t := by rw [rK]; exact List.mem_cons_self ..
theorem Ec : ∀ {t u v : Tm}, u ∈ inT t -> v ∈ u.kids -> v ∈ inT t := by
 intro t
 induction t using Tm.indk with
 | h t ih =>
 intro u v hu hv;rw [rK] at hu ⊢;rcases List.mem_cons.1 hu with rfl | hu
 ·exact List.mem_cons_of_mem _ (ln hv (tG v))
 ·obtain ⟨w, hw, hu⟩ := nC hu;exact List.mem_cons_of_mem _ (ln hw (ih w hw hu hv))
theorem qr {α : Type} [DecidableEq α] : ∀ {l m : List α}, l.Nodup -> (∀ x ∈ l, x ∈ m) -> l.length <= m.length
 | [], m, _, _ => Nat.zero_le _
 | a :: l, m, hn, hs => by
  rw [List.nodup_cons] at hn;have ha := hs a (List.mem_cons_self ..);have := qr (l := l) (m := m.erase a) hn.2 fun x hx => (List.mem_erase_of_ne (by rintro rfl; exact hn.1 hx)).2 (hs x (List.mem_cons_of_mem _ hx))
  rw [List.length_erase_of_mem ha] at this;have := List.length_pos_of_mem ha;simp only [List.length_cons];omega
structure WK (U : List Tm) (k : Kn) : Prop where
 s : k.s = k.l.map aG
 ne : ∀ t ∈ k.l, aG t ≠ []
 nd : k.s.Nodup
 fit : ∀ t ∈ k.l, Fit t
 wt : ∀ t ∈ k.l, wt t <= 1000000000
 can : ∀ t ∈ k.l, aL t = t
 sub : ∀ t ∈ k.l, t ∈ U
 d : DOk k.s k.d
theorem WK.len {U : List Tm} {k : Kn} (h : WK U k) : k.l.length <= U.length := by
 refine qr ?_ h.sub;have := h.nd;rw [h.s] at this;exact lm this
theorem WK.add {U : List Tm} {k : Kn} (h : WK U k) {t : Tm} (hf : Fit t) (hw : Sl.wt t <= 1000000000) (hu : aL t ∈ U) : WK U (cq k t) := by
 unfold cq;split
 ·exact h
 ·rename_i hn;simp only [not_or] at hn;have hm : ∀ {P : Tm -> Prop}, (∀ u ∈ k.l, P u) -> P (aL t) -> ∀ u ∈ k.l ++ [aL t], P u := fun h1 h2 u hu => by
   rcases List.mem_append.1 hu with hu | hu
   ·exact h1 u hu
   ·rw [List.mem_singleton.1 hu]; exact h2
  exact
   {s := by simp [h.s]
    ne := hm h.ne hn.1
    nd := by
     refine List.nodup_append.2 ⟨h.nd, by simp, fun a ha b hb => ?_⟩;rw [List.mem_singleton.1 hb]
     rintro rfl
     exact hn.2 ha
    fit := hm h.fit (nA t hf)
    wt := hm h.wt (by rw [rG]; exact hw)
    can := hm h.can (jQ t)
    sub := hm h.sub hu
    d := DOk.nil _ }
end Go.Sl
