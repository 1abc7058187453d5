/- Part 6 of the proof: Fb Fc Text Ga Gb Gc Gd Ge. -/
import Derived.Test.YteicafhbhdliaaaGreatDoorOae
import Derived.Test.YteicafhbhdliaaaGreatDoorSh
import Derived.Lib.ItoaNum
set_option linter.unusedSimpArgs false
set_option linter.unusedVariables false
namespace Go.Sl
open Go Go.Vc Go.Proofs
abbrev bK (s : Bs) : Tm := .mk 1 s []
abbrev cI (s : Bs) : Tm := .mk 2 s []
abbrev kc (l : List Tm) : Tm := .mk 3 [] l
abbrev yk (k m : Tm) : Tm := .mk 4 [] [k, m]
abbrev bN (t : Tm) : Tm := .mk 6 [] [t]
abbrev jp (k : Tm) (s : Bs) : Tm := .mk 7 s [k]
theorem Hl {L : List PV} {k : Int} {s : Bs} {l : List Tm} (h : L = af l) : PV.agg [.int .i64 k, .str s, .lst L] = TV (.mk k s l) := by rw [h]; rfl
theorem Fit.data (k : Int) {s : Bs} (h : s.length <= 9223372036854775807) : Fit (.mk k s []) := .mk (by decide) h (fun t h => by cases h)
theorem Fit.two (k : Int) {s : Bs} {t u : Tm} (h : s.length <= 9223372036854775807) (ht : Fit t) (hu : Fit u) : Fit (.mk k s [t, u]) := .mk (by simp) h (fun v hv => by simp at hv; rcases hv with rfl | rfl <;> assumption)
theorem k8 (b : Bool) (L : List PV) (l : List Tm) (hL : L = af l) (hl : l.length * 48 <= 140737488355328) : K b 152 [.p (.lst L)] (.pv (.lst (af l))) := by
 subst hL;refine pcv { own := oO [5] } Tryz.func152 ?_;refine goL ?_;refine ⟨fun h => ?_, ?_⟩
 ·refine goL ?_;rw [h];exact LEP.refl _
 ·refine goL ?_;refine ⟨gD l, goL ?_⟩;refine ⟨by rw [ab]; show (0 + l.length) * 48 <= _; omega, goL ?_⟩;exact LEP.refl _
theorem fG (b : Bool) (k : Int) (s : Bs) (L : List PV) (l : List Tm) (hL : L = af l) (hl : l.length * 48 <= 140737488355328) : K b 105 [iv k, sv s, .p (.lst L)] (.pv (TV (.mk k s l))) := by
 refine pcv {} Tryz.func105 ?_;refine goL ?_;refine cC (k8 b L l hL hl) (goL ?_);exact LEP.refl _
theorem th (b : Bool) (k : Int) (s : Bs) : K b 105 [iv k, sv s, .p .nilS] (.pv (TV (.mk k s []))) := by
 refine pcv {} Tryz.func105 ?_;refine goL ?_;refine ⟨_, ar.le (k8 b [] [] rfl (by decide)) (LEL.cons km LEL.nil) rfl rfl, goL ?_⟩;exact LEP.refl _
theorem iz (b : Bool) (s : Bs) : K b 126 [sv s] (.pv (TV (bK s))) := by
 refine pcv {} Tryz.func126 ?_;refine goL ?_;refine cC (th b 1 s) (goL ?_);exact LEP.refl _
theorem bl (b : Bool) (s : Bs) : K b 49 [sv s] (.pv (TV (cI s))) := by
 refine pcv {} Tryz.func49 ?_;refine goL ?_;refine cC (th b 2 s) (goL ?_);exact LEP.refl _
theorem jN (b : Bool) (L : List PV) (l : List Tm) (hL : L = af l) (hl : l.length * 48 <= 140737488355328) : K b 125 [.p (.lst L)] (.pv (TV (kc l))) := by
 refine pcv {} Tryz.func125 ?_;refine goL ?_;refine cC (fG b 3 [] L l hL hl) (goL ?_);exact LEP.refl _
theorem AR (b : Bool) (k m : Tm) : K b 127 [tv k, tv m] (.pv (TV (yk k m))) := by
 refine pcv {} Tryz.func127 ?_;refine goL ?_;refine cC (fG b 4 [] _ [k, m] (cK k m) (by simp)) (goL ?_);exact LEP.refl _
theorem fH (b : Bool) (k : Tm) : K b 101 [tv k] (.pv (TV (bN k))) := by
 refine pcv {} Tryz.func101 ?_;refine goL ?_;refine cC (fG b 6 [] _ [k] (dR k) (by simp)) (goL ?_);exact LEP.refl _
theorem ox (b : Bool) (k : Tm) (s : Bs) : K b 70 [tv k, sv s] (.pv (TV (jp k s))) := by
 refine pcv {} Tryz.func70 ?_;refine goL ?_;refine cC (fG b 7 s _ [k] (dR k) (by simp)) (goL ?_);exact LEP.refl _
theorem yl (b : Bool) (s : Bs) : K b 28 [sv s] (.pv (TV (cI s))) := by
 refine pcv {} Tryz.func28 ?_;refine goL ?_;exact aR 2 s
theorem fI (b : Bool) (s : Bs) (hs : s.length <= 9223372036854775800) : K b 75 [sv s] (.pv (TV (bK (61 :: s)))) := by
 refine pcv {} Tryz.func75 ?_;refine goL ?_;refine ⟨by show 1 + s.length <= _; omega, goL ?_⟩;refine cC (iz b _) (goL ?_);exact LEP.refl _
end Go.Sl
namespace Go.Sl
open Go Go.Vc Go.Proofs Go.RowKit Go.Sort Go.Lib
theorem tj (w : World) (k : Nat) (os : Array Obj) : Below w.heap.size w (grow (w.drewN k) os) := by
 refine ⟨rfl, rfl, rfl, ?_, fun b hb => ?_⟩
 ·show w.heap.size <= (w.heap ++ os).size;rw [Array.size_append];exact Nat.le_add_right _ _
 ·show (w.heap ++ os)[b]? = w.heap[b]?;rw [Array.getElem?_append_left hb]
theorem cL (b : Bool) (n : Int) (h0 : -9223372036854775808 <= n) (h1 : n <= 9223372036854775807) : K b 51 [iv n] (.pv (.str (Lib.itoa n))) := by
 refine ⟨⟨_, Tryz.func51, rfl, rfl⟩, fun ok β w vs hG hlt hr _ _ _ _ => ?_⟩
 match vs, hr with
 | [v], hr =>
  obtain ⟨hr, _⟩ := hr;rw [R, RP] at hr;subst hr;refine (Tryz.strconv_Itoa n h0 h1 w hG.1.1).mono ?_
  rintro e w' ⟨rfl, k, os, rfl⟩
  exact ⟨_, rfl, by rw [RES, RP], tj w k os⟩
theorem AS (w : World) (o : Obj) : (w.alloc o).heap[w.heap.size]? = some o := by
 show (w.heap.push o)[w.heap.size]? = some o;simp
theorem xg (b : Bool) (n : Nat) (h0 : 0 < n) (h1 : n * 48 <= 140737488355328) : K b 113 [.p .nilS, iv n] (.fresh 26 3 []) := by
 refine ⟨⟨_, Tryz.func113, rfl, rfl⟩, fun ok β w vs hG hlt hr _ _ _ _ => ?_⟩
 match vs, hr with
 | [v, u], hr =>
  obtain ⟨hr, hr2, _⟩ := hr;rw [R, RP] at hr;rw [R, RP] at hr2;subst hr hr2;obtain ⟨i, d, z, hi, hd, hs, hb, hz, hcv, hzs, _⟩ := (DW 26 mc rfl).out;have hs : i.size = 3 := hs;have hb : i.bytes = 48 := hb;have hz3 : z.cells.size = 3 := hzs;refine (Any8.slices_Grow_grow Tryz.growT i z hi hz (by omega) none 0 0 n [] w (by omega) (by omega) (by rw [hb]; omega) (by omega) (by simp) (fun _ => rfl) (fun a h => by cases h)).mono ?_;have hge : 0 + n <= grownCap w (0 + n) 0 (Tryz.growT_ren.t 25) := grownCap_ge w _ _ _;have hle : grownCap w (0 + n) 0 (Tryz.growT_ren.t 25) <= maxLen := grownCap_le_maxLen w (0 + n) 0 (Tryz.growT_ren.t 25) (by unfold maxLen; omega);generalize grownCap w (0 + n) 0 (Tryz.growT_ren.t 25) = G at hge hle ⊢;have ht : Tryz.growT_ren.t 25 = 26 := rfl;rw [ht]
  rintro e w' ⟨rfl, rfl⟩
  refine ⟨_, rfl, ?_, (Below.alloc (Below.drew (Below.refl _ w)) (Nat.le_refl _) _)⟩;rw [RES];refine ⟨by decide, [], ⟨rfl, .inr ⟨w.heap.size, G, _, rfl, Nat.le_refl _, AS w.drew _, Nat.zero_le _, hle, ?_, by simp⟩⟩, ⟨rfl, fun i x hx => by simp at hx⟩⟩;simp [Builtin.zeroCells, hz3];omega
theorem ym (b : Bool) (L M : List PV) (l m : List Tm) (hL : L = af l) (hM : M = af m) (h0 : 0 < l.length) (hl : (l.length + m.length) * 48 <= 140737488355328) :
  K b 56 [.p (.lst [.lst L, .lst M])] (.pv (.lst (af (l ++ m)))) := by
 subst hL hM;refine pcv { own := oO [24, 33] } Tryz.func56 ?_;refine goL ?_;refine ⟨Fin 3, fun i => S.of [(0, .p (.lst [.lst (af l), .lst (af m)])), (3, iv (match i with | 0 => 0 | 1 => (l.length : Int) | 2 => ((l.length + m.length : Nat) : Int))), (9, .p (.lst [.lst (af l), .lst (af m)])), (10, iv 2), (11, iv (match i with | 0 => 0 | 1 => 1 | 2 => 2))] [], fun i => 3 - i.1, 0, ?_, ?_⟩
 ·exact Ge.go
 intro i
 match i with
 | 0 =>
  refine goL ?_;refine ⟨_, rfl, rfl, rfl, goL ?_⟩;refine ⟨_, aq (n := l.length) (by show (0:Int) + ((af l).length : Int) = _; rw [ab]; omega) (by omega), goL ?_⟩;refine ⟨1, rfl, goL ?_⟩;refine ⟨1, ?_, by decide⟩;exact Ge.go
 | 1 =>
  refine goL ?_;refine ⟨_, rfl, rfl, rfl, goL ?_⟩;refine ⟨_, aq (n := l.length + m.length) (by show (l.length:Int) + ((af m).length : Int) = _; rw [ab]; omega) (by omega), goL ?_⟩;refine ⟨2, rfl, goL ?_⟩;refine ⟨2, ?_, by decide⟩;exact Ge.go
 | 2 =>
  refine goL ?_;refine cC (xg b (l.length + m.length) (by omega) (by omega)) (goL ?_);refine ⟨Fin 3, fun i => S.of [(6, .slc 24), (25, .p (.lst [.lst (af l), .lst (af m)])), (26, iv 2), (27, iv (match i with | 0 => 0 | 1 => 1 | 2 => 2))] [(24, .row 26 3 (match i with | 0 => [] | 1 => af l | 2 => af (l ++ m)))], fun i => 3 - i.1, 0, ?_, ?_⟩
  ·exact Ge.go
  intro i
  match i with
  | 0 =>
   refine goL ?_;refine ⟨_, rfl, rfl, rfl, goL ?_⟩;refine ⟨gD l, goL ?_⟩;refine ⟨by rw [ab]; show (0 + l.length) * 48 <= _; omega, goL ?_⟩;refine ⟨1, rfl, goL ?_⟩;refine ⟨1, ?_, by decide⟩;exact Ge.go
  | 1 =>
   refine goL ?_;refine ⟨_, rfl, rfl, rfl, goL ?_⟩;refine ⟨gD m, goL ?_⟩;refine ⟨by show ((af l).length + (af m).length) * 48 <= _; rw [ab, ab]; omega, goL ?_⟩;refine ⟨2, rfl, goL ?_⟩;refine ⟨2, ?_, by decide⟩;refine Ge.of rfl ?_ ?_
   ·repeat (conv => whnf); refine ⟨LE.of rfl, ?_⟩
    trivial
   ·conv => whnf
    refine ⟨OLE.of (by rw [aO]), ?_⟩;trivial
  | 2 =>
   refine goL ?_;exact LEP.refl _
end Go.Sl
open Go.Lib (decDigits)
theorem nq : ∀ u : Nat, ∀ c ∈ decDigits u, 48 <= c.toNat /\ c.toNat <= 57 := by
 intro u
 induction u using Nat.strongRecOn with
 | _ u ih =>
  intro c hc;rw [decDigits] at hc
  by_cases h : u < 10
  ·rw [dif_pos h] at hc;simp at hc;subst hc;simp [UInt8.toNat_ofNat'];omega
  ·rw [dif_neg h] at hc;rw [List.mem_append] at hc;rcases hc with hc | hc
   ·exact ih (u / 10) (by omega) c hc
   ·simp at hc;subst hc;simp [UInt8.toNat_ofNat'];omega
def AT (l : Bs) : Nat := l.foldl (fun n c => n * 10 + (c.toNat - 48)) 0
theorem qi (u : Nat) : AT (decDigits u) = u := by
 induction u using Nat.strongRecOn with
 | _ u ih =>
  rw [decDigits]
  by_cases h : u < 10
  ·rw [dif_pos h];simp [AT, UInt8.toNat_ofNat'];omega
  ·rw [dif_neg h];have := ih (u / 10) (by omega);unfold AT at this ⊢;rw [List.foldl_append, this];simp [UInt8.toNat_ofNat'];omega
theorem pJ {a b : Nat} (h : decDigits a = decDigits b) : a = b := by
 rw [<- qi a, h, qi]
theorem AU {p q r s : Bs} {c : UInt8} (hp : c ∉ p) (hq : c ∉ q) (h : p ++ c :: r = q ++ c :: s) : p = q /\ r = s := by
 induction p generalizing q with
 | nil =>
  cases q with
  | nil => simpa using h
  | cons x q =>
   simp at h;exact absurd (by rw [h.1]; exact List.mem_cons_self ..) hq
 | cons x p ih =>
  cases q with
  | nil =>
   simp at h;exact absurd (by rw [<- h.1]; exact List.mem_cons_self ..) hp
  | cons y q =>
   simp at h;have := ih (fun hc => hp (List.mem_cons_of_mem _ hc)) (fun hc => hq (List.mem_cons_of_mem _ hc)) h.2;exact ⟨by rw [h.1, this.1], this.2⟩
namespace Tm
def letter (k : Int) : UInt8 :=
 if k = 1 then 100 else if k = 2 then 97 else if k = 3 then 112 else if k = 4 then 101 else if k = 5 then 109 else
 if k = 6 then 104 else if k = 7 then 107 else if k = 8 then 117 else if k = 9 then 115 else 120
def named (k : Int) : Bool := k == 1 || k == 2 || k == 7
def arity (k : Int) : Int := if k = 1 \/ k = 2 then 0 else if k = 3 then -1 else if k = 6 \/ k = 7 \/ k = 8 then 1 else 2
def known (k : Int) : Bool := decide (1 <= k) && decide (k <= 10)
def nameText (n : Bs) : Bs := if n = [] then [] else decDigits n.length ++ 58 :: n
mutual
def text : Tm -> Bs
 | mk k n l => letter k :: (nameText n ++ (if l = [] /\ k ≠ 3 then [] else 40 :: (texts l ++ [41])))
def texts : List Tm -> Bs
 | [] => []
 | t :: ts => text t ++ texts' ts
def texts' : List Tm -> Bs
 | [] => []
 | t :: ts => 44 :: (text t ++ texts' ts)
end
mutual
def shp : Tm -> Bool
 | mk k n l => known k && (named k == !n.isEmpty) && (decide (arity k < 0) || decide ((l.length : Int) = arity k)) && oy l
def oy : List Tm -> Bool
 | [] => true
 | t :: ts => shp t && oy ts
end
theorem shps_iff (l : List Tm) : oy l = true ↔ ∀ t ∈ l, shp t = true := by
 induction l with
 | nil => simp [oy]
 | cons t ts ih => simp [oy, ih]
theorem vR {a b : Int} (ha : known a = true) (hb : known b = true) (h : letter a = letter b) : a = b := by
 simp [known] at ha hb;have ha' : a = 1 \/ a = 2 \/ a = 3 \/ a = 4 \/ a = 5 \/ a = 6 \/ a = 7 \/ a = 8 \/ a = 9 \/ a = 10 := by omega
 have hb' : b = 1 \/ b = 2 \/ b = 3 \/ b = 4 \/ b = 5 \/ b = 6 \/ b = 7 \/ b = 8 \/ b = 9 \/ b = 10 := by omega
 rcases ha' with rfl | rfl | rfl | rfl | rfl | rfl | rfl | rfl | rfl | rfl <;>
  rcases hb' with rfl | rfl | rfl | rfl | rfl | rfl | rfl | rfl | rfl | rfl <;> first | rfl | (revert h; decide)
theorem qj (k : Int) : 97 <= (letter k).toNat := by
 unfold letter
 repeat' split
 all_goals decide
theorem rC {n m r s : Bs} (hn : n ≠ []) (hm : m ≠ []) (h : nameText n ++ r = nameText m ++ s) : n = m /\ r = s := by
 simp only [nameText, hn, hm, if_false, List.append_assoc, List.cons_append] at h;have h58 : ∀ u, (58 : UInt8) ∉ decDigits u := fun u hc => by
  have := nq u 58 hc;revert this; decide
 obtain ⟨h1, h2⟩ := AU (h58 _) (h58 _) h;have hl := pJ h1;exact List.append_inj h2 hl
mutual
theorem text_inj : ∀ (t u : Tm) (r s : Bs), shp t = true -> shp u = true -> text t ++ r = text u ++ s -> t = u /\ r = s
 | mk k n l, mk k' n' l', r, s, ht, hu, h => by
  simp only [shp, Bool.and_eq_true, beq_iff_eq, Bool.or_eq_true, decide_eq_true_eq] at ht hu;obtain ⟨⟨⟨hk, hn⟩, ha⟩, hs⟩ := ht;obtain ⟨⟨⟨hk', hn'⟩, ha'⟩, hs'⟩ := hu;simp only [text, List.cons_append, List.append_assoc] at h
  injection h with h1 h2
  have hkk := vR hk hk' h1;subst hkk;have key : n = n' /\ (if l = [] /\ k ≠ 3 then [] else 40 :: (texts l ++ [41])) ++ r = (if l' = [] /\ k ≠ 3 then [] else 40 :: (texts l' ++ [41])) ++ s := by
   cases hb : named k with
   | true =>
    rw [hb] at hn hn';have a1 : n ≠ [] := by intro e; subst e; simp at hn
    have a2 : n' ≠ [] := by intro e; subst e; simp at hn'
    exact rC a1 a2 h2
   | false =>
    rw [hb] at hn hn';have a1 : n = [] := by simpa using hn.symm
    have a2 : n' = [] := by simpa using hn'.symm
    subst a1; subst a2;simp only [nameText, if_true, List.nil_append] at h2;exact ⟨rfl, h2⟩
  obtain ⟨rfl, h3⟩ := key
  by_cases h0 : arity k = 0
  ·have e1 : l = [] := by
    rcases ha with ha | ha
    ·omega
    ·rw [h0] at ha; exact List.length_eq_zero_iff.1 (by omega)
   have e2 : l' = [] := by
    rcases ha' with ha | ha
    ·omega
    ·rw [h0] at ha; exact List.length_eq_zero_iff.1 (by omega)
   subst e1; subst e2;have k3 : k ≠ 3 := by intro e; subst e; revert h0; decide
   simp [k3] at h3;exact ⟨rfl, h3⟩
  ·have c1 : ¬ (l = [] /\ k ≠ 3) := by
    rintro ⟨rfl, hk3⟩
    rcases ha with ha | ha
    ·unfold arity at ha; repeat' split at ha
     all_goals omega
    ·simp at ha; omega
   have c2 : ¬ (l' = [] /\ k ≠ 3) := by
    rintro ⟨rfl, hk3⟩
    rcases ha' with ha | ha
    ·unfold arity at ha; repeat' split at ha
     all_goals omega
    ·simp at ha; omega
   rw [if_neg c1, if_neg c2] at h3;simp only [List.cons_append, List.append_assoc] at h3
   injection h3 with _ h4
   obtain ⟨rfl, h5⟩ := yn l l' r s hs hs' (by simpa using h4);exact ⟨rfl, h5⟩
theorem yn : ∀ (l l' : List Tm) (r s : Bs), oy l = true -> oy l' = true -> texts l ++ 41 :: r = texts l' ++ 41 :: s -> l = l' /\ r = s
 | [], [], r, s, _, _, h => by simpa [texts] using h
 | [], mk k n l :: us, r, s, _, hu, h => by
  simp only [texts, text, List.nil_append, List.cons_append] at h
  injection h with h1 _
  have := qj k;rw [<- h1] at this;exact absurd this (by decide)
 | mk k n l :: us, [], r, s, _, hu, h => by
  simp only [texts, text, List.nil_append, List.cons_append] at h
  injection h with h1 _
  have := qj k;rw [h1] at this;exact absurd this (by decide)
 | t :: ts, u :: us, r, s, ht, hu, h => by
  simp only [oy, Bool.and_eq_true] at ht hu;simp only [texts, List.append_assoc] at h;obtain ⟨rfl, h1⟩ := text_inj t u _ _ ht.1 hu.1 h;obtain ⟨rfl, h2⟩ := oz ts us r s ht.2 hu.2 h1;exact ⟨rfl, h2⟩
theorem oz : ∀ (l l' : List Tm) (r s : Bs), oy l = true -> oy l' = true -> texts' l ++ 41 :: r = texts' l' ++ 41 :: s -> l = l' /\ r = s
 | [], [], r, s, _, _, h => by simpa [texts'] using h
 | [], u :: us, r, s, _, hu, h => by
  simp only [texts', List.nil_append, List.cons_append] at h
  injection h with h1 _
  exact absurd h1 (by decide)
 | t :: ts, [], r, s, _, hu, h => by
  simp only [texts', List.nil_append, List.cons_append] at h
  injection h with h1 _
  exact absurd h1 (by decide)
 | t :: ts, u :: us, r, s, ht, hu, h => by
  simp only [oy, Bool.and_eq_true] at ht hu;simp only [texts', List.cons_append, List.append_assoc] at h
  injection h with _ h
  obtain ⟨rfl, h1⟩ := text_inj t u _ _ ht.1 hu.1 h;obtain ⟨rfl, h2⟩ := oz ts us r s ht.2 hu.2 h1;exact ⟨rfl, h2⟩
end
theorem text_ne (t : Tm) : text t ≠ [] := by cases t; simp [text]
end Tm
namespace Go.Sl
open Go Go.Vc Go.Proofs Go.RowKit
theorem ar.ob1 {C : Cx} {η : Nat -> AO} {f : FuncId} {args : List SV} {r : Res} {κ ty : Nat} {x : SV} (h : PC C f (am [(κ, .var false ty x)]) args r) (hκ : κ ∈ SV.keysL args) (hη : (η κ).ro = .var false ty x)
  (hkeys : ∀ q ∈ SV.keysL args, q = κ) (hx : x.keys = []) (hs : (args.all mP || r.scalar) = true) : ar C η f args args r := by
 have h1 : ∀ q, am [(κ, .var false ty x)] q = if q = κ then .var false ty x else .no := fun q => by
  show cond (Nat.beq q κ) _ _ = _;rw [ai];rfl
 refine ⟨⟨_, args, LEL.refl _, h, fun q => ?_, fun q hq => ?_, fun q q' hq => ?_, ?_⟩⟩
 ·rw [h1];split
  ·rename_i e;subst e;exact .inr ⟨.base hκ, hη.symm⟩
  ·exact .inl rfl
 ·rw [h1, hkeys q hq, if_pos rfl];rfl
 ·rw [h1] at hq;split at hq
  ·have hq : q' ∈ x.keys := hq;rw [hx] at hq;cases hq
  ·cases hq
 ·cases e : r.scalar with
  | true => exact .inl rfl
  | false =>
   rw [e, Bool.or_false] at hs;exact .inr fun x hx => List.all_eq_true.1 hs x hx
def md (p : Tm -> Bool) : List Tm -> Int
 | [] => -1
 | t :: ts => if p t then 0 else if md p ts < 0 then -1 else md p ts + 1
theorem qk (p : Tm -> Bool) (l : List Tm) : 0 <= md p l ↔ l.any p = true := by
 induction l with
 | nil => simp [md]
 | cons t ts ih =>
  rw [List.any_cons, Bool.or_eq_true, <- ih];simp only [md]
  by_cases h : p t = true
  ·simp [h]
  ·rw [if_neg h]
   by_cases h2 : md p ts < 0
   ·rw [if_pos h2];exact ⟨fun h3 => by omega, fun h3 => by rcases h3 with h3 | h3; exact absurd h3 h; omega⟩
   ·rw [if_neg h2];exact ⟨fun _ => .inr (by omega), fun _ => by omega⟩
theorem ql (p : Tm -> Bool) (l : List Tm) (h : ∀ t ∈ l, p t = false) : md p l = -1 := by
 induction l with
 | nil => rfl
 | cons t ts ih =>
  simp only [md];rw [h t (List.mem_cons_self ..), ih fun u hu => h u (List.mem_cons_of_mem _ hu)];simp
theorem qm (p : Tm -> Bool) (l : List Tm) (i : Nat) (hi : i < l.length) (h : ∀ t ∈ l.take i, p t = false) (hp : p l[i] = true) : md p l = i := by
 induction l generalizing i with
 | nil => simp at hi
 | cons t ts ih =>
  cases i with
  | zero => simp at hp; simp [md, hp]
  | succ i =>
   have h0 := h t (by simp);have := ih i (by simpa using hi) (fun u hu => h u (by simp [hu])) (by simpa using hp);simp only [md, h0, this];simp;omega
theorem yo (b : Bool) (f : Nat) (n : Int) (p : Tm -> Bool) (l : List Tm) (hl : l.length <= 9223372036854775807)
  (hp : ∀ t ∈ l, PC (cx b) f (am [(3, .var false 3 (iv n))]) [tv t, .ptr 3 0] (.pv (.bool (p t)))) :
  PC (cx b) 218 (am [(3, .var false 3 (iv n))]) [lv l, .fn f [.ptr 3 0]] (.pv (.int .i64 (md p l))) := by
 refine pcv {} Tryz.func218 ?_;refine goS ?_;refine ⟨{ i : Rd l.length // ∀ t ∈ l.take i.1, p t = false }, fun i => S.of [(0, lv l), (1, .fn f [.ptr 3 0]), (7, iv ((af l).length : Int)), (8, iv (i.1.1 : Int))] [(3, .var false 3 (iv n))], fun i => l.length - i.1.1, ⟨Rd.zero _, by simp [Rd.zero]⟩, ?_, ?_⟩
 ·exact Ge.go
 rintro ⟨⟨i, hi⟩, hno⟩
 refine goS ?_;refine aa ?_ ?_ <;> intro h1
 ·have hlt : i < l.length := by have := of_decide_eq_true h1; rw [ab] at this; exact Int.ofNat_lt.1 this
  refine goS ?_;refine ⟨Int.natCast_nonneg _, TV l[i], bQ hlt, rfl, rfl, goS ?_⟩;refine ⟨_, ar.ob1 (hp l[i] (List.getElem_mem hlt)) (by simp [SV.keysL, SV.keys]) rfl (by simp [SV.keysL, SV.keys]) rfl rfl, goS ?_⟩;refine aa ?_ ?_ <;> intro h2
  ·refine goS ?_;exact LEP.of (congrArg (PV.int .i64) (qm p l i hlt hno h2).symm)
  ·refine goS ?_;refine ⟨_, aq (n := i + 1) rfl (by omega), goS ?_⟩;refine ⟨⟨⟨i + 1, hlt⟩, ?_⟩, ?_, by show l.length - (i + 1) < l.length - i; omega⟩
   ·intro t ht;rw [List.take_succ_eq_append_getElem hlt, List.mem_append, List.mem_singleton] at ht;rcases ht with ht | rfl
    ·exact hno t ht
    ·exact h2
   ·exact Ge.go
 ·have hge : i = l.length := by have := of_decide_eq_false h1; rw [ab] at this; have h2 : ¬ ((i : Int) < l.length) := this; omega
  refine goS ?_;exact LEP.of (congrArg (PV.int .i64) (ql p l fun t ht => hno t (by rw [show l.take i = l from List.take_of_length_le (by omega)]; exact ht)).symm)
theorem la (b : Bool) (f : Nat) (n : Int) (p : Tm -> Bool) (l : List Tm) (hl : l.length <= 9223372036854775807)
  (hp : ∀ t ∈ l, PC (cx b) f (am [(3, .var false 3 (iv n))]) [tv t, .ptr 3 0] (.pv (.bool (p t)))) :
  PC (cx b) 192 (am [(3, .var false 3 (iv n))]) [lv l, .fn f [.ptr 3 0]] (.pv (.bool (l.any p))) := by
 refine pcv {} Tryz.func192 ?_;refine goS ?_;refine ⟨_, ar.ob1 (yo b f n p l hl hp) (by simp [SV.keysL, SV.keys]) rfl (by simp [SV.keysL, SV.keys]) rfl rfl, goS ?_⟩;refine LEP.of (congrArg PV.bool ?_);rw [Bool.eq_iff_iff, decide_eq_true_eq];exact qk p l
theorem AV (b : Bool) (t : Tm) : K b 191 [tv t] (.pv (.bool (Tm.known t.kind))) := by
 refine pcv {} Tryz.func191 ?_;refine goS ?_;refine aa ?_ ?_ <;> intro h1
 ·have h1 : 1 <= t.kind := of_decide_eq_true h1;refine goS ?_;exact LEP.of (congrArg PV.bool (by simp [Tm.known, h1]))
 ·have h1 : ¬ 1 <= t.kind := of_decide_eq_false h1;refine goS ?_;exact LEP.of (congrArg PV.bool (by simp [Tm.known, h1]))
theorem oA {k : Int} (h : Tm.known k = true) : ou[k.toNat]? = some (kd [Tm.letter k] (Tm.arity k) (Tm.named k)) := by
 simp only [Tm.known, Bool.and_eq_true, decide_eq_true_eq] at h;have : k = 1 \/ k = 2 \/ k = 3 \/ k = 4 \/ k = 5 \/ k = 6 \/ k = 7 \/ k = 8 \/ k = 9 \/ k = 10 := by omega
 rcases this with rfl | rfl | rfl | rfl | rfl | rfl | rfl | rfl | rfl | rfl <;> rfl
mutual
def dX : Tm -> Nat -> Bool
 | .mk k n l, d => match d with
  | 0 => false
  | d + 1 => Tm.known k && (Tm.named k == !n.isEmpty) && (decide (Tm.arity k < 0) || decide ((l.length : Int) = Tm.arity k)) && m7 l d
def m7 : List Tm -> Nat -> Bool
 | [], _ => true
 | t :: ts, d => dX t d && m7 ts d
end
theorem qn (l : List Tm) (d : Nat) : m7 l d = !(l.any fun t => !dX t d) := by
 induction l with
 | nil => rfl
 | cons t ts ih => rw [m7, ih, List.any_cons]; cases dX t d <;> simp
theorem iA (t : Tm) (d : Nat) : dX t (d + 1) = (Tm.known t.kind && (Tm.named t.kind == !t.name.isEmpty) && (decide (Tm.arity t.kind < 0) || decide ((t.kids.length : Int) = Tm.arity t.kind)) && m7 t.kids d) := by cases t; rfl
theorem me (t : Tm) : dX t 0 = false := by cases t; rfl
theorem tm : ∀ t, Fit t -> ∀ d : Nat, d <= 1000 -> K true 145 [tv t, iv d] (.pv (.bool (dX t d))) := by
 intro t
 induction t using Tm.indk with
 | h t ih =>
 intro hf d hd;have hcl : ∀ u ∈ t.kids, 0 < d -> PC (cx true) 193 (am [(3, .var false 3 (iv d))]) [tv u, .ptr 3 0] (.pv (.bool (!dX u (d - 1)))) := by
  intro u hu h0;have b := true;refine pcv {} Tryz.func193 ?_;refine goS ?_;refine ⟨_, aq (n := d - 1) (by omega) (by omega), goS ?_⟩;refine cC (ih u hu (hf.kid hu) (d - 1) (by omega)) (goS ?_);exact LEP.refl _
 refine pcv {} Tryz.func145 ?_;refine goS ?_;refine aa ?_ ?_ <;> intro h1
 ·have h1 : d = 0 := by have : (d : Int) = 0 := of_decide_eq_true h1; omega
  subst h1;refine goS ?_;exact LEP.of (congrArg PV.bool (me t).symm)
 ·have h1 : 0 < d := by have : ¬ (d : Int) = 0 := of_decide_eq_false h1; omega
  obtain ⟨e, rfl⟩ : ∃ e, d = e + 1 := ⟨d - 1, by omega⟩
  refine goS ?_;refine cC (AV true t) (goS ?_);refine aa ?_ ?_ <;> intro h2
  ·have h2 : Tm.known t.kind = false := by simpa using h2
   refine goS ?_;exact LEP.of (congrArg PV.bool (by rw [iA, h2]; simp))
  ·have h2 : Tm.known t.kind = true := by simpa using h2
   have hk : 0 <= t.kind := by simp only [Tm.known, Bool.and_eq_true, decide_eq_true_eq] at h2; omega
   refine goS ?_;refine ⟨hk, _, oA h2, rfl, rfl, rfl, goS ?_⟩;refine aa ?_ ?_ <;> intro h3
   ·have h3 : Tm.named t.kind = decide (t.name = []) := by simpa using h3
    refine goS ?_;refine LEP.of (congrArg PV.bool ?_);rw [iA, h3];cases t.name <;> simp
   ·have h3 : (Tm.named t.kind == !t.name.isEmpty) = true := by
     have h3 : ¬ Tm.named t.kind = decide (t.name = []) := by simpa using h3
     revert h3;cases t.name <;> cases Tm.named t.kind <;> simp
    refine goS ?_;refine ⟨hk, _, oA h2, rfl, rfl, rfl, goS ?_⟩;have fin : ∀ (hz : (decide (Tm.arity t.kind < 0) || decide ((t.kids.length : Int) = Tm.arity t.kind)) = true), dX t (e + 1) = !(t.kids.any fun u => !dX u e) := by
     intro hz;rw [iA, h2, h3, hz, qn];simp
    refine aa ?_ ?_ <;> intro h4
    ·have h4 : 0 <= Tm.arity t.kind := of_decide_eq_true h4;refine goS ?_;refine aa ?_ ?_ <;> intro h5
     ·have h5 : ¬ (t.kids.length : Int) = Tm.arity t.kind := by have := of_decide_eq_true h5; rw [ab] at this; exact this
      refine goS ?_;refine LEP.of (congrArg PV.bool ?_);rw [iA, decide_eq_false h5, decide_eq_false (show ¬ Tm.arity t.kind < 0 by omega)];simp
     ·have h5 : (t.kids.length : Int) = Tm.arity t.kind := by have := of_decide_eq_false h5; rw [ab] at this; exact Classical.not_not.1 this
      rw [fin (by rw [decide_eq_true h5]; simp)];refine goS ?_;refine ⟨_, ar.ob1 (la true _ ((e + 1 : Nat) : Int) (fun u => !dX u e) t.kids hf.len fun u hu => hcl u hu h1) (by simp [SV.keysL, SV.keys]) (by conv => lhs; whnf) (by simp [SV.keysL, SV.keys]) rfl rfl, goS ?_⟩;exact LEP.refl _
    ·have h4 : Tm.arity t.kind < 0 := by have := of_decide_eq_false h4; omega
     rw [fin (by rw [decide_eq_true h4]; simp)];refine goS ?_;refine ⟨_, ar.ob1 (la true _ ((e + 1 : Nat) : Int) (fun u => !dX u e) t.kids hf.len fun u hu => hcl u hu h1) (by simp [SV.keysL, SV.keys]) (by conv => lhs; whnf) (by simp [SV.keysL, SV.keys]) rfl rfl, goS ?_⟩;exact LEP.refl _
end Go.Sl
namespace Go.Sl
open Go Go.Vc Go.Proofs Go.RowKit
def aC (l : List Bs) : List PV := l.map .str
theorem al (l : List Bs) : (aC l).length = l.length := by simp [aC]
theorem rD (l : List Bs) : gm (false, 1) (aC l) := by
 induction l with
 | nil => trivial
 | cons x l ih => exact ⟨rfl, ih⟩
theorem lb (b : Bool) (xs : List Bs) (sep : Bs) (hN : xs.length <= 140737488355328) (hlen : (Lib.join xs sep).length <= 140737488355328) : K b 194 [.p (.lst (aC xs)), sv sep] (.pv (.str (Lib.join xs sep))) := by
 refine ⟨⟨_, Tryz.func194, rfl, rfl⟩, fun ok β w vs hG hlt hr _ _ _ _ => ?_⟩
 match vs, hr with
 | [v, u], hr =>
  obtain ⟨hr, hr2, _⟩ := hr;rw [R, RP] at hr;rw [R, RP] at hr2;subst hr2;obtain ⟨A, cap, sz, rfl, hcap, hmax, hE⟩ := hr;rw [al] at hcap ⊢;cases xs with
  | nil =>
   refine (Tryz.strings_Join_none A cap ⟨sep.toArray⟩ w).mono ?_
   rintro e w' ⟨rfl, rfl⟩
   exact ⟨_, rfl, by rw [RES, RP]; rfl, Below.refl _ _⟩
  | cons x xs =>
   have hget : ∀ (j : Nat) y, (x :: xs)[j]? = some y -> ∃ ad, A = some ad /\ ok ad.block /\ w.cell? (ad.add j) = some (.string ⟨y.toArray⟩) := by
    intro j y hj;obtain ⟨ad, c, h1, h2, h3, h4, h5⟩ := kK hE (i := j) (x := .str y) (by rw [aC, List.getElem?_map, hj]; rfl);rw [RP] at h3;subst h3;have hsz : sz = 1 := h4.symm;subst hsz;refine ⟨ad, h1, h2, ?_⟩;have := h5 0 (.string ⟨y.toArray⟩) rfl;simpa using this
   obtain ⟨ad, rfl, hok, hc0⟩ := hget 0 x rfl;obtain ⟨bk, o, spot⟩ := ad;have hspot : spot = none := by simpa [Addr.add] using World.cell?_spot hc0
   subst hspot;have := Tryz.strings_Join bk o cap ((x :: xs).map fun y => (⟨y.toArray⟩ : ByteArray)) ⟨sep.toArray⟩ w (fun j y hj => by
    rw [List.getElem?_map] at hj;obtain ⟨z, hz, rfl⟩ := Option.map_eq_some_iff.1 hj;obtain ⟨ad, h1, _, h3⟩ := hget j z hz;cases h1
    rwa [bd] at h3) (hlt _ hok) (by rw [List.length_map]; exact hN) (by rw [List.length_map]; exact hcap) (by simpa [List.map_map, Function.comp_def] using hlen)
   rw [List.length_map] at this;refine this.mono ?_
   rintro e w' ⟨rfl, hb⟩
   exact ⟨_, rfl, by rw [RES, RP]; simp [List.map_map, Function.comp_def], hb⟩
theorem cT (l : List Tm) : Lib.join (l.map Tm.text) [44] = Tm.texts l := by
 have ht : ∀ l : List Tm, Lib.joinTail [44] (l.map Tm.text) = Tm.texts' l := by
  intro l
  induction l with
  | nil => simp [Lib.joinTail, Tm.texts']
  | cons t ts ih =>
   rw [Tm.texts', <- ih];simp [Lib.joinTail]
 cases l with
 | nil => simp [Lib.join_nil, Tm.texts]
 | cons t ts => rw [List.map_cons, Lib.join_cons, ht, Tm.texts]
theorem iB (t : Tm) : t.text = Tm.letter t.kind :: (Tm.nameText t.name ++ (if t.kids = [] /\ t.kind ≠ 3 then [] else 40 :: (Tm.texts t.kids ++ [41]))) := by cases t; rw [Tm.text]; rfl
theorem AW (t : Tm) : 1 <= t.text.length := by rw [iB]; simp
theorem vS (l : List Tm) : l.length <= (Tm.texts' l).length /\ ∀ u ∈ l, u.text.length <= (Tm.texts' l).length := by
 induction l with
 | nil => simp
 | cons t ts ih =>
  rw [Tm.texts'];simp only [List.length_cons, List.length_append, List.mem_cons];refine ⟨by omega, ?_⟩
  rintro u (rfl | hu)
  ·omega
  ·have := ih.2 u hu;omega
theorem g9 (l : List Tm) : l.length <= (Tm.texts l).length /\ ∀ u ∈ l, u.text.length <= (Tm.texts l).length := by
 cases l with
 | nil => simp
 | cons t ts =>
  rw [Tm.texts];have := vS ts;have hp := AW t;simp only [List.length_cons, List.length_append, List.mem_cons];refine ⟨by omega, ?_⟩
  rintro u (rfl | hu)
  ·omega
  ·have := this.2 u hu;omega
theorem xh {a b : Nat} (h : a + b <= 8796093022208) : (a + b) * xe.bytes <= 140737488355328 := by
 show (a + b) * 16 <= 140737488355328;omega
theorem jO {l : List Tm} {i : Nat} (h : i < l.length) : aC ((l.take i).map Tm.text) ++ [.str l[i].text] = aC ((l.take (i + 1)).map Tm.text) := by
 rw [List.take_succ_eq_append_getElem h, List.map_append, aC, aC, List.map_append];rfl
theorem lc {t : Tm} (h : t.shp = true) : Tm.known t.kind = true /\ ∀ u ∈ t.kids, u.shp = true := by
 obtain ⟨k, n, l⟩ := t;simp only [Tm.shp, Bool.and_eq_true] at h;exact ⟨h.1.1.1, (Tm.shps_iff l).1 h.2⟩
abbrev oB (n : Nat) : Bs := Lib.itoa (n : Int)
theorem rE : ∀ t, Fit t -> t.shp = true -> t.text.length <= 1099511627776 -> K true 146 [tv t] (.pv (.str t.text)) := by
 intro t
 induction t using Tm.indk with
 | h t ih =>
 intro hf hs hb;obtain ⟨hk, hks⟩ := lc hs;have hk0 : 0 <= t.kind := by simp only [Tm.known, Bool.and_eq_true, decide_eq_true_eq] at hk; omega
 have hlen := hf.len;have hnl : (Tm.nameText t.name).length <= 1099511627776 := by rw [iB] at hb; simp at hb; omega
 have htx : ¬ (t.kids = [] /\ t.kind ≠ 3) -> (Tm.texts t.kids).length + (Tm.nameText t.name).length + 3 <= 1099511627776 := by
  intro h;rw [iB, if_neg h] at hb;simp at hb;omega
 have hdone : t.kids = [] /\ t.kind ≠ 3 -> t.text = Tm.letter t.kind :: Tm.nameText t.name := by
  intro h;rw [iB, if_pos h];simp
 have hgo : ¬ (t.kids = [] /\ t.kind ≠ 3) -> t.text = Tm.letter t.kind :: Tm.nameText t.name ++ [40] ++ Tm.texts t.kids ++ [41] := by
  intro h;rw [iB, if_neg h];simp
 have hz : ((af t.kids).length : Int) = 0 ↔ t.kids = [] := by
  rw [ab];cases t.kids <;> simp
  omega
 refine pcv { own := oO [4, 46] } Tryz.func146 ?_;refine goS ?_;refine ⟨hk0, _, oA hk, rfl, rfl, rfl, goS ?_⟩;refine aa ?_ ?_ <;> intro h1
 ·have h1 : t.name ≠ [] := of_decide_eq_true h1;have hP2 : [Tm.letter t.kind] ++ (oB t.name.length ++ [58] ++ t.name) = Tm.letter t.kind :: Tm.nameText t.name := by simp [oB, Lib.itoa, Tm.nameText, h1]
  have hP : (SV.p (.str ([Tm.letter t.kind] ++ (oB t.name.length ++ [58] ++ t.name)))) = sv (Tm.letter t.kind :: Tm.nameText t.name) := by rw [hP2]
  have hnn : (oB t.name.length).length + 1 + t.name.length = (Tm.nameText t.name).length := by have := congrArg List.length hP2; simp at this; omega
  refine goS ?_;refine cC (cL true (t.name.length : Int) (by omega) (by omega)) (goS ?_);refine ⟨by show (oB t.name.length).length + 1 <= _; omega, goS ?_⟩;refine ⟨by show (oB t.name.length ++ [58]).length + t.name.length <= _; rw [List.length_append]; show _ + 1 + _ <= _; omega, goS ?_⟩;refine ⟨by show 1 + (oB t.name.length ++ [58] ++ t.name).length <= _; rw [List.length_append, List.length_append]; show 1 + (_ + 1 + _) <= _; omega, goS ?_⟩;refine aa ?_ ?_ <;> intro h2
  ·have h2 : t.kids = [] := hz.1 (of_decide_eq_true h2);refine goS ?_;refine aa ?_ ?_ <;> intro h3
   ·have h3 : t.kind ≠ 3 := of_decide_eq_true h3;refine goS ?_;exact LEP.of (congrArg PV.str (hP2.trans (hdone ⟨h2, h3⟩).symm))
   ·have h3 : t.kind = 3 := by simpa using h3
    have hno : ¬ (t.kids = [] /\ t.kind ≠ 3) := fun h => h.2 h3
    have hb2 := htx hno;obtain ⟨hkl, hkt⟩ := g9 t.kids;refine goS ?_;refine ⟨Rd t.kids.length, fun i => S.of [(1, .ptr 1 0), (3, sv (Tm.letter t.kind :: Tm.nameText t.name)), (4, .slc 4), (36, lv t.kids), (37, iv ((af t.kids).length : Int)), (38, iv (i.1 : Int))] [(1, .var true 26 (tv t)), (4, .row 9 1 (aC ((t.kids.take i.1).map Tm.text)))], fun i => t.kids.length - i.1, Rd.zero _, ?_, ?_⟩
    ·refine Ge.of rfl ?_ ?_
     ·repeat (conv => whnf); first | refine ⟨LE.of hP, ?_⟩ | refine ⟨LE.of rfl, ?_⟩
      trivial
     ·repeat (conv => whnf); refine ⟨OLE.of rfl, ?_⟩
      trivial
    rintro ⟨i, hi⟩
    refine goS ?_;refine aa ?_ ?_ <;> intro h4
    ·have hlt : i < t.kids.length := by have := of_decide_eq_true h4; rw [ab] at this; exact Int.ofNat_lt.1 this
     have hm := List.getElem_mem hlt;refine goS ?_;refine ⟨Int.natCast_nonneg _, TV t.kids[i], bQ hlt, rfl, rfl, goS ?_⟩;refine cC (ih t.kids[i] hm (hf.kid hm) (hks _ hm) (by have := hkt _ hm; omega)) (goS ?_);refine ⟨xh (by simp only [al, List.length_map, List.length_take, List.length_cons, List.length_nil]; omega), goS ?_⟩;refine ⟨_, aq (n := i + 1) rfl (by omega), goS ?_⟩;refine ⟨⟨i + 1, hlt⟩, ?_, by show t.kids.length - (i + 1) < t.kids.length - i; omega⟩;refine Ge.of rfl ?_ ?_
     ·repeat (conv => whnf); refine ⟨LE.of rfl, ?_⟩
      trivial
     ·conv => whnf
      refine ⟨OLE.of rfl, ?_⟩
      conv => whnf
      refine ⟨OLE.of (congrArg _ (jO hlt)), ?_⟩;trivial
    ·have hge : t.kids.take i = t.kids := List.take_of_length_le (by have := of_decide_eq_false h4; rw [ab] at this; have h5 : ¬ ((i : Int) < t.kids.length) := this; omega);have hj := lb true (t.kids.map Tm.text) [44] (by rw [List.length_map]; omega) (by rw [cT]; omega);rw [cT] at hj;rw [<- hge] at hj;refine goS ?_;refine ⟨by show (Tm.letter t.kind :: Tm.nameText t.name).length + 1 <= _; rw [List.length_cons]; omega, goS ?_⟩;refine cC hj ?_;rw [hge];refine goS ?_;refine ⟨by show (Tm.letter t.kind :: Tm.nameText t.name ++ [40]).length + _ <= _; rw [List.length_append, List.length_cons]; show _ + 1 + 1 + _ <= _; omega, goS ?_⟩;refine ⟨by show (Tm.letter t.kind :: Tm.nameText t.name ++ [40] ++ Tm.texts t.kids).length + 1 <= _; rw [List.length_append, List.length_append, List.length_cons]; show _ + 1 + 1 + _ + 1 <= _; omega, goS ?_⟩;exact LEP.of (congrArg PV.str (hgo hno).symm)
  ·have h2 : ¬ t.kids = [] := fun e => of_decide_eq_false h2 (hz.2 e)
   have hno : ¬ (t.kids = [] /\ t.kind ≠ 3) := fun h => h2 h.1
   have hb2 := htx hno;obtain ⟨hkl, hkt⟩ := g9 t.kids;refine goS ?_;refine ⟨Rd t.kids.length, fun i => S.of [(1, .ptr 1 0), (3, sv (Tm.letter t.kind :: Tm.nameText t.name)), (4, .slc 4), (36, lv t.kids), (37, iv ((af t.kids).length : Int)), (38, iv (i.1 : Int))] [(1, .var true 26 (tv t)), (4, .row 9 1 (aC ((t.kids.take i.1).map Tm.text)))], fun i => t.kids.length - i.1, Rd.zero _, ?_, ?_⟩
   ·refine Ge.of rfl ?_ ?_
    ·repeat (conv => whnf); first | refine ⟨LE.of hP, ?_⟩ | refine ⟨LE.of rfl, ?_⟩
     trivial
    ·repeat (conv => whnf); refine ⟨OLE.of rfl, ?_⟩
     trivial
   rintro ⟨i, hi⟩
   refine goS ?_;refine aa ?_ ?_ <;> intro h4
   ·have hlt : i < t.kids.length := by have := of_decide_eq_true h4; rw [ab] at this; exact Int.ofNat_lt.1 this
    have hm := List.getElem_mem hlt;refine goS ?_;refine ⟨Int.natCast_nonneg _, TV t.kids[i], bQ hlt, rfl, rfl, goS ?_⟩;refine cC (ih t.kids[i] hm (hf.kid hm) (hks _ hm) (by have := hkt _ hm; omega)) (goS ?_);refine ⟨xh (by simp only [al, List.length_map, List.length_take, List.length_cons, List.length_nil]; omega), goS ?_⟩;refine ⟨_, aq (n := i + 1) rfl (by omega), goS ?_⟩;refine ⟨⟨i + 1, hlt⟩, ?_, by show t.kids.length - (i + 1) < t.kids.length - i; omega⟩;refine Ge.of rfl ?_ ?_
    ·repeat (conv => whnf); refine ⟨LE.of rfl, ?_⟩
     trivial
    ·conv => whnf
     refine ⟨OLE.of rfl, ?_⟩
     conv => whnf
     refine ⟨OLE.of (congrArg _ (jO hlt)), ?_⟩;trivial
   ·have hge : t.kids.take i = t.kids := List.take_of_length_le (by have := of_decide_eq_false h4; rw [ab] at this; have h5 : ¬ ((i : Int) < t.kids.length) := this; omega);have hj := lb true (t.kids.map Tm.text) [44] (by rw [List.length_map]; omega) (by rw [cT]; omega);rw [cT] at hj;rw [<- hge] at hj;refine goS ?_;refine ⟨by show (Tm.letter t.kind :: Tm.nameText t.name).length + 1 <= _; rw [List.length_cons]; omega, goS ?_⟩;refine cC hj ?_;rw [hge];refine goS ?_;refine ⟨by show (Tm.letter t.kind :: Tm.nameText t.name ++ [40]).length + _ <= _; rw [List.length_append, List.length_cons]; show _ + 1 + 1 + _ <= _; omega, goS ?_⟩;refine ⟨by show (Tm.letter t.kind :: Tm.nameText t.name ++ [40] ++ Tm.texts t.kids).length + 1 <= _; rw [List.length_append, List.length_append, List.length_cons]; show _ + 1 + 1 + _ + 1 <= _; omega, goS ?_⟩;exact LEP.of (congrArg PV.str (hgo hno).symm)
 ·have h1 : t.name = [] := by simpa using h1
  have hP2 : [Tm.letter t.kind] = Tm.letter t.kind :: Tm.nameText t.name := by simp [Tm.nameText, h1]
  have hP : (SV.p (.str [Tm.letter t.kind])) = sv (Tm.letter t.kind :: Tm.nameText t.name) := by rw [hP2]
  refine goS ?_;refine aa ?_ ?_ <;> intro h2
  ·have h2 : t.kids = [] := hz.1 (of_decide_eq_true h2);refine goS ?_;refine aa ?_ ?_ <;> intro h3
   ·have h3 : t.kind ≠ 3 := of_decide_eq_true h3;refine goS ?_;exact LEP.of (congrArg PV.str (hP2.trans (hdone ⟨h2, h3⟩).symm))
   ·have h3 : t.kind = 3 := by simpa using h3
    have hno : ¬ (t.kids = [] /\ t.kind ≠ 3) := fun h => h.2 h3
    have hb2 := htx hno;obtain ⟨hkl, hkt⟩ := g9 t.kids;refine goS ?_;refine ⟨Rd t.kids.length, fun i => S.of [(1, .ptr 1 0), (3, sv (Tm.letter t.kind :: Tm.nameText t.name)), (4, .slc 4), (36, lv t.kids), (37, iv ((af t.kids).length : Int)), (38, iv (i.1 : Int))] [(1, .var true 26 (tv t)), (4, .row 9 1 (aC ((t.kids.take i.1).map Tm.text)))], fun i => t.kids.length - i.1, Rd.zero _, ?_, ?_⟩
    ·refine Ge.of rfl ?_ ?_
     ·repeat (conv => whnf); first | refine ⟨LE.of hP, ?_⟩ | refine ⟨LE.of rfl, ?_⟩
      trivial
     ·repeat (conv => whnf); refine ⟨OLE.of rfl, ?_⟩
      trivial
    rintro ⟨i, hi⟩
    refine goS ?_;refine aa ?_ ?_ <;> intro h4
    ·have hlt : i < t.kids.length := by have := of_decide_eq_true h4; rw [ab] at this; exact Int.ofNat_lt.1 this
     have hm := List.getElem_mem hlt;refine goS ?_;refine ⟨Int.natCast_nonneg _, TV t.kids[i], bQ hlt, rfl, rfl, goS ?_⟩;refine cC (ih t.kids[i] hm (hf.kid hm) (hks _ hm) (by have := hkt _ hm; omega)) (goS ?_);refine ⟨xh (by simp only [al, List.length_map, List.length_take, List.length_cons, List.length_nil]; omega), goS ?_⟩;refine ⟨_, aq (n := i + 1) rfl (by omega), goS ?_⟩;refine ⟨⟨i + 1, hlt⟩, ?_, by show t.kids.length - (i + 1) < t.kids.length - i; omega⟩;refine Ge.of rfl ?_ ?_
     ·repeat (conv => whnf); refine ⟨LE.of rfl, ?_⟩
      trivial
     ·conv => whnf
      refine ⟨OLE.of rfl, ?_⟩
      conv => whnf
      refine ⟨OLE.of (congrArg _ (jO hlt)), ?_⟩;trivial
    ·have hge : t.kids.take i = t.kids := List.take_of_length_le (by have := of_decide_eq_false h4; rw [ab] at this; have h5 : ¬ ((i : Int) < t.kids.length) := this; omega);have hj := lb true (t.kids.map Tm.text) [44] (by rw [List.length_map]; omega) (by rw [cT]; omega);rw [cT] at hj;rw [<- hge] at hj;refine goS ?_;refine ⟨by show (Tm.letter t.kind :: Tm.nameText t.name).length + 1 <= _; rw [List.length_cons]; omega, goS ?_⟩;refine cC hj ?_;rw [hge];refine goS ?_;refine ⟨by show (Tm.letter t.kind :: Tm.nameText t.name ++ [40]).length + _ <= _; rw [List.length_append, List.length_cons]; show _ + 1 + 1 + _ <= _; omega, goS ?_⟩;refine ⟨by show (Tm.letter t.kind :: Tm.nameText t.name ++ [40] ++ Tm.texts t.kids).length + 1 <= _; rw [List.length_append, List.length_append, List.length_cons]; show _ + 1 + 1 + _ + 1 <= _; omega, goS ?_⟩;exact LEP.of (congrArg PV.str (hgo hno).symm)
  ·have h2 : ¬ t.kids = [] := fun e => of_decide_eq_false h2 (hz.2 e)
   have hno : ¬ (t.kids = [] /\ t.kind ≠ 3) := fun h => h2 h.1
   have hb2 := htx hno;obtain ⟨hkl, hkt⟩ := g9 t.kids;refine goS ?_;refine ⟨Rd t.kids.length, fun i => S.of [(1, .ptr 1 0), (3, sv (Tm.letter t.kind :: Tm.nameText t.name)), (4, .slc 4), (36, lv t.kids), (37, iv ((af t.kids).length : Int)), (38, iv (i.1 : Int))] [(1, .var true 26 (tv t)), (4, .row 9 1 (aC ((t.kids.take i.1).map Tm.text)))], fun i => t.kids.length - i.1, Rd.zero _, ?_, ?_⟩
   ·refine Ge.of rfl ?_ ?_
    ·repeat (conv => whnf); first | refine ⟨LE.of hP, ?_⟩ | refine ⟨LE.of rfl, ?_⟩
     trivial
    ·repeat (conv => whnf); refine ⟨OLE.of rfl, ?_⟩
     trivial
   rintro ⟨i, hi⟩
   refine goS ?_;refine aa ?_ ?_ <;> intro h4
   ·have hlt : i < t.kids.length := by have := of_decide_eq_true h4; rw [ab] at this; exact Int.ofNat_lt.1 this
    have hm := List.getElem_mem hlt;refine goS ?_;refine ⟨Int.natCast_nonneg _, TV t.kids[i], bQ hlt, rfl, rfl, goS ?_⟩;refine cC (ih t.kids[i] hm (hf.kid hm) (hks _ hm) (by have := hkt _ hm; omega)) (goS ?_);refine ⟨xh (by simp only [al, List.length_map, List.length_take, List.length_cons, List.length_nil]; omega), goS ?_⟩;refine ⟨_, aq (n := i + 1) rfl (by omega), goS ?_⟩;refine ⟨⟨i + 1, hlt⟩, ?_, by show t.kids.length - (i + 1) < t.kids.length - i; omega⟩;refine Ge.of rfl ?_ ?_
    ·repeat (conv => whnf); refine ⟨LE.of rfl, ?_⟩
     trivial
    ·conv => whnf
     refine ⟨OLE.of rfl, ?_⟩
     conv => whnf
     refine ⟨OLE.of (congrArg _ (jO hlt)), ?_⟩;trivial
   ·have hge : t.kids.take i = t.kids := List.take_of_length_le (by have := of_decide_eq_false h4; rw [ab] at this; have h5 : ¬ ((i : Int) < t.kids.length) := this; omega);have hj := lb true (t.kids.map Tm.text) [44] (by rw [List.length_map]; omega) (by rw [cT]; omega);rw [cT] at hj;rw [<- hge] at hj;refine goS ?_;refine ⟨by show (Tm.letter t.kind :: Tm.nameText t.name).length + 1 <= _; rw [List.length_cons]; omega, goS ?_⟩;refine cC hj ?_;rw [hge];refine goS ?_;refine ⟨by show (Tm.letter t.kind :: Tm.nameText t.name ++ [40]).length + _ <= _; rw [List.length_append, List.length_cons]; show _ + 1 + 1 + _ <= _; omega, goS ?_⟩;refine ⟨by show (Tm.letter t.kind :: Tm.nameText t.name ++ [40] ++ Tm.texts t.kids).length + 1 <= _; rw [List.length_append, List.length_append, List.length_cons]; show _ + 1 + 1 + _ + 1 <= _; omega, goS ?_⟩;exact LEP.of (congrArg PV.str (hgo hno).symm)
end Go.Sl
namespace Go.Sl
open Go Go.Vc Go.Proofs Go.RowKit
theorem yp (b : Bool) (f : Nat) (p : Tm -> Bool) (l : List Tm) (hl : l.length <= 9223372036854775807)
  (hp : ∀ t ∈ l, K b f [tv t] (.pv (.bool (p t)))) :
  K b 218 [lv l, .fn f []] (.pv (.int .i64 (md p l))) := by
 refine pcv {} Tryz.func218 ?_;refine goS ?_;refine ⟨{ i : Rd l.length // ∀ t ∈ l.take i.1, p t = false }, fun i => S.of [(0, lv l), (1, .fn f []), (7, iv ((af l).length : Int)), (8, iv (i.1.1 : Int))] [], fun i => l.length - i.1.1, ⟨Rd.zero _, by simp [Rd.zero]⟩, ?_, ?_⟩
 ·exact Ge.go
 rintro ⟨⟨i, hi⟩, hno⟩
 refine goS ?_;refine aa ?_ ?_ <;> intro h1
 ·have hlt : i < l.length := by have := of_decide_eq_true h1; rw [ab] at this; exact Int.ofNat_lt.1 this
  refine goS ?_;refine ⟨Int.natCast_nonneg _, TV l[i], bQ hlt, rfl, rfl, goS ?_⟩;refine cC (hp l[i] (List.getElem_mem hlt)) (goS ?_);refine aa ?_ ?_ <;> intro h2
  ·refine goS ?_;exact LEP.of (congrArg (PV.int .i64) (qm p l i hlt hno h2).symm)
  ·refine goS ?_;refine ⟨_, aq (n := i + 1) rfl (by omega), goS ?_⟩;refine ⟨⟨⟨i + 1, hlt⟩, ?_⟩, ?_, by show l.length - (i + 1) < l.length - i; omega⟩
   ·intro t ht;rw [List.take_succ_eq_append_getElem hlt, List.mem_append, List.mem_singleton] at ht;rcases ht with ht | rfl
    ·exact hno t ht
    ·exact h2
   ·exact Ge.go
 ·have hge : i = l.length := by have := of_decide_eq_false h1; rw [ab] at this; have h2 : ¬ ((i : Int) < l.length) := this; omega
  refine goS ?_;exact LEP.of (congrArg (PV.int .i64) (ql p l fun t ht => hno t (by rw [show l.take i = l from List.take_of_length_le (by omega)]; exact ht)).symm)
theorem ld (b : Bool) (f : Nat) (p : Tm -> Bool) (l : List Tm) (hl : l.length <= 9223372036854775807)
  (hp : ∀ t ∈ l, K b f [tv t] (.pv (.bool (p t)))) :
  K b 192 [lv l, .fn f []] (.pv (.bool (l.any p))) := by
 refine pcv {} Tryz.func192 ?_;refine goS ?_;refine cC (yp b f p l hl hp) (goS ?_);refine LEP.of (congrArg PV.bool ?_);rw [Bool.eq_iff_iff, decide_eq_true_eq];exact qk p l
mutual
def nr : Tm -> Bool
 | .mk k n l => !(decide (k = 9) && Op.bytesLess (l.getD 1 (.mk 0 [] [])).text (l.getD 0 (.mk 0 [] [])).text) && tq l
def tq : List Tm -> Bool
 | [] => true
 | t :: ts => nr t && tq ts
end
theorem yq (l : List Tm) : tq l = !(l.any fun t => !nr t) := by
 induction l with
 | nil => rfl
 | cons t ts ih => rw [tq, ih, List.any_cons]; cases nr t <;> simp
theorem DY (t : Tm) : nr t = (!(decide (t.kind = 9) && Op.bytesLess (t.kids.getD 1 (.mk 0 [] [])).text (t.kids.getD 0 (.mk 0 [] [])).text) && !(t.kids.any fun u => !nr u)) := by
 cases t; rw [nr, yq]; rfl
theorem qo {t : Tm} (h : t.shp = true) (hk : t.kind = 9) : t.kids.length = 2 := by
 obtain ⟨k, n, l⟩ := t;have hk : k = 9 := hk;subst hk;simp only [Tm.shp, Bool.and_eq_true, Bool.or_eq_true, decide_eq_true_eq] at h;have := h.1.2;simp [Tm.arity] at this;show l.length = 2;omega
theorem DZ {t : Tm} (hn : ¬ (t.kids = [] /\ t.kind ≠ 3)) : ∀ u ∈ t.kids, u.text.length <= t.text.length := by
 intro u hu;have := (g9 t.kids).2 u hu;rw [iB t, if_neg hn];simp;omega
theorem oC {t u : Tm} (hu : u ∈ t.kids) : u.text.length <= t.text.length := DZ (fun h => by rw [h.1] at hu; cases hu) u hu
theorem vT : ∀ t, Fit t -> t.shp = true -> t.text.length <= 1099511627776 -> K true 161 [tv t] (.pv (.bool (nr t))) := by
 intro t
 induction t using Tm.indk with
 | h t ih =>
 intro hf hs hb;obtain ⟨hk, hks⟩ := lc hs;have hcl : ∀ u ∈ t.kids, K true 206 [tv u] (.pv (.bool (!nr u))) := by
  intro u hu;refine pcv {} Tryz.func206 ?_;refine goS ?_;refine cC (ih u hu (hf.kid hu) (hks u hu) (Nat.le_trans (oC hu) hb)) (goS ?_);exact LEP.refl _
 rw [DY];refine pcv {} Tryz.func161 ?_;refine goS ?_;refine aa ?_ ?_ <;> intro h1
 ·have h1 : t.kind = 9 := of_decide_eq_true h1;have h2 := qo hs h1;have m0 := List.getElem_mem (show 0 < t.kids.length by omega);have m1 := List.getElem_mem (show 1 < t.kids.length by omega);have g0 : t.kids.getD 0 (.mk 0 [] []) = t.kids[0] := by simp [h2]
  have g1 : t.kids.getD 1 (.mk 0 [] []) = t.kids[1] := by simp [h2]
  rw [g0, g1];refine goS ?_;refine ⟨_, dm (i := 1) (by omega), rfl, rfl, goS ?_⟩;refine cC (rE t.kids[1] (hf.kid m1) (hks _ m1) (Nat.le_trans (oC m1) hb)) (goS ?_);refine ⟨_, dm (i := 0) (by omega), rfl, rfl, goS ?_⟩;refine cC (rE t.kids[0] (hf.kid m0) (hks _ m0) (Nat.le_trans (oC m0) hb)) (goS ?_);refine aa ?_ ?_ <;> intro h3
  ·refine goS ?_;exact LEP.of (congrArg PV.bool (by rw [h3]; simp [h1]))
  ·refine goS ?_;refine cC (ld true _ (fun u => !nr u) t.kids hf.len hcl) (goS ?_);exact LEP.of (congrArg PV.bool (by rw [h3]; simp))
 ·have h1 : ¬ t.kind = 9 := of_decide_eq_false h1;refine goS ?_;refine cC (ld true _ (fun u => !nr u) t.kids hf.len hcl) (goS ?_);exact LEP.of (congrArg PV.bool (by simp [h1]))
theorem cU : ∀ (t : Tm) (d : Nat), dX t d = true -> t.shp = true := by
 intro t
 induction t using Tm.indk with
 | h t ih =>
 intro d h;cases d with
 | zero => rw [me] at h; cases h
 | succ d =>
  rw [iA, Bool.and_eq_true, qn] at h;have hk : ∀ u ∈ t.kids, u.shp = true := fun u hu => ih u hu d (by
   have := h.2;simp only [Bool.not_eq_true', List.any_eq_false] at this;have := this u hu;simpa using this)
  obtain ⟨k, n, l⟩ := t;rw [Tm.shp, Bool.and_eq_true];exact ⟨h.1, (Tm.shps_iff l).2 hk⟩
def cd (t : Tm) : Bool := dX t 60 && nr t
theorem oD (t : Tm) (hf : Fit t) (hb : dX t 60 = true -> t.text.length <= 1099511627776) : K true 114 [tv t] (.pv (.bool (cd t))) := by
 refine pcv {} Tryz.func114 ?_;refine goS ?_;refine cC (tm t hf 60 (by decide)) (goS ?_);refine aa ?_ ?_ <;> intro h1
 ·refine goS ?_;refine cC (vT t hf (cU t 60 h1) (hb h1)) (goS ?_);exact LEP.of (congrArg PV.bool (by rw [cd, h1]; rfl))
 ·refine goS ?_;exact LEP.of (congrArg PV.bool (by rw [cd, h1]; rfl))
def aG (t : Tm) : Bs := if dX t 60 then t.text else []
theorem lf (t : Tm) (hf : Fit t) (hb : dX t 60 = true -> t.text.length <= 1099511627776) : K true 97 [tv t] (.pv (.str (aG t))) := by
 refine pcv {} Tryz.func97 ?_;refine goS ?_;refine cC (tm t hf 60 (by decide)) (goS ?_);refine aa ?_ ?_ <;> intro h1
 ·have h1 : dX t 60 = false := by simpa using h1
  refine goS ?_;exact LEP.of (congrArg PV.str (by rw [aG, if_neg (by rw [h1]; decide)]))
 ·have h1 : dX t 60 = true := by simpa using h1
  refine goS ?_;refine cC (rE t hf (cU t 60 h1) (hb h1)) (goS ?_);exact LEP.of (congrArg PV.str (by rw [aG, if_pos h1]))
def lg (t u : Tm) : Bool := Op.bytesLess (aG t) (aG u)
theorem xi (t u : Tm) (hf : Fit t) (hg : Fit u) (hb : dX t 60 = true -> t.text.length <= 1099511627776) (hc : dX u 60 = true -> u.text.length <= 1099511627776) : K true 159 [tv t, tv u] (.pv (.bool (lg t u))) := by
 refine pcv {} Tryz.func159 ?_;refine goS ?_;refine cC (lf t hf hb) (goS ?_);refine cC (lf u hg hc) (goS ?_);exact LEP.refl _
def jq (x y : Tm) : Tm := if lg y x then .mk 9 [] [y, x] else .mk 9 [] [x, y]
theorem AX (x y : Tm) (hf : Fit x) (hg : Fit y) (hb : dX x 60 = true -> x.text.length <= 1099511627776) (hc : dX y 60 = true -> y.text.length <= 1099511627776) : K true 217 [tv x, tv y] (.pv (TV (jq x y))) := by
 refine pcv {} Tryz.func217 ?_;refine goS ?_;refine cC (xi y x hg hf hc hb) (goS ?_);refine aa ?_ ?_ <;> intro h1
 ·refine goS ?_;refine cC (fG true 9 [] _ [y, x] (cK y x) (by simp)) (goS ?_);exact LEP.of (by rw [jq, if_pos h1]; rfl)
 ·refine goS ?_;refine cC (fG true 9 [] _ [x, y] (cK x y) (by simp)) (goS ?_);exact LEP.of (by rw [jq, if_neg (by rw [h1]; decide)]; rfl)
end Go.Sl
namespace Go.Sl
open Go Go.Vc Go.Proofs Go.RowKit
def rF (t : Tm) (d : Nat) : Nat := min t.depth d
theorem tt {l : List Tm} {i : Nat} (h : i < l.length) : Tm.depths (l.take (i + 1)) = max (Tm.depths (l.take i)) l[i].depth := by
 induction l generalizing i with
 | nil => simp at h
 | cons t ts ih =>
  cases i with
  | zero => simp [Tm.depths]
  | succ i =>
   simp only [List.take_succ_cons, Tm.depths, List.getElem_cons_succ];rw [ih (by simpa using h)];omega
theorem fg (t : Tm) : t.depth = Tm.depths t.kids + 1 := by cases t; rfl
theorem AY (b : Bool) : ∀ t, Fit t -> ∀ d : Nat, 1 <= d -> d <= 1000 -> K b 212 [tv t, iv d] (.pv (.int .i64 (rF t d : Nat))) := by
 intro t
 induction t using Tm.indk with
 | h t ih =>
 intro hf d h1 hd;have hlen := hf.len;refine pcv {} Tryz.func212 ?_;refine goL ?_;refine aa ?_ ?_ <;> intro h2
 ·have h2 : d = 1 := by have : (d : Int) <= 1 := of_decide_eq_true h2; omega
  refine goL ?_;refine LEP.of (congrArg (PV.int .i64) ?_);rw [rF, fg];omega
 ·have h2 : 1 < d := by have : ¬ (d : Int) <= 1 := of_decide_eq_false h2; omega
  refine goL ?_;refine ⟨Rd t.kids.length, fun i => S.of [(1, iv d), (5, iv ((min (Tm.depths (t.kids.take i.1)) (d - 1) : Nat) : Int)), (12, lv t.kids), (13, iv ((af t.kids).length : Int)), (14, iv (i.1 : Int))] [], fun i => t.kids.length - i.1, Rd.zero _, ?_, ?_⟩
  ·refine Ge.of rfl ?_ ?_
   ·repeat (conv => whnf); first | refine ⟨LE.of (show _ = iv ((min (Tm.depths (t.kids.take 0)) (d - 1) : Nat) : Int) by simp [Tm.depths]; rfl), ?_⟩ | refine ⟨LE.of rfl, ?_⟩
    trivial
   ·repeat (conv => whnf); refine ⟨OLE.of rfl, ?_⟩
    trivial
  rintro ⟨i, hi⟩
  refine goL ?_;refine aa ?_ ?_ <;> intro h4
  ·have hlt : i < t.kids.length := by have := of_decide_eq_true h4; rw [ab] at this; exact Int.ofNat_lt.1 this
   have hm := List.getElem_mem hlt;refine goL ?_;refine ⟨Int.natCast_nonneg _, TV t.kids[i], bQ hlt, rfl, rfl, goL ?_⟩;refine ⟨_, aq (n := d - 1) (by omega) (by omega), goL ?_⟩;refine cC (ih t.kids[i] hm (hf.kid hm) (d - 1) (by omega) (by omega)) (goL ?_);refine ⟨_, aq (n := i + 1) rfl (by omega), goL ?_⟩;refine ⟨⟨i + 1, hlt⟩, ?_, by show t.kids.length - (i + 1) < t.kids.length - i; omega⟩;have hmx : (SV.p (.int .i64 (max ((min (Tm.depths (t.kids.take i)) (d - 1) : Nat) : Int) ((rF t.kids[i] (d - 1) : Nat) : Int)))) = iv ((min (Tm.depths (t.kids.take (i + 1))) (d - 1) : Nat) : Int) := by
    rw [tt hlt, rF]
    congr 2
    omega
   refine Ge.of rfl ?_ ?_
   ·repeat (conv => whnf); first | refine ⟨LE.of hmx, ?_⟩ | refine ⟨LE.of rfl, ?_⟩
    trivial
   ·repeat (conv => whnf); refine ⟨OLE.of rfl, ?_⟩
    trivial
  ·have hge : t.kids.take i = t.kids := List.take_of_length_le (by have := of_decide_eq_false h4; rw [ab] at this; have h5 : ¬ ((i : Int) < t.kids.length) := this; omega);refine goL ?_;refine ⟨_, aq (n := min (Tm.depths (t.kids.take i)) (d - 1) + 1) rfl (by omega), goL ?_⟩;refine LEP.of (congrArg (PV.int .i64) ?_);rw [hge, rF, fg];omega
theorem AZ (b : Bool) (t : Tm) (hf : Fit t) : K b 180 [tv t] (.pv (.int .i64 (rF t 61 : Nat))) := by
 refine pcv {} Tryz.func180 ?_;refine goL ?_;refine cC (AY b t hf 61 (by decide) (by decide)) (goL ?_);exact LEP.refl _
end Go.Sl
namespace Go.Sl
open Go Go.Vc Go.Proofs Go.RowKit
theorem A0 {a b : Nat} (h : a + b <= 2932031007402) : (a + b) * mc.bytes <= 140737488355328 := by
 show (a + b) * 48 <= 140737488355328;omega
end Go.Sl
