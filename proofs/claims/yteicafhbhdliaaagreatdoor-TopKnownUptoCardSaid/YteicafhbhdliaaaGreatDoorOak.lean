/- Part 11 of the proof: Ii Ij Ik Il Im In. -/
import Derived.Test.YteicafhbhdliaaaGreatDoorOaj
import Derived.Test.YteicafhbhdliaaaGreatDoorSj
set_option linter.unusedSimpArgs false
set_option linter.unusedVariables false
set_option maxHeartbeats 4000000
namespace Go.Sl
open Go Go.Vc Go.Proofs Go.RowKit
theorem yH (b : Bool) (zs : List Int) (hz : zs.length <= 1000000) : K b 222 [.p (.lst (aX zs))] (.fresh 3 1 (aX zs)) := by
 refine pcv { own := oO [2, 5, 7], kp := kpT [(2, [0], []), (3, [0], [])] } Tryz.func222 ?_;refine goL ?_;refine ⟨fun h => ?_, ?_⟩
 ·refine goL ?_;rw [h]
 ·refine goL ?_;refine ⟨El zs, goL ?_⟩;refine ⟨by rw [bC]; show (0 + zs.length) * 8 <= _; omega, goL ?_⟩;exact rfl
def lr : List Int -> Int
 | [] => 0
 | z :: zs => zs.foldl min z
theorem yI {zs : List Int} {i : Nat} (h0 : 0 < i) (h : i < zs.length) : lr (zs.take (i + 1)) = min (lr (zs.take i)) zs[i] := by
 cases zs with
 | nil => simp at h
 | cons z zs =>
  cases i with
  | zero => omega
  | succ i =>
   have hi : i < zs.length := by simpa using h
   rw [List.take_succ_cons, List.take_succ_cons, lr, lr, List.getElem_cons_succ, List.take_succ_eq_append_getElem hi, List.foldl_append];rfl
theorem Em (b : Bool) (zs : List Int) (hz : zs.length <= 1000000) (hp : 0 < zs.length) : K b 224 [.p (.lst (aX zs))] (.pv (.int .i64 (lr zs))) := by
 refine pcv {} Tryz.func224 ?_;refine goL ?_;refine aa ?_ ?_ <;> intro h1
 ·exact absurd (of_decide_eq_true h1) (by rw [bC]; omega)
 refine goL ?_;refine ⟨_, gh (i := 0) hp, rfl, rfl, goL ?_⟩;refine ⟨{ i : Nat // 0 < i /\ i <= zs.length }, fun i => Vc.S.of [(0, .p (.lst (aX zs))), (3, iv (lr (zs.take i.1))), (4, iv (i.1 : Int))] [], fun i => zs.length - i.1, ⟨1, by omega, hp⟩, ?_, ?_⟩
 ·have e : zs[0] = lr (zs.take 1) := by
   cases zs with
   | nil => simp at hp
   | cons z zs => rfl
  rw [e];exact Ge.go
 rintro ⟨i, h0, hi⟩
 refine goL ?_;refine aa ?_ ?_ <;> intro h2
 ·have hlt : i < zs.length := by have := of_decide_eq_true h2; rw [bC] at this; exact Int.ofNat_lt.1 this
  have hm := yI h0 hlt;refine goL ?_;refine ⟨Int.natCast_nonneg _, _, gh hlt, rfl, rfl, goL ?_⟩;refine ⟨_, aq (n := i + 1) rfl (by omega), goL ?_⟩;refine ⟨⟨i + 1, by omega, hlt⟩, ?_, by show zs.length - (i + 1) < zs.length - i; omega⟩;refine Ge.of rfl ?_ ?_
  ·conv => whnf
   refine ⟨LE.of rfl, ?_⟩
   conv => whnf
   refine ⟨LE.of (congrArg (fun k => SV.p (.int .i64 k)) hm.symm), ?_⟩
   repeat (conv => whnf); refine ⟨LE.of rfl, ?_⟩
   trivial
  ·trivial
 ·have hge : zs.take i = zs := by have := of_decide_eq_false h2; rw [bC] at this; have h2 : ¬ ((i : Int) < zs.length) := this; exact List.take_of_length_le (by omega)
  refine goL ?_;exact LEP.of (by rw [hge])
def inB (n a b : Int) : Bool := decide (a <= n) && decide (n <= b)
theorem qA (b : Bool) (n lo hi : Int) : K b 172 [iv n, iv lo, iv hi] (.pv (.bool (inB n lo hi))) := by
 unfold inB;refine pcv {} Tryz.func172 ?_;refine goL ?_;refine aa ?_ ?_ <;> intro h1
 ·rw [h1];refine goL ?_;exact LEP.refl _
 ·rw [h1];refine goL ?_;exact LEP.refl _
structure Tok where
 counter : Int
 look : Int
 sync : Int
 pending : Int
 fails : Int
 limit : Int
abbrev Tok.pv (t : Tok) : PV := .agg [.int .i64 t.counter, .int .i64 t.look, .int .i64 t.sync, .int .i64 t.pending, .int .i64 t.fails, .int .i64 t.limit]
def cp (t : Tok) : Bool := inB t.counter 0 1099511627776 && (inB t.look 0 20 && (inB t.sync 0 50 && (inB t.pending 0 1099511627976 && (decide (0 <= t.fails) && inB t.limit 1 100))))
theorem jw (b : Bool) (t : Tok) : K b 122 [.p t.pv] (.pv (.bool (cp t))) := by
 have h1 := qA b t.counter 0 1099511627776;have h2 := qA b t.look 0 20;have h3 := qA b t.sync 0 50;have h4 := qA b t.pending 0 1099511627976;have h5 := qA b t.limit 1 100;unfold cp;revert h1 h2 h3 h4 h5;generalize inB t.counter 0 1099511627776 = q1;generalize inB t.look 0 20 = q2;generalize inB t.sync 0 50 = q3;generalize inB t.pending 0 1099511627976 = q4;generalize inB t.limit 1 100 = q5;intro h1 h2 h3 h4 h5;refine pcv {} Tryz.func122 ?_;refine goL ?_;refine cC h1 ?_;cases q1 with
 | false =>
  refine goL ?_;exact LEP.refl _
 | true =>
  refine goL ?_;refine cC h2 ?_;cases q2 with
  | false =>
   refine goL ?_;exact LEP.refl _
  | true =>
   refine goL ?_;refine cC h3 ?_;cases q3 with
   | false =>
    refine goL ?_;exact LEP.refl _
   | true =>
    refine goL ?_;refine cC h4 ?_;cases q4 with
    | false =>
     refine goL ?_;exact LEP.refl _
    | true =>
     refine goL ?_;refine aa ?_ ?_ <;> intro h6
     ·rw [h6];refine goL ?_;refine cC h5 (goL ?_);exact LEP.refl _
     ·rw [h6];refine goL ?_;exact LEP.refl _
def eN (hits : List Int) (a b : Int) : List Int := hits.filter fun n => inB n a (min b 1099511627775)
def dJ (hits : List Int) (a b : Int) : Int × Bool := if (eN hits a b).length = 0 then (0, false) else (lr (eN hits a b), true)
theorem wg (n lo hi : Int) : PM (cx true) 223 (clA lo hi) [iv n, .ptr 2101 0, .ptr 2102 0] [] (.p (.bool (!inB n lo (min hi 1099511627775)))) := by
 refine pmv {} Tryz.func223 ?_;refine goL ?_;refine cC (qA true n lo (min hi 1099511627775)) (goL ?_);exact ⟨gI, ⟨rfl, LE.of rfl⟩, trivial, rfl, rfl⟩
theorem Bv : ∀ {zs : List Int}, 0 < zs.length -> lr zs ∈ zs := by
 intro zs h;cases zs with
 | nil => simp at h
 | cons z zs =>
  have key : ∀ (l : List Int) (m : Int), l.foldl min m = m \/ l.foldl min m ∈ l := by
   intro l
   induction l with
   | nil => intro m; exact .inl rfl
   | cons u l ih =>
    intro m;rw [List.foldl_cons];rcases ih (min m u) with e | e
    ·rw [e];rcases Int.le_total m u with h | h
     ·rw [Int.min_eq_left h]; exact .inl rfl
     ·rw [Int.min_eq_right h]; exact .inr (List.mem_cons_self ..)
    ·exact .inr (List.mem_cons_of_mem _ e)
  rcases key zs z with e | e
  ·rw [lr, e]; exact List.mem_cons_self ..
  ·exact List.mem_cons_of_mem _ e
theorem gP {hits : List Int} {lo hi : Int} (h : (dJ hits lo hi).2 = true) : lo <= (dJ hits lo hi).1 /\ (dJ hits lo hi).1 <= hi /\ (dJ hits lo hi).1 <= 1099511627775 := by
 unfold dJ at h ⊢;split
 ·rename_i e;rw [if_pos e] at h;cases h
 ·rename_i e;have hm : lr (eN hits lo hi) ∈ eN hits lo hi := Bv (by omega);have := (List.mem_filter.1 hm).2;rw [inB, Bool.and_eq_true] at this;have h1 := of_decide_eq_true this.1;have h2 := of_decide_eq_true this.2;show lo <= lr (eN hits lo hi) /\ lr (eN hits lo hi) <= hi /\ lr (eN hits lo hi) <= _;omega
theorem mw (hits : List Int) (lo hi : Int) (hz : hits.length <= 1000000) : K true 195 [.p (.lst (aX hits)), iv lo, iv hi] (ibR (dJ hits lo hi)) := by
 have hd := v9 223 lo hi (fun n => !inB n lo (min hi 1099511627775)) hits hz fun z _ => wg z lo hi
 have hf : (hits.filter fun z => !(fun n => !inB n lo (min hi 1099511627775)) z) = eN hits lo hi := by
  unfold eN
  congr 1
  funext z
  simp
 rw [hf] at hd;have hl : (eN hits lo hi).length <= 1000000 := Nat.le_trans (List.length_filter_le _ _) hz;unfold dJ;refine pcv { own := oO [10, 100012] } Tryz.func195 ?_;refine goL ?_;refine cC (yH true hits hz) (goL ?_);refine ⟨_, ac.pr (gn [(2101, 4), (2102, 5), (1001, 10)]) hd ⟨LE.of rfl, LE.of rfl, trivial⟩ (by (conv => whnf); exact ⟨.inr (.inr (.inr ⟨_, _, _, rfl, rfl, LE.refl _⟩)), .inr (.inr (.inr ⟨_, _, _, rfl, rfl, LE.refl _⟩)), .inr (.inl rfl), trivial⟩) rfl, goL ?_⟩;refine aa ?_ ?_ <;> intro h1
 ·have h1 : (eN hits lo hi).length = 0 := by have := of_decide_eq_true h1; rw [bC] at this; omega
  rw [if_pos h1];refine goL ?_;exact ⟨LEP.refl _, LEP.refl _, trivial⟩
 ·have h1 : ¬ (eN hits lo hi).length = 0 := by have := of_decide_eq_false h1; rw [bC] at this; omega
  rw [if_neg h1];refine goL ?_;refine cC (Em true (eN hits lo hi) hl (by omega)) (goL ?_);exact ⟨LEP.refl _, LEP.refl _, trivial⟩
end Go.Sl
namespace Go.Sl
open Go Go.Vc Go.Proofs Go.RowKit
def nH (t : Tok) (hits : List Int) : Int × Bool :=
 if (dJ hits t.counter (t.counter + t.look)).2 = false /\ t.counter + t.look < t.pending then dJ hits t.pending t.pending else dJ hits t.counter (t.counter + t.look)
def fM (t : Tok) (hits : List Int) : Tok × Int × Int :=
 if cp t = false then (t, 0, 1) else
 if t.limit <= t.fails then (t, 0, 7) else
 if (nH t hits).2 = true then (⟨(nH t hits).1 + 1, t.look, t.sync, 0, 0, t.limit⟩, (nH t hits).1, 0) else
 if (dJ hits (t.counter + t.look + 1) (t.counter + t.look + t.sync)).2 = true then (⟨t.counter, t.look, t.sync, (dJ hits (t.counter + t.look + 1) (t.counter + t.look + t.sync)).1 + 1, t.fails + 1, t.limit⟩, 0, 8) else
 (⟨t.counter, t.look, t.sync, 0, t.fails + 1, t.limit⟩, 0, 6)
def Hy (x : Tok × Int × Int) : Res := .tup [x.1.pv, .int .i64 x.2.1, .int .i64 x.2.2]
theorem eV {t : Tok} (h : cp t = true) : 0 <= t.counter /\ t.counter <= 1099511627776 /\ 0 <= t.look /\ t.look <= 20 /\ 0 <= t.sync /\ t.sync <= 50 /\ 0 <= t.pending /\ t.pending <= 1099511627976 /\ 0 <= t.fails /\ 1 <= t.limit /\ t.limit <= 100 := by
 simp only [cp, inB, Bool.and_eq_true, decide_eq_true_eq] at h;omega
theorem yJ (t : Tok) (hits : List Int) (hz : hits.length <= 1000000) : K true 147 [.p t.pv, .p (.lst (aX hits))] (Hy (fM t hits)) := by
 have hr := jw true t;have hf1 := mw hits t.counter (t.counter + t.look) hz;have hb1 := @gP hits t.counter (t.counter + t.look);have hf2 := mw hits t.pending t.pending hz;have hb2 := @gP hits t.pending t.pending;have hf3 := mw hits (t.counter + t.look + 1) (t.counter + t.look + t.sync) hz;have hb3 := @gP hits (t.counter + t.look + 1) (t.counter + t.look + t.sync);have hsp := @eV t;unfold fM nH;revert hr hf1 hf2 hf3 hb1 hb2 hb3 hsp;generalize cp t = q;generalize dJ hits t.counter (t.counter + t.look) = f1;generalize dJ hits t.pending t.pending = f2;generalize dJ hits (t.counter + t.look + 1) (t.counter + t.look + t.sync) = f3;obtain ⟨c1, q1⟩ := f1;obtain ⟨c2, q2⟩ := f2;obtain ⟨c3, q3⟩ := f3;obtain ⟨counter, look, sync, pending, fails, limit⟩ := t;intro hr hf1 hb1 hf2 hb2 hf3 hb3 hsp;simp only at hf1 hf2 hf3 hb1 hb2 hb3 hsp;obtain ⟨X, hX⟩ : ∃ X, X = (if q = false then ((⟨counter, look, sync, pending, fails, limit⟩ : Tok), (0 : Int), (1 : Int)) else if limit <= fails then (⟨counter, look, sync, pending, fails, limit⟩, 0, 7) else
  if (if q1 = false /\ counter + look < pending then (c2, q2) else (c1, q1)).2 = true then (⟨(if q1 = false /\ counter + look < pending then (c2, q2) else (c1, q1)).1 + 1, look, sync, 0, 0, limit⟩, (if q1 = false /\ counter + look < pending then (c2, q2) else (c1, q1)).1, 0) else
  if q3 = true then (⟨counter, look, sync, c3 + 1, fails + 1, limit⟩, 0, 8) else (⟨counter, look, sync, 0, fails + 1, limit⟩, 0, 6)) := ⟨_, rfl⟩
 show K true _ _ (Hy (if q = false then _ else if limit <= fails then _ else if (if q1 = false /\ counter + look < pending then (c2, q2) else (c1, q1)).2 = true then _ else if q3 = true then _ else _));rw [<- hX];cases q with
 | false =>
  refine pcv {} Tryz.func147 ?_;refine goL ?_;refine cC hr ?_;have hX : X = ((⟨counter, look, sync, pending, fails, limit⟩ : Tok), (0 : Int), (1 : Int)) := by rw [hX]; simp []
  subst hX;refine goL ?_;exact ⟨LEP.refl _, LEP.refl _, LEP.refl _, trivial⟩
 | true =>
  have hsp := hsp rfl;refine pcv {} Tryz.func147 ?_;refine goL ?_;refine cC hr (goL ?_);refine aa ?_ ?_ <;> intro h2
  ·have h1 : limit <= fails := of_decide_eq_true h2;have hX : X = ((⟨counter, look, sync, pending, fails, limit⟩ : Tok), (0 : Int), (7 : Int)) := by rw [hX]; simp [h1]
   subst hX;refine goL ?_;exact ⟨LEP.refl _, LEP.refl _, LEP.refl _, trivial⟩
  ·have h1 : ¬ limit <= fails := of_decide_eq_false h2;refine goL ?_;refine ⟨counter + look, aS (k := counter + look) (by omega) (by omega) rfl, goL ?_⟩;refine cC hf1 ?_;cases q1 with
   | true =>
    have hb1 := hb1 rfl;refine goL ?_;refine ⟨c1 + 1, aS (k := c1 + 1) (by omega) (by omega) rfl, ?_⟩;have hX : X = ((⟨c1 + 1, look, sync, 0, 0, limit⟩ : Tok), c1, (0 : Int)) := by rw [hX]; simp [h1]
    subst hX;refine goL ?_;exact ⟨LEP.refl _, LEP.refl _, LEP.refl _, trivial⟩
   | false =>
    refine goL ?_;refine aa ?_ ?_ <;> intro h3
    ·have h3 : counter + look < pending := of_decide_eq_true h3;refine goL ?_;refine cC hf2 ?_;cases q2 with
     | true =>
      have hb2 := hb2 rfl;refine goL ?_;refine ⟨c2 + 1, aS (k := c2 + 1) (by omega) (by omega) rfl, ?_⟩;have hX : X = ((⟨c2 + 1, look, sync, 0, 0, limit⟩ : Tok), c2, (0 : Int)) := by rw [hX]; simp [h1, h3]
      subst hX;refine goL ?_;exact ⟨LEP.refl _, LEP.refl _, LEP.refl _, trivial⟩
     | false =>
      refine goL ?_;refine ⟨fails + 1, aS (k := fails + 1) (by omega) (by omega) rfl, goL ?_⟩;refine ⟨counter + look + 1, aS (k := counter + look + 1) (by omega) (by omega) rfl, goL ?_⟩;refine ⟨counter + look + sync, aS (k := counter + look + sync) (by omega) (by omega) rfl, goL ?_⟩;refine cC hf3 ?_;cases q3 with
      | true =>
       have hb3 := hb3 rfl;refine goL ?_;refine ⟨c3 + 1, aS (k := c3 + 1) (by omega) (by omega) rfl, ?_⟩;have hX : X = ((⟨counter, look, sync, c3 + 1, fails + 1, limit⟩ : Tok), (0 : Int), (8 : Int)) := by rw [hX]; simp [h1, h3]
       subst hX;refine goL ?_;exact ⟨LEP.refl _, LEP.refl _, LEP.refl _, trivial⟩
      | false =>
       have hX : X = ((⟨counter, look, sync, 0, fails + 1, limit⟩ : Tok), (0 : Int), (6 : Int)) := by rw [hX]; simp [h1, h3]
       subst hX;refine goL ?_;exact ⟨LEP.refl _, LEP.refl _, LEP.refl _, trivial⟩
    ·have h3 : ¬ counter + look < pending := of_decide_eq_false h3;refine goL ?_;refine ⟨fails + 1, aS (k := fails + 1) (by omega) (by omega) rfl, goL ?_⟩;refine ⟨counter + look + 1, aS (k := counter + look + 1) (by omega) (by omega) rfl, goL ?_⟩;refine ⟨counter + look + sync, aS (k := counter + look + sync) (by omega) (by omega) rfl, goL ?_⟩;refine cC hf3 ?_;cases q3 with
     | true =>
      have hb3 := hb3 rfl;refine goL ?_;refine ⟨c3 + 1, aS (k := c3 + 1) (by omega) (by omega) rfl, ?_⟩;have hX : X = ((⟨counter, look, sync, c3 + 1, fails + 1, limit⟩ : Tok), (0 : Int), (8 : Int)) := by rw [hX]; simp [h1, h3]
      subst hX;refine goL ?_;exact ⟨LEP.refl _, LEP.refl _, LEP.refl _, trivial⟩
     | false =>
      have hX : X = ((⟨counter, look, sync, 0, fails + 1, limit⟩ : Tok), (0 : Int), (6 : Int)) := by rw [hX]; simp [h1, h3]
      subst hX;refine goL ?_;exact ⟨LEP.refl _, LEP.refl _, LEP.refl _, trivial⟩
end Go.Sl
namespace Go.Sl
open Go Go.Vc Go.Proofs Go.RowKit Go.Sort
theorem Bw {w : World} {n g : Nat} {d : Array Int} {os : Array Obj} {cur : Array Value} {t : TypeId} {fr : Nat × Nat} (h : w.heap[g]? = some (.cells cur t fr)) :
  (grow (putRow (Value.int .i64) (Sort.ahead w n) g 0 d) os).heap[g]? = some (.cells (putCells (Value.int .i64) 0 d cur) t fr) := by
 have hlt : g < w.heap.size := (Array.getElem?_eq_some_iff.1 h).1;show ((w.heap.modify g _) ++ os)[g]? = _;rw [Array.getElem?_append_left (by simpa using hlt), Array.getElem?_modify, if_pos rfl, h];rfl
theorem Bx {w : World} {n g b : Nat} {d : Array Int} {os : Array Obj} (hlt : b < w.heap.size) (hne : b ≠ g) : (grow (putRow (Value.int .i64) (Sort.ahead w n) g 0 d) os).heap[b]? = w.heap[b]? := by
 show ((w.heap.modify g _) ++ os)[b]? = _;rw [Array.getElem?_append_left (by simpa using hlt), Array.getElem?_modify, if_neg (fun e => hne e.symm)]
theorem ls {w : World} {n g : Nat} {d : Array Int} {os : Array Obj} : w.heap.size <= (grow (putRow (Value.int .i64) (Sort.ahead w n) g 0 d) os).heap.size := by
 show _ <= ((w.heap.modify g _) ++ os).size;simp
theorem t6 {d : List Int} {cur : Array Value} (h : d.length <= cur.size) : (putCells (Value.int .i64) 0 d.toArray cur).toList.take d.length = d.map (Value.int .i64) := by
 apply List.ext_getElem?
 intro i
 by_cases hi : i < d.length
 ·rw [List.getElem?_take_of_lt hi, Array.getElem?_toList, putCells, Array.getElem?_mapIdx, Array.getElem?_eq_getElem (by omega), List.getElem?_map, List.getElem?_eq_getElem hi];have hs : i < d.toArray.size := by simpa using hi
  simp [hi]
 ·rw [List.getElem?_eq_none (by rw [List.length_take]; omega), List.getElem?_eq_none (by rw [List.length_map]; omega)]
theorem t7 {ok : Nat -> Prop} {w : World} {v : Value} {zs : List Int} {xs : List Value} (h0 : 0 < zs.length) (hrow : w.ownsRow 0 3 1 v (aX zs).length xs) (hrr : eY ok w 1 (aX zs) xs) :
  ∃ g cap cur, v = .slice (some ⟨g, 0, none⟩) zs.length cap /\ w.heap[g]? = some (.cells cur 3 (0, 0)) /\ zs.length <= cap /\ cap <= maxLen /\ cur.size = cap * 1 /\ Holds (Value.int .i64) w g 0 zs.toArray := by
 rw [bC] at hrow;rcases hrow.2 with ⟨_, q⟩ | ⟨g, cap, cur, q1, q2, q3, q4, q5, q6, q7⟩
 ·omega
 ·refine ⟨g, cap, cur, q1, q3, q4, q5, q6, fun j hj => ?_⟩;have hj : j < zs.length := by simpa using hj
  obtain ⟨c, hc, hce⟩ := hrr.2 j _ (gh hj);rw [RP] at hc;subst hc;have hce : [Value.int .i64 zs[j]] = (xs.drop (j * 1)).take 1 := hce;have hx : xs[j]? = some (.int .i64 zs[j]) := by
   have := congrArg (·[0]?) hce;simp only [List.getElem?_cons_zero, List.getElem?_take_of_lt Nat.zero_lt_one, List.getElem?_drop, Nat.mul_one, Nat.add_zero] at this;exact this.symm
  have hcur : cur[j]? = some (.int .i64 zs[j]) := by
   rw [<- q7, List.getElem?_take_of_lt (by omega), Array.getElem?_toList] at hx;exact hx
  refine ⟨?_, ?_⟩
  ·simp only [World.cell?, Nat.zero_add, q3, hcur];simp [hj]
  ·simp [World.frozen?, q3]
theorem qB {ok : Nat -> Prop} {w : World} (zs : List Int) : eY ok w 1 (aX zs) (zs.map (Value.int .i64)) := by
 refine ⟨by simp, fun i x hx => ?_⟩;rw [List.getElem?_map] at hx;obtain ⟨z, hz, rfl⟩ := Option.map_eq_some_iff.1 hx;refine ⟨.int .i64 z, by rw [RP], ?_⟩;show [Value.int .i64 z] = _;have hlt := (List.getElem?_eq_some_iff.1 hz).1;have hge := (List.getElem?_eq_some_iff.1 hz).2;rw [Nat.mul_one, <- List.map_drop, List.drop_eq_getElem_cons hlt, List.map_cons, hge];rfl
theorem En {f : FuncId} (fn : zH Tryz.prog f) (zs zs' : List Int) (m : Nat) (h0 : 0 < zs.length) (hl : zs'.length = zs.length) (hm : m <= zs.length)
  (h : ∀ (w : World) (g cap : Nat), Holds (Value.int .i64) w g 0 zs.toArray -> g < w.heap.size -> zs.length <= cap ->
   Calls Tryz.prog f #[.slice (some ⟨g, 0, none⟩) zs.length cap] w fun e w' => e = .returned (.slice (some ⟨g, 0, none⟩) m cap) /\ ∃ n os, w' = grow (putRow (Value.int .i64) (Sort.ahead w n) g 0 zs'.toArray) os) :
  PM (cx true) f [(1001, .row 3 1 (aX zs))] [.slc 1001] [(1001, .row 3 1 (aX (zs'.take m)))] (.slc 1001) := by
 refine ⟨fn, rfl, fun ok β w vs hG hlt hr hob hdis => ?_⟩
 match vs, hr with
 | [v], hr =>
  obtain ⟨hr, _⟩ := hr;rw [R] at hr;obtain ⟨rfl, hone⟩ := hr;obtain ⟨hp, ⟨xs, hrow, hrr⟩, hnok⟩ := hob 1001;obtain ⟨g, cap, cur, hv, hheap, hc1, hc2, hc3, hH⟩ := t7 h0 hrow hrr;have hgl : g < w.heap.size := (Array.getElem?_eq_some_iff.1 hheap).1;have hng : ¬ ok g := (hnok g (by rw [hv]; rfl)).1;rw [hv];refine (h w g cap hH hgl hc1).mono ?_
  rintro e w' ⟨rfl, n, os, rfl⟩
  have hmb : lQ [(1001, .row 3 1 (aX zs))] β g := ⟨1001, rfl, by rw [hv]; rfl⟩
  have hlen : (aX (zs'.take m)).length = m := by rw [bC, List.length_take]; omega
  refine ⟨_, fun κ => if κ = 1001 then .slice (some ⟨g, 0, none⟩) m cap else β κ, ok, rfl, ?_⟩;refine { ok1 := fun _ h => h, ok2 := fun b hb => Nat.lt_of_lt_of_le (hlt b hb) ls, ok3 := fun b hb => .inl hb, val := ?_, obs := fun κ => ?_, dis := fun κ κ' b h1 h2 _ _ => ?_, pin := fun κ hκ _ => ?_, keep := ⟨rfl, rfl, rfl, ls, fun b hb hn => Bx hb fun e => hn (e ▸ hmb)⟩ }
  ·rw [R];exact ⟨(if_pos rfl).symm, rfl⟩
  ·show OB _ _ _ _ _ κ (cond (Nat.beq κ 1001) _ _);rw [ai];split
   ·rename_i e;subst e;refine ⟨hp, ⟨(zs'.take m).map (Value.int .i64), ⟨by simp, .inr ⟨g, cap, _, by rw [hlen]; exact if_pos rfl, Nat.zero_le _, Bw hheap, by rw [hlen]; omega, hc2, ?_, ?_⟩⟩, qB _⟩, fun b hb => ?_⟩
    ·simpa [putCells] using hc3
    ·rw [hlen, Nat.mul_one];have := t6 (d := zs') (cur := cur) (by omega);rw [List.map_take, <- this, List.take_take, Nat.min_eq_left (by omega)]
    ·have hb : b = g := by
      have hb : (Value.slice (some ⟨g, 0, none⟩) m cap).ownBlock = some b := hb;simpa [Value.ownBlock] using hb.symm
     subst hb;exact ⟨hng, .inl hmb⟩
   ·trivial
  ·have key : ∀ κ, (am [(1001, .row 3 1 (aX (zs'.take m)))] κ).live = true -> κ = 1001 := fun κ h => by
    change (cond (Nat.beq κ 1001) _ _ : AO).live = true at h
    rw [ai] at h;split at h
    ·assumption
    ·cases h
   rw [key κ h1, key κ' h2]
  ·show (if κ = 1001 then _ else β κ) = _;rw [if_neg (by omega)]
theorem By {f : FuncId} (fn : zH Tryz.prog f) (zs zs' : List Int) (h0 : 0 < zs.length) (hl : zs'.length = zs.length)
  (h : ∀ (w : World) (g cap : Nat), Holds (Value.int .i64) w g 0 zs.toArray -> g < w.heap.size -> zs.length <= cap ->
   Calls Tryz.prog f #[.slice (some ⟨g, 0, none⟩) zs.length cap] w fun e w' => e = .returned (.tuple #[]) /\ ∃ n os, w' = grow (putRow (Value.int .i64) (Sort.ahead w n) g 0 zs'.toArray) os) :
  PM (cx true) f [(2104, .row 3 1 (aX zs))] [.slc 2104] [(2104, .row 3 1 (aX zs'))] (.tupS []) := by
 refine ⟨fn, rfl, fun ok β w vs hG hlt hr hob hdis => ?_⟩
 match vs, hr with
 | [v], hr =>
  obtain ⟨hr, _⟩ := hr;rw [R] at hr;obtain ⟨rfl, hone⟩ := hr;obtain ⟨hp, ⟨xs, hrow, hrr⟩, hnok⟩ := hob 2104;obtain ⟨g, cap, cur, hv, hheap, hc1, hc2, hc3, hH⟩ := t7 h0 hrow hrr;have hgl : g < w.heap.size := (Array.getElem?_eq_some_iff.1 hheap).1;have hng : ¬ ok g := (hnok g (by rw [hv]; rfl)).1;rw [hv];refine (h w g cap hH hgl hc1).mono ?_
  rintro e w' ⟨rfl, n, os, rfl⟩
  have hmb : lQ [(2104, .row 3 1 (aX zs))] β g := ⟨2104, rfl, by rw [hv]; rfl⟩
  have hlen : (aX zs').length = zs.length := by rw [bC, hl]
  refine ⟨_, β, ok, rfl, ?_⟩;refine { ok1 := fun _ h => h, ok2 := fun b hb => Nat.lt_of_lt_of_le (hlt b hb) ls, ok3 := fun b hb => .inl hb, val := ?_, obs := fun κ => ?_, dis := fun κ κ' b h1 h2 _ _ => ?_, pin := fun κ hκ _ => rfl, keep := ⟨rfl, rfl, rfl, ls, fun b hb hn => Bx hb fun e => hn (e ▸ hmb)⟩ }
  ·rw [R];exact ⟨[], rfl, trivial⟩
  ·show OB _ _ _ _ _ κ (cond (Nat.beq κ 2104) _ _);rw [ai];split
   ·rename_i e;subst e;refine ⟨hp, ⟨zs'.map (Value.int .i64), ⟨by simp, .inr ⟨g, cap, _, by rw [hv, hlen], Nat.zero_le _, Bw hheap, by rw [hlen]; omega, hc2, ?_, ?_⟩⟩, qB _⟩, fun b hb => ?_⟩
    ·simpa [putCells] using hc3
    ·rw [hlen, Nat.mul_one, <- hl];exact t6 (d := zs') (cur := cur) (by omega)
    ·have hb : b = g := by
      rw [hv] at hb;simpa [Value.ownBlock] using hb.symm
     subst hb;exact ⟨hng, .inl hmb⟩
   ·trivial
  ·have key : ∀ κ, (am [(2104, .row 3 1 (aX zs'))] κ).live = true -> κ = 2104 := fun κ h => by
    change (cond (Nat.beq κ 2104) _ _ : AO).live = true at h
    rw [ai] at h;split at h
    ·assumption
    ·cases h
   rw [key κ h1, key κ' h2]
def iU (zs : List Int) : List Int := zs.mergeSort fun x y => decide (x <= y)
theorem Bz (zs : List Int) (h0 : 0 < zs.length) (hz : zs.length <= 1000000) : PM (cx true) 181 [(2104, .row 3 1 (aX zs))] [.slc 2104] [(2104, .row 3 1 (aX (iU zs)))] (.tupS []) :=
 By ⟨_, Tryz.func181, rfl, rfl⟩ zs (iU zs) h0 (List.length_mergeSort _) fun w g cap hH hg hc => Tryz.slices_Sort_int g 0 cap zs w hH hg (by omega)
theorem lu (zs : List Int) : (Lib.compact zs).length <= zs.length := by
 unfold Lib.compact Lib.compactUpTo;rw [List.length_map];exact Nat.le_trans (List.length_filter_le _ _) (by rw [List.length_range]; exact Nat.le_refl _)
theorem t8 (zs : List Int) (h0 : 0 < zs.length) (hz : zs.length <= 1000000) : PM (cx true) 183 [(1001, .row 3 1 (aX zs))] [.slc 1001] [(1001, .row 3 1 (aX (Lib.compact zs)))] (.slc 1001) := by
 have hl := lu zs;have h := En (f := 183) ⟨_, Tryz.func183, rfl, rfl⟩ zs (Lib.compact zs ++ List.replicate (zs.length - (Lib.compact zs).length) 0) (Lib.compact zs).length h0 (by rw [List.length_append, List.length_replicate]; omega) hl fun w g cap hH hg hc => by
  refine (Tryz.slices_Compact_int g 0 cap zs w hH (by omega) hc).mono ?_
  rintro e w' ⟨rfl, q, rfl⟩
  exact ⟨rfl, q, #[], by simp⟩
 rw [List.take_append_of_le_length (Nat.le_refl _), List.take_length] at h;exact h
end Go.Sl
namespace Go.Sl
open Go Go.Vc Go.Proofs Go.RowKit
def pQ (c : Int) (n : Nat) : List Int := (List.range n).map fun i : Nat => c + (i : Int)
theorem yK (c : Int) (n : Nat) : pQ c (n + 1) = pQ c n ++ [c + (n : Int)] := by
 rw [pQ, List.range_succ, List.map_append];rfl
theorem t9 (c : Int) (n : Nat) : (pQ c n).length = n := by simp [pQ]
def iJ (t : Tok) : List Int := t.pending :: pQ t.counter (t.look + t.sync + 1).toNat
def xw (t : Tok) (p : Int -> Bool) : List Int := (Lib.compact (iU (iJ t))).filter p
def jx (ak nonce p seed : Tm) (t : Tok) : List Int × Int :=
 match ao cW 1 p with
 | none => ([], 2)
 | some l =>
  if (aI ak 45 (at_ l 0)).2 = 0 then
   (match ao lp 2 (aI ak 45 (at_ l 0)).1 with
   | none => ([], 2)
   | some r => if at_ r 0 = nonce then (if cp t = true then (xw t fun c => decide (at_ r 1 = er seed kB c), 0) else ([], 0)) else ([], 6))
  else ([], (aI ak 45 (at_ l 0)).2)
def Hz (x : List Int × Int) : Res := .tup [.lst (aX x.1), .int .i64 x.2]
theorem BA (a b : List Int) : aX (a ++ b) = aX a ++ aX b := List.map_append
theorem yL (r : List Tm) (seed : Tm) (c : Int) (h2 : 2 <= r.length) (hf : Fit (at_ r 1)) (h0 : -9223372036854775808 <= c) (h1 : c <= 9223372036854775807) :
  PM (cx true) 184 (clB r seed) [iv c, .ptr 2101 0, .ptr 2102 0] [] (.p (.bool (!decide (at_ r 1 = er seed kB c)))) := by
 refine pmv {} Tryz.func184 ?_;refine goL ?_;refine ⟨_, ap (l := r) (i := 1) (by omega), rfl, rfl, goL ?_⟩;refine cC (mm true seed c h0 h1) (goL ?_);refine cC (cy true (at_ r 1) hf _) (goL ?_);exact ⟨gI, ⟨rfl, LE.of rfl⟩, trivial, rfl, rfl⟩
theorem ua {t : Tok} (h : cp t = true) : (iJ t).length <= 72 := by
 have := eV h;rw [iJ, List.length_cons, t9];omega
theorem xx {t : Tok} (h : cp t = true) : ∀ c ∈ iJ t, 0 <= c /\ c <= 1100000000000 := by
 have hs := eV h;intro c hc;rcases List.mem_cons.1 hc with rfl | hc
 ·omega
 ·obtain ⟨i, hi, rfl⟩ := List.mem_map.1 hc;have := List.mem_range.1 hi
  constructor <;> omega
theorem rX {c : Int} (d : Array Int) : ∀ m, m <= d.size -> c ∈ Lib.compactUpTo d m -> c ∈ d := by
 intro m
 induction m with
 | zero => intro _ h; simp [Lib.compactUpTo] at h
 | succ m ih =>
  intro hm h;rw [Lib.compactUpTo_succ, List.mem_append] at h;rcases h with h | h
  ·exact ih (by omega) h
  ·split at h
   ·rw [List.mem_singleton] at h;subst h;rw [getElem!_pos d m (by omega)];exact Array.getElem_mem _
   ·cases h
theorem ub {c : Int} {l : List Int} (h : c ∈ Lib.compact l) : c ∈ l := by
 have := rX l.toArray l.toArray.size (Nat.le_refl _) h;simpa using this
theorem uc {t : Tok} (h : cp t = true) : (Lib.compact (iU (iJ t))).length <= 72 := by
 have h1 := lu (iU (iJ t));have h2 : (iU (iJ t)).length = (iJ t).length := List.length_mergeSort _;have h3 := ua h;omega
theorem ud {t : Tok} {c : Int} (h : c ∈ Lib.compact (iU (iJ t))) : c ∈ iJ t := List.mem_mergeSort.1 (ub h)
theorem Eo (ak nonce p seed : Tm) (t : Tok) (hw : wt p <= 1000000000) : K true 139 [tv ak, tv nonce, tv p, tv seed, .p t.pv] (Hz (jx ak nonce p seed t)) := by
 have h := bD true cW 1 p (by decide) (aE p hw);unfold jx;cases e : ao cW 1 p with
 | none =>
  rw [e] at h;refine pcv { ps := psT [(4, [14])] } Tryz.func139 ?_;refine goL ?_;refine cC h (goL ?_);exact ⟨LEP.refl _, LEP.refl _, trivial⟩
 | some l =>
  rw [e] at h;have hl := aY e;have hl0 : wt (at_ l 0) <= 1000000000 := dp (fun u hu => Nat.le_trans (bV e u hu) hw) (by decide) 0;have hun := jS true ak (at_ l 0) 45 (by decide) (by decide) (aE _ hl0);have hwu : wt (aI ak 45 (at_ l 0)).1 <= 1000000000 := Nat.le_trans jV hl0;simp only;revert hun hwu;generalize aI ak 45 (at_ l 0) = x;obtain ⟨x, e1⟩ := x;intro hun hwu;show K true _ _ (Hz (if e1 = 0 then _ else _))
  by_cases he : e1 = 0
  ·rw [if_pos he];subst he;have h' := bD true lp 2 x (by decide) (aE x hwu);cases e' : ao lp 2 x with
   | none =>
    rw [e'] at h';refine pcv { ps := psT [(4, [14])] } Tryz.func139 ?_;refine goL ?_;refine cC h (goL ?_);refine ⟨_, ap (l := l) (i := 0) (by omega), rfl, rfl, goL ?_⟩;refine cC hun (goL ?_);refine cC h' (goL ?_);exact ⟨LEP.refl _, LEP.refl _, trivial⟩
   | some r =>
    rw [e'] at h';have hr := aY e';have hrw : ∀ i, wt (at_ r i) <= 1000000000 := fun i => dp (fun u hu => Nat.le_trans (bV e' u hu) hwu) (by decide) i
    have hs0 := cy true (at_ r 0) (aE _ (hrw 0)) nonce;have htr := jw true t;simp only
    by_cases h3 : at_ r 0 = nonce
    ·rw [if_pos h3];cases h4 : cp t with
     | false =>
      rw [h4] at htr;rw [if_neg (by decide)];refine pcv { ps := psT [(4, [14])] } Tryz.func139 ?_;refine goL ?_;refine cC h (goL ?_);refine ⟨_, ap (l := l) (i := 0) (by omega), rfl, rfl, goL ?_⟩;refine cC hun (goL ?_);refine cC h' (goL ?_);refine ⟨_, ap (l := r) (i := 0) (by omega), rfl, rfl, goL ?_⟩;refine cC hs0 (goL ?_);refine aa ?_ ?_ <;> intro h5
      ·exact absurd h3 (by simpa using h5)
      refine goL ?_;refine cC htr (goL ?_);exact ⟨LEP.refl _, LEP.refl _, trivial⟩
     | true =>
      rw [h4] at htr;rw [if_pos rfl];have hsp := eV h4;have hml := ua h4;have hd := we 184 r seed (fun c => !decide (at_ r 1 = er seed kB c)) (Lib.compact (iU (iJ t))) (by have := uc h4; omega) fun z hz => yL r seed z (by omega) (aE _ (hrw 1)) (by have := xx h4 z (ud hz); omega) (by have := xx h4 z (ud hz); omega)
      have hf : ((Lib.compact (iU (iJ t))).filter fun z => !(fun c => !decide (at_ r 1 = er seed kB c)) z) = xw t fun c => decide (at_ r 1 = er seed kB c) := by
       unfold xw
       congr 1
       funext z
       simp
      rw [hf] at hd;have hsl : (iU (iJ t)).length = (iJ t).length := List.length_mergeSort _;have h0 : 0 < (iJ t).length := by rw [iJ]; simp
      have hso := Bz (iJ t) h0 (by omega);have hco := t8 (iU (iJ t)) (by omega) (by omega);refine pcv { ps := psT [(4, [14])], own := oO [58, 76, 100078, 100080, 100082] } Tryz.func139 ?_;refine goL ?_;refine cC h (goL ?_);refine ⟨_, ap (l := l) (i := 0) (by omega), rfl, rfl, goL ?_⟩;refine cC hun (goL ?_);refine cC h' (goL ?_);refine ⟨_, ap (l := r) (i := 0) (by omega), rfl, rfl, goL ?_⟩;refine cC hs0 (goL ?_);refine aa ?_ ?_ <;> intro h5
      ·exact absurd h3 (by simpa using h5)
      refine goL ?_;refine cC htr (goL ?_);refine ⟨Rd (t.look + t.sync + 1).toNat, fun i => S.of [(8, .ptr 8 0), (9, .ptr 9 0), (16, .ptr 16 0), (17, .slc 58), (18, iv (t.counter + (i.1 : Int)))] [(8, .var true 26 (tv seed)), (9, .var true 29 (.p t.pv)), (16, .var true 24 (.p (.lst (af r)))), (58, .row 3 1 (aX (t.pending :: pQ t.counter i.1)))], fun i => (t.look + t.sync + 1).toNat - i.1, Rd.zero _, ?_, ?_⟩
      ·refine Ge.of rfl ?_ ?_
       ·repeat (conv => whnf); refine ⟨by first | exact LE.of rfl | exact LE.of (congrArg iv (Int.add_zero t.counter).symm), ?_⟩
        trivial
       ·repeat (conv => whnf); refine ⟨OLE.of rfl, ?_⟩
        trivial
      rintro ⟨i, hi⟩
      refine goL ?_;refine ⟨t.counter + t.look, aS (k := t.counter + t.look) (by omega) (by omega) rfl, goL ?_⟩;refine ⟨t.counter + t.look + t.sync, aS (k := t.counter + t.look + t.sync) (by omega) (by omega) rfl, goL ?_⟩;refine aa ?_ ?_ <;> intro h6
      ·have h6 : t.counter + (i : Int) <= t.counter + t.look + t.sync := of_decide_eq_true h6;have hrow : aX (t.pending :: pQ t.counter i) ++ [.int .i64 (t.counter + (i : Int))] = aX (t.pending :: pQ t.counter (i + 1)) := by
        rw [yK, <- List.cons_append, BA];rfl
       refine goL ?_;refine ⟨by show ((aX (t.pending :: pQ t.counter i)).length + 1) * 8 <= _; rw [bC, List.length_cons, t9]; omega, goL ?_⟩;refine ⟨t.counter + ((i + 1 : Nat) : Int), aS (k := t.counter + (i : Int) + 1) (by omega) (by omega) (by omega), goL ?_⟩;refine ⟨⟨i + 1, by omega⟩, ?_, by show (t.look + t.sync + 1).toNat - (i + 1) < (t.look + t.sync + 1).toNat - i; omega⟩;refine Ge.of rfl ?_ ?_
       ·repeat (conv => whnf); refine ⟨LE.of rfl, ?_⟩
        trivial
       ·conv => whnf
        refine ⟨OLE.of rfl, OLE.of rfl, OLE.of rfl, OLE.of (congrArg (AO.row 3 1) hrow), ?_⟩;trivial
      ·have h6 : ¬ t.counter + (i : Int) <= t.counter + t.look + t.sync := of_decide_eq_false h6;have hi2 : i = (t.look + t.sync + 1).toNat := by omega
       subst hi2;refine goL ?_;refine ac.go (gn [(2104, 58)]) hso (goL ?_);refine ac.go (gn [(1001, 58)]) hco (goL ?_);refine ⟨_, ac.pr (gn [(2101, 16), (2102, 8), (1001, 58)]) hd ⟨LE.of rfl, LE.of rfl, trivial⟩ (by (conv => whnf); exact ⟨.inr (.inr (.inr ⟨_, _, _, rfl, rfl, LE.refl _⟩)), .inr (.inr (.inr ⟨_, _, _, rfl, rfl, LE.refl _⟩)), .inr (.inl rfl), trivial⟩) rfl, goL ?_⟩;exact ⟨LEP.refl _, LEP.refl _, trivial⟩
    ·rw [if_neg h3];refine pcv { ps := psT [(4, [14])] } Tryz.func139 ?_;refine goL ?_;refine cC h (goL ?_);refine ⟨_, ap (l := l) (i := 0) (by omega), rfl, rfl, goL ?_⟩;refine cC hun (goL ?_);refine cC h' (goL ?_);refine ⟨_, ap (l := r) (i := 0) (by omega), rfl, rfl, goL ?_⟩;refine cC hs0 (goL ?_);refine aa ?_ ?_ <;> intro h5
     ·refine goL ?_;exact ⟨LEP.refl _, LEP.refl _, trivial⟩
     ·exact absurd (by simpa using h5) h3
  ·rw [if_neg he];refine pcv { ps := psT [(4, [14])] } Tryz.func139 ?_;refine goL ?_;refine cC h (goL ?_);refine ⟨_, ap (l := l) (i := 0) (by omega), rfl, rfl, goL ?_⟩;refine cC hun (goL ?_);refine aa ?_ ?_ <;> intro h2
   ·refine goL ?_;exact ⟨LEP.refl _, LEP.refl _, trivial⟩
   ·exact absurd (by simpa using h2) he
end Go.Sl
namespace Go.Sl
open Go Go.Vc Go.Proofs Go.RowKit
structure Us where
 name : Bs
 key : Tm
 set : List Bs
 seed : Tm
 tok : Tok
 fails : Int
abbrev Us.pv (u : Us) : PV := .agg [.str u.name, .int .i64 u.key.kind, .str u.key.name, .lst (af u.key.kids), .lst (aC u.set), .int .i64 u.seed.kind, .str u.seed.name, .lst (af u.seed.kids), .int .i64 u.tok.counter, .int .i64 u.tok.look, .int .i64 u.tok.sync, .int .i64 u.tok.pending, .int .i64 u.tok.fails, .int .i64 u.tok.limit, .int .i64 u.fails]
def usL (l : List Us) : List PV := l.map Us.pv
theorem gG (l : List Us) : (usL l).length = l.length := List.length_map _
theorem gH {l : List Us} {i : Nat} (h : i < l.length) : (usL l)[i]? = some (l[i]).pv := by
 rw [usL, List.getElem?_map, List.getElem?_eq_getElem h];rfl
theorem dU (b : Bool) (zs : List Bs) (hz : zs.length <= 1000000000) : K b 43 [.p (.lst (aC zs))] (.fresh 9 1 (aC zs)) := by
 refine pcv { own := oO [2, 5, 7], kp := kpT [(2, [0], []), (3, [0], [])] } Tryz.func43 ?_;refine goL ?_;refine ⟨fun h => ?_, ?_⟩
 ·refine goL ?_;rw [h]
 ·refine goL ?_;refine ⟨rD zs, goL ?_⟩;refine ⟨by rw [al]; show (0 + zs.length) * 16 <= _; omega, goL ?_⟩;exact rfl
theorem BB (u : Us) (hs : u.set.length <= 1000000000) : K true 68 [.p u.pv] (.pv u.pv) := by
 refine pcv { own := oO [5] } Tryz.func68 ?_;refine goL ?_;refine cC (dU true u.set hs) (goL ?_);exact LEP.refl _
def bM : List Bs := [chW, cW, spW]
theorem BC : K true 120 [] (.pv (.lst (aC bM))) := by
 refine pcv {} Tryz.func120 ?_;refine goL ?_;exact LEP.refl _
theorem yM (zs : List Bs) (s : Bs) (hz : zs.length <= 1000000000) : K true 171 [.p (.lst (aC zs)), sv s] (.pv (.int .i64 (if s ∈ zs then ((zs.idxOf s : Nat) : Int) else -1))) := by
 refine pcv {} Tryz.func171 ?_;refine goL ?_;refine ⟨{ i : Rd zs.length // ∀ z ∈ zs.take i.1, z ≠ s }, fun i => S.of [(0, .p (.lst (aC zs))), (1, sv s), (7, iv ((aC zs).length : Int)), (8, iv (i.1.1 : Int))] [], fun i => zs.length - i.1.1, ⟨Rd.zero _, by simp [Rd.zero]⟩, ?_, ?_⟩
 ·exact Ge.go
 rintro ⟨⟨i, hi⟩, hno⟩
 refine goL ?_;refine aa ?_ ?_ <;> intro h1
 ·have hlt : i < zs.length := by have := of_decide_eq_true h1; rw [al] at this; exact Int.ofNat_lt.1 this
  refine goL ?_;refine ⟨Int.natCast_nonneg _, .str zs[i], by show (aC zs)[i]? = _; simp [aC, hlt], rfl, rfl, goL ?_⟩;refine aa ?_ ?_ <;> intro h2
  ·have h2 : s = zs[i] := by simpa using h2
   have hm : s ∈ zs := h2 ▸ List.getElem_mem hlt;have hix : zs.idxOf s = i := by
    rw [List.idxOf, List.findIdx_eq hlt];refine ⟨by simp [h2], fun j hj => ?_⟩;have := hno zs[j] (List.mem_take_iff_getElem.2 ⟨j, by have hj : j < i := hj; show j < min i _; omega, rfl⟩);simpa using this
   rw [if_pos hm, hix];refine goL ?_;exact LEP.refl _
  ·have h2 : ¬ s = zs[i] := by simpa using h2
   refine goL ?_;refine ⟨_, aq (n := i + 1) rfl (by omega), goL ?_⟩;refine ⟨⟨⟨i + 1, hlt⟩, ?_⟩, ?_, by show zs.length - (i + 1) < zs.length - i; omega⟩
   ·intro t ht;rw [List.take_succ_eq_append_getElem hlt, List.mem_append, List.mem_singleton] at ht;rcases ht with ht | rfl
    ·exact hno t ht
    ·exact fun e => h2 e.symm
   ·exact Ge.go
 ·have hge : zs.take i = zs := by have := of_decide_eq_false h1; rw [al] at this; have h2 : ¬ ((i : Int) < zs.length) := this; exact List.take_of_length_le (by omega)
  have hm : ¬ s ∈ zs := fun h => hno s (by rw [hge]; exact h) rfl
  rw [if_neg hm];refine goL ?_;exact LEP.refl _
theorem rY (zs : List Bs) (s : Bs) (hz : zs.length <= 1000000000) : K true 121 [.p (.lst (aC zs)), sv s] (.pv (.bool (decide (s ∈ zs)))) := by
 refine pcv {} Tryz.func121 ?_;refine goL ?_;refine cC (yM zs s hz) (goL ?_);refine LEP.of (congrArg PV.bool (decide_eq_decide.2 ?_))
 by_cases h : s ∈ zs
 ·rw [if_pos h];exact ⟨fun _ => h, fun _ => Int.natCast_nonneg _⟩
 ·rw [if_neg h];exact ⟨fun h => absurd h (by decide), fun h' => absurd h' h⟩
def usN (u : Us) (i : Nat) : Nat := ((bM.take i).filter fun m => decide (m ∈ u.set)).length
def lw (u : Us) : Bool := !decide (u.name = []) && (decide (0 < usN u 3) && (decide (usN u 3 = u.set.length) && (decide (0 <= u.fails) && (decide (u.fails <= 1099511627776) && cp u.tok))))
theorem BD (u : Us) (i : Nat) : usN u i <= 3 := by
 have h1 := List.length_filter_le (fun m => decide (m ∈ u.set)) (bM.take i);have h2 : (bM.take i).length <= 3 := by rw [List.length_take]; exact Nat.min_le_right _ _
 exact Nat.le_trans h1 h2
theorem BE (u : Us) (i : Nat) (h : i < bM.length) : usN u (i + 1) = if bM[i] ∈ u.set then usN u i + 1 else usN u i := by
 rw [usN, List.take_succ_eq_append_getElem h, List.filter_append, List.length_append]
 by_cases h2 : bM[i] ∈ u.set
 ·rw [if_pos h2, List.filter_cons_of_pos (by simpa using h2)];rfl
 ·rw [if_neg h2, List.filter_cons_of_neg (by simpa using h2)];rfl
theorem wh (u : Us) (hs : u.set.length <= 1000000000) : K true 67 [.p u.pv] (.pv (.bool (lw u))) := by
 have htr := jw true u.tok;unfold lw;refine pcv {} Tryz.func67 ?_;refine goL ?_;refine cC BC (goL ?_);refine ⟨Rd bM.length, fun i => S.of [(1, .ptr 1 0), (3, iv (usN u i.1 : Int)), (6, .p (.lst (aC bM))), (7, iv ((aC bM).length : Int)), (8, iv (i.1 : Int))] [(1, .var true 31 (.p u.pv))], fun i => bM.length - i.1, Rd.zero _, ?_, ?_⟩
 ·exact Ge.go
 rintro ⟨i, hi⟩
 refine goL ?_;refine aa ?_ ?_ <;> intro h1
 ·have hlt : i < bM.length := by have := of_decide_eq_true h1; rw [al] at this; exact Int.ofNat_lt.1 this
  refine goL ?_;refine ⟨Int.natCast_nonneg _, .str bM[i], by show (aC bM)[i]? = _; simp [aC, hlt], rfl, rfl, goL ?_⟩;refine cC (rY u.set bM[i] hs) (goL ?_);have hn := BE u i hlt;refine aa ?_ ?_ <;> intro h2
  ·rw [if_pos (of_decide_eq_true h2)] at hn;refine goL ?_;refine ⟨_, aq (n := usN u (i + 1)) (by rw [hn]; rfl) (by have := BD u (i + 1); omega), goL ?_⟩;refine ⟨_, aq (n := i + 1) rfl (by have : bM.length = 3 := rfl; omega), goL ?_⟩;refine ⟨⟨i + 1, hlt⟩, ?_, by show bM.length - (i + 1) < bM.length - i; omega⟩;exact Ge.go
  ·rw [if_neg (of_decide_eq_false h2)] at hn;refine goL ?_;refine ⟨_, aq (n := i + 1) rfl (by have : bM.length = 3 := rfl; omega), goL ?_⟩;refine ⟨⟨i + 1, hlt⟩, ?_, by show bM.length - (i + 1) < bM.length - i; omega⟩;refine Ge.of rfl ?_ ?_
   ·conv => whnf
    refine ⟨LE.of rfl, ?_⟩
    conv => whnf
    refine ⟨LE.of (by rw [hn]), ?_⟩
    repeat (conv => whnf); refine ⟨LE.of rfl, ?_⟩
    trivial
   ·repeat (conv => whnf); refine ⟨OLE.of rfl, ?_⟩
    trivial
 ·have hge : i = 3 := by have := of_decide_eq_false h1; rw [al] at this; have h3 : bM.length = 3 := rfl; have h2 : ¬ ((i : Int) < bM.length) := this; have hi : i <= bM.length := hi; omega
  subst hge;have hsm : ((usN u 3 : Nat) : Int) = (u.set.length : Int) ↔ usN u 3 = u.set.length := Int.ofNat_inj;refine goL ?_;refine aa ?_ ?_ <;> intro g1
  ·have g1 : ¬ u.name = [] := of_decide_eq_true g1;refine goL ?_;refine aa ?_ ?_ <;> intro g2
   ·have g2 : 0 < usN u 3 := Int.ofNat_lt.1 (of_decide_eq_true g2);refine goL ?_;refine aa ?_ ?_ <;> intro g3
    ·have g3 : usN u 3 = u.set.length := hsm.1 (by have := of_decide_eq_true g3; rw [al] at this; exact this);refine goL ?_;refine aa ?_ ?_ <;> intro g4
     ·have g4 : 0 <= u.fails := of_decide_eq_true g4;refine goL ?_;refine aa ?_ ?_ <;> intro g5
      ·have g5 : u.fails <= 1099511627776 := of_decide_eq_true g5;refine goL ?_;refine cC htr (goL ?_);exact LEP.of (congrArg PV.bool (by simp [g1, g2, <- g3, g4, g5]))
      ·have g5 : ¬ u.fails <= 1099511627776 := of_decide_eq_false g5;refine goL ?_;exact LEP.of (congrArg PV.bool (by simp [g5]))
     ·have g4 : ¬ 0 <= u.fails := of_decide_eq_false g4;refine goL ?_;exact LEP.of (congrArg PV.bool (by simp [g4]))
    ·have g3 : ¬ usN u 3 = u.set.length := fun h => of_decide_eq_false g3 (by rw [al]; exact hsm.2 h)
     refine goL ?_;exact LEP.of (congrArg PV.bool (by simp [g3]))
   ·have g2 : ¬ 0 < usN u 3 := fun h => of_decide_eq_false g2 (Int.ofNat_lt.2 h)
    refine goL ?_;exact LEP.of (congrArg PV.bool (by simp [g2]))
  ·have g1 : u.name = [] := by simpa using g1
   refine goL ?_;exact LEP.of (congrArg PV.bool (by simp [g1]))
end Go.Sl
namespace Go.Sl
open Go Go.Vc Go.Proofs Go.RowKit
def uix (name : Bs) (l : List Us) : Nat := l.findIdx fun u => decide (u.name = name)
theorem Gf {name : Bs} {l : List Us} {i : Nat} (h : i < l.length) (hno : ∀ u ∈ l.take i, u.name ≠ name) (he : l[i].name = name) : uix name l = i := by
 rw [uix, List.findIdx_eq h];refine ⟨by simpa using he, fun j hj => ?_⟩;have := hno l[j] (List.mem_take_iff_getElem.2 ⟨j, by omega, rfl⟩);simpa using this
theorem Gk {name : Bs} {l : List Us} (hno : ∀ u ∈ l, u.name ≠ name) : uix name l = l.length := by
 rw [uix, List.findIdx_eq_length];intro u hu;simpa using hno u hu
theorem xy (l : List Us) (i : Nat) (u : Us) : usL (l.set i u) = (usL l).set i u.pv := List.map_set
abbrev usO (l : List Us) : List (Nat × AO) := [(2013, .row 31 15 (usL l))]
abbrev bsO (l : List Us) : List (Nat × AO) := [(2011, .var true 135 (.mix [.slc 2013])), (2013, .row 31 15 (usL l))]
theorem BF (u : Us) (name : Bs) : PM (cx true) 170 [(2101, .var false 9 (sv name))] [.p u.pv, .ptr 2101 0] [] (.p (.bool (decide (u.name = name)))) := by
 refine pmv {} Tryz.func170 ?_;refine goL ?_;exact ⟨gI, ⟨rfl, LE.of rfl⟩, trivial, rfl, rfl⟩
theorem qC (l : List Us) (name : Bs) (hl : l.length <= 1000000) : PM (cx true) 169 ((2101, .var false 9 (sv name)) :: usO l) [.slc 2013, .fn 170 [.ptr 2101 0]] (usO l) (iv (if uix name l < l.length then ((uix name l : Nat) : Int) else -1)) := by
 refine pmv { own := oO [100016] } Tryz.func169 ?_;refine goL ?_;refine ⟨{ i : Rd l.length // ∀ u ∈ l.take i.1, u.name ≠ name }, fun i => Vc.S.of [(0, .slc 2013), (1, .fn 170 [.ptr 2101 0]), (7, iv ((usL l).length : Int)), (8, iv (i.1.1 : Int))] ((2101, .var false 9 (sv name)) :: usO l), fun i => l.length - i.1.1, ⟨Rd.zero _, by simp [Rd.zero]⟩, ?_, ?_⟩
 ·exact Ge.go
 rintro ⟨⟨i, hi⟩, hno⟩
 refine goL ?_;refine aa ?_ ?_ <;> intro h1
 ·have hlt : i < l.length := by have := of_decide_eq_true h1; rw [gG] at this; exact Int.ofNat_lt.1 this
  refine goL ?_;refine ⟨Int.natCast_nonneg _, by rw [gG]; exact hlt, goL ?_⟩;refine ⟨_, gH hlt, rfl, rfl, rfl, goL ?_⟩;refine ac.go gI (BF l[i] name) (goL ?_);refine aa ?_ ?_ <;> intro h2
  ·have h2 : l[i].name = name := of_decide_eq_true h2;have hix := Gf hlt hno h2;refine goL ?_;exact rR gI ⟨rfl, LE.of (by rw [hix, if_pos hlt]; rfl)⟩
  ·have h2 : ¬ l[i].name = name := of_decide_eq_false h2;refine goL ?_;refine ⟨_, aq (n := i + 1) rfl (by omega), goL ?_⟩;refine ⟨⟨⟨i + 1, hlt⟩, ?_⟩, ?_, by show l.length - (i + 1) < l.length - i; omega⟩
   ·intro t ht;rw [List.take_succ_eq_append_getElem hlt, List.mem_append, List.mem_singleton] at ht;rcases ht with ht | rfl
    ·exact hno t ht
    ·exact h2
   ·exact Ge.go
 ·have hge : l.take i = l := by have := of_decide_eq_false h1; rw [gG] at this; have h2 : ¬ ((i : Int) < l.length) := this; exact List.take_of_length_le (by omega)
  have hix := Gk (name := name) (l := l) fun u hu => hno u (by rw [hge]; exact hu)
  refine goL ?_;exact rR gI ⟨rfl, LE.of (by rw [hix, if_neg (Nat.lt_irrefl _)]; rfl)⟩
theorem jy (l : List Us) (name : Bs) (hl : l.length <= 1000000) (h : uix name l < l.length) : PM (cx true) 119 (bsO l) [.ptr 2011 0, sv name] (bsO l) (.rowE 2013 15 (uix name l)) := by
 have hi := qC l name hl;rw [if_pos h] at hi;refine pmv { own := oO [100011] } Tryz.func119 ?_;refine goL ?_;refine ⟨_, ac.pr (gn [(2101, 3)]) hi ⟨LE.of rfl, LE.of rfl, trivial⟩ (by (conv => whnf); exact ⟨.inr (.inr (.inr ⟨_, _, _, rfl, rfl, LE.refl _⟩)), .inr (.inl rfl), trivial⟩) rfl, goL ?_⟩;refine ⟨Int.natCast_nonneg _, by rw [gG]; exact h, goL ?_⟩;exact rR gI
abbrev IH : PV := .exact (.pointer none)
theorem ly (l : List Us) (name : Bs) (hl : l.length <= 1000000) (h : ¬ uix name l < l.length) : PM (cx true) 119 (bsO l) [.ptr 2011 0, sv name] (bsO l) (.p IH) := by
 have hi := qC l name hl;rw [if_neg h] at hi;refine pmv { own := oO [100011] } Tryz.func119 ?_;refine goL ?_;refine ⟨_, ac.pr (gn [(2101, 3)]) hi ⟨LE.of rfl, LE.of rfl, trivial⟩ (by (conv => whnf); exact ⟨.inr (.inr (.inr ⟨_, _, _, rfl, rfl, LE.refl _⟩)), .inr (.inl rfl), trivial⟩) rfl, goL ?_⟩;exact rR gI
def us0 : Us := ⟨[], aD, [], aD, ⟨0, 0, 0, 0, 0, 0⟩, 0⟩
def lz (name : Bs) (l : List Us) : Us × Bool := if h : uix name l < l.length then (l[uix name l], true) else (us0, false)
abbrev usb (x : Us × Bool) : SV := .tupS [.p x.1.pv, .p (.bool x.2)]
theorem Gl : LE (.p (.agg [.str [], .int .i64 0, .str [], .nilS, .nilS, .int .i64 0, .str [], .nilS, .int .i64 0, .int .i64 0, .int .i64 0, .int .i64 0, .int .i64 0, .int .i64 0, .int .i64 0])) (.p us0.pv) :=
 gO ⟨LEP.refl _, LEP.refl _, LEP.refl _, bm, bm, LEP.refl _, LEP.refl _, bm, LEP.refl _, LEP.refl _, LEP.refl _, LEP.refl _, LEP.refl _, LEP.refl _, LEP.refl _, trivial⟩
theorem BG (l : List Us) (name : Bs) (hl : l.length <= 1000000) (hs : ∀ u ∈ l, u.set.length <= 1000000000) : PM (cx true) 66 (bsO l) [.ptr 2011 0, sv name] (bsO l) (usb (lz name l)) := by
 by_cases h : uix name l < l.length
 ·rw [lz, dif_pos h];refine pmv { own := oO [100009] } Tryz.func66 ?_;refine goL ?_;refine ac.go gI (jy l name hl h) (goL ?_);refine ⟨_, gH h, rfl, rfl, rfl, goL ?_⟩;refine cC (BB l[uix name l] (hs _ (List.getElem_mem h))) (goL ?_);exact rR gI ⟨rfl, LE.of rfl, rfl, LE.of rfl, trivial⟩
 ·rw [lz, dif_neg h];refine pmv { own := oO [100009] } Tryz.func66 ?_;refine goL ?_;refine ac.go gI (ly l name hl h) (goL ?_);exact rR gI ⟨rfl, Gl, rfl, LE.of rfl, trivial⟩
def iK (name : Bs) (l : List Us) : Bool := if h : uix name l < l.length then decide (5 <= l[uix name l].fails) else true
theorem qD (l : List Us) (name : Bs) (hl : l.length <= 1000000) : PM (cx true) 86 (bsO l) [.ptr 2011 0, sv name] (bsO l) (.p (.bool (iK name l))) := by
 by_cases h : uix name l < l.length
 ·rw [iK, dif_pos h];refine pmv { own := oO [100008] } Tryz.func86 ?_;refine goL ?_;refine ac.go gI (jy l name hl h) (goL ?_);refine ⟨uix name l, 14, _, rfl, gH h, rfl, by decide, goL ?_⟩;exact rR gI
 ·rw [iK, dif_neg h];refine pmv { own := oO [100008] } Tryz.func86 ?_;refine goL ?_;refine ac.go gI (ly l name hl h) (goL ?_);exact rR gI
theorem yN (n : Int) (h0 : -9223372036854775808 <= n) (h1 : n < 9223372036854775807) : K true 143 [iv n] (.pv (.int .i64 (n + 1))) := by
 refine pcv {} Tryz.func143 ?_;refine goL ?_;refine ⟨n + 1, aS (k := n + 1) (by omega) (by omega) rfl, goL ?_⟩;exact LEP.refl _
theorem yO (n : Int) : K true 148 [iv n] (.pv (.int .i64 0)) := by
 refine pcv {} Tryz.func148 ?_;refine goL ?_;exact LEP.refl _
def setU (name : Bs) (l : List Us) (g : Int -> Int) : List Us := if h : uix name l < l.length then l.set (uix name l) { l[uix name l] with fails := g l[uix name l].fails } else l
def BH (name : Bs) (l : List Us) : Int := if uix name l < l.length then 0 else 3
theorem BI (f : FuncId) (g : Int -> Int) (l : List Us) (name : Bs) (hl : l.length <= 1000000) (hf : ∀ h : uix name l < l.length, K true f [iv (l[uix name l]).fails] (.pv (.int .i64 (g (l[uix name l]).fails)))) :
  PM (cx true) 142 (bsO l) [.ptr 2011 0, sv name, .fn f []] (bsO (setU name l g)) (iv (BH name l)) := by
 by_cases h : uix name l < l.length
 ·rw [setU, dif_pos h, BH, if_pos h];refine pmv { own := oO [100010] } Tryz.func142 ?_;refine goL ?_;refine ac.go gI (jy l name hl h) (goL ?_);refine ⟨uix name l, 14, _, rfl, gH h, rfl, by decide, goL ?_⟩;refine cC (hf h) (goL ?_);refine ⟨uix name l, 14, _, rfl, gH h, rfl, rfl, by decide, goL ?_⟩;have e : (usL l).set (uix name l) (Us.pv { l[uix name l] with fails := g l[uix name l].fails }) = usL (l.set (uix name l) { l[uix name l] with fails := g l[uix name l].fails }) := (xy l _ _).symm;exact rR gI (b := ⟨.inr (.inl rfl), .inr (.inl (congrArg (AO.row 31 15) e)), trivial⟩)
 ·rw [setU, dif_neg h, BH, if_neg h];refine pmv { own := oO [100010] } Tryz.func142 ?_;refine goL ?_;refine ac.go gI (ly l name hl h) (goL ?_);exact rR gI
theorem Ep (l : List Us) (name : Bs) (hl : l.length <= 1000000) (hb : ∀ u ∈ l, 0 <= u.fails /\ u.fails < 9223372036854775807) : PM (cx true) 95 (bsO l) [.ptr 2011 0, sv name] (bsO (setU name l (· + 1))) (iv (BH name l)) := by
 have h := BI 143 (· + 1) l name hl fun h => yN _ (by have := hb _ (List.getElem_mem h); omega) (hb _ (List.getElem_mem h)).2
 refine pmv { own := oO [100007] } Tryz.func95 ?_;refine goL ?_;refine ac.go gI h (goL ?_);exact rR gI
theorem wi (l : List Us) (name : Bs) (hl : l.length <= 1000000) : PM (cx true) 99 (bsO l) [.ptr 2011 0, sv name] (bsO (setU name l fun _ => 0)) (iv (BH name l)) := by
 have h := BI 148 (fun _ => 0) l name hl fun h => yO _
 refine pmv { own := oO [100007] } Tryz.func99 ?_;refine goL ?_;refine ac.go gI h (goL ?_);exact rR gI
def codeU (name : Bs) (l : List Us) (hits : List Int) : List Us × Int × Int :=
 if h : uix name l < l.length then
  (if 5 <= l[uix name l].fails then (l, 0, 7) else (l.set (uix name l) { l[uix name l] with tok := (fM l[uix name l].tok hits).1 }, (fM l[uix name l].tok hits).2.1, (fM l[uix name l].tok hits).2.2))
 else (l, 0, 3)
theorem rZ (l : List Us) (name : Bs) (hits : List Int) (hl : l.length <= 1000000) (hh : hits.length <= 1000000) : PM (cx true) 98 (bsO l) [.ptr 2011 0, sv name, .p (.lst (aX hits))] (bsO (codeU name l hits).1) (.tupS [iv (codeU name l hits).2.1, iv (codeU name l hits).2.2]) := by
 have hlk := qD l name hl;rw [iK] at hlk
 by_cases h : uix name l < l.length
 ·rw [codeU, dif_pos h];rw [dif_pos h] at hlk
  by_cases h5 : 5 <= l[uix name l].fails
  ·rw [if_pos h5];rw [decide_eq_true h5] at hlk;refine pmv { own := oO [100011, 100018] } Tryz.func98 ?_;refine goL ?_;refine ac.go gI (jy l name hl h) (goL ?_);refine ac.go gI hlk (goL ?_);exact rR gI ⟨rfl, LE.of rfl, rfl, LE.of rfl, trivial⟩
  ·rw [if_neg h5];rw [decide_eq_false h5] at hlk;have hac := yJ l[uix name l].tok hits hh;refine pmv { own := oO [100011, 100018] } Tryz.func98 ?_;refine goL ?_;refine ac.go gI (jy l name hl h) (goL ?_);refine ac.go gI hlk (goL ?_);refine ⟨uix name l, 8, _, rfl, gH h, rfl, by decide, goL ?_⟩;refine cC hac (goL ?_);refine ⟨uix name l, 8, _, rfl, gH h, rfl, rfl, by decide, goL ?_⟩;have e : (usL l).set (uix name l) (Us.pv { l[uix name l] with tok := (fM l[uix name l].tok hits).1 }) = usL (l.set (uix name l) { l[uix name l] with tok := (fM l[uix name l].tok hits).1 }) := (xy l _ _).symm;exact ⟨gI, ⟨rfl, LE.of rfl, rfl, LE.of rfl, trivial⟩, ⟨.inr (.inl rfl), .inr (.inl (congrArg (AO.row 31 15) e)), trivial⟩, rfl, rfl⟩
 ·rw [codeU, dif_neg h];refine pmv { own := oO [100011, 100018] } Tryz.func98 ?_;refine goL ?_;refine ac.go gI (ly l name hl h) (goL ?_);exact rR gI ⟨rfl, LE.of rfl, rfl, LE.of rfl, trivial⟩
end Go.Sl
