/- Part 12 of the proof: Io Ip Iq Ir Is It. -/
import Derived.Test.YteicafhbhdliaaaGreatDoorOak
set_option linter.unusedSimpArgs false
set_option linter.unusedVariables false
set_option maxHeartbeats 4000000
namespace Go.Sl
open Go Go.Vc Go.Proofs Go.RowKit
structure qE (l : List Us) : Prop where
 few : l.length <= 32
 right : ∀ u ∈ l, lw u = true
 apart : ∀ i (h : i < l.length), ¬ uix l[i].name (l.take i) < (l.take i).length
theorem ue {u : Us} (h : lw u = true) : u.set.length <= 3 := by
 simp only [lw, Bool.and_eq_true, decide_eq_true_eq] at h;have := BD u 3;omega
theorem Er (l : List Us) (hg : qE l) : PM (cx true) 29 [] [.p (.lst (usL l))] (bsO l) (.tupS [.ptr 2011 0, iv 0]) := by
 have hl := hg.few;have hset : ∀ u ∈ l, u.set.length <= 1000000000 := fun u hu => by have := ue (hg.right u hu); omega
 refine pmv { own := oO [41, 100024], nl := fun r => cond (Nat.beq r 4) [(13, 0, 1500, 31, 15)] [], tr := trT [(10, [0, 0, 2, 6, 14, 0, 32, 96, 254, 511, 1023, 2047], qQ [1, 2, 3, 4, 5, 6, 7] (.alt (qQ [0, 8, 9, 10, 11] .fin) (qQ [8, 0, 9, 10, 11] .fin)))] } Tryz.func29 ?_;refine goL ?_;refine aa ?_ ?_ <;> intro h1
 ·exact absurd (of_decide_eq_true h1) (by rw [gG]; omega)
 refine goL ?_;refine ⟨Rd l.length, fun i => S.of [(0, .p (.lst (usL l))), (4, .ptr 13 0), (14, .p (.lst (usL l))), (15, iv ((usL l).length : Int)), (16, iv (i.1 : Int))] [(13, .var true 135 (.mix [.slc 1500])), (1500, .row 31 15 (usL (l.take i.1)))], fun i => l.length - i.1, Rd.zero _, ?_, ?_⟩
 ·exact Ge.go
 rintro ⟨i, hi⟩
 refine goL ?_;refine aa ?_ ?_ <;> intro h2
 ·have hlt : i < l.length := by have := of_decide_eq_true h2; rw [gG] at this; exact Int.ofNat_lt.1 this
  have hmem := List.getElem_mem hlt;have htl : (l.take i).length = i := by rw [List.length_take]; omega
  have hget := BG (l.take i) l[i].name (by omega) fun u hu => hset u (List.mem_of_mem_take hu)
  rw [lz, dif_neg (hg.apart i hlt)] at hget;have hrt := wh l[i] (hset _ hmem);rw [hg.right _ hmem] at hrt;refine goL ?_;refine ⟨Int.natCast_nonneg _, _, gH hlt, rfl, rfl, goL ?_⟩;refine ac.go (gn [(2011, 13), (2013, 1500)]) hget (goL ?_);refine cC hrt (goL ?_);refine cC (BB l[i] (hset _ hmem)) ?_;have hsz : ((usL (l.take i)).length + 1) * 192 <= 140737488355328 := by rw [gG, htl]; omega
  have hrow : usL (l.take i) ++ [(l[i]).pv] = usL (l.take (i + 1)) := by
   rw [List.take_succ_eq_append_getElem hlt, usL, usL, List.map_append];rfl
  repeat' ((conv => whnf); first | refine sS ?_ | refine aQ ?_ ?_ | refine ⟨hsz, ?_⟩ | fail)
  all_goals (conv => whnf)
  all_goals refine ⟨_, aq (n := i + 1) rfl (by omega), goL ?_⟩
  all_goals refine ⟨⟨i + 1, hlt⟩, ?_, by show l.length - (i + 1) < l.length - i; omega⟩
  all_goals refine Ge.of rfl (by (repeat (conv => whnf); refine ⟨LE.of rfl, ?_⟩); trivial) ?_
  all_goals (conv => whnf)
  all_goals exact ⟨OLE.of rfl, OLE.of (congrArg (AO.row 31 15) hrow), trivial⟩
 ·have hge : l.take i = l := by have := of_decide_eq_false h2; rw [gG] at this; have h2 : ¬ ((i : Int) < l.length) := this; exact List.take_of_length_le (by omega)
  refine goL ?_;exact ⟨gn [(2011, 13), (2013, 1500)], ⟨rfl, LE.of rfl, rfl, LE.of rfl, trivial⟩, ⟨.inr (.inl rfl), .inr (.inl (congrArg (AO.row 31 15) (congrArg usL hge))), trivial⟩, rfl, rfl⟩
end Go.Sl
namespace Go.Sl
open Go Go.Vc Go.Proofs Go.RowKit
abbrev Ca := List (Bs × Int)
def caL (c : Ca) : List (MK × PV) := c.map fun x => (.s x.1, .int .i64 x.2)
theorem lA (c : Ca) : (caL c).length = c.length := List.length_map _
def lB (s : Bs) : Ca -> Option Int
 | [] => none
 | (k, v) :: r => if s = k then some v else lB s r
def kf (s : Bs) (u : Int) : Ca -> Ca
 | [] => [(s, u)]
 | (k, v) :: r => if s = k then (s, u) :: r else (k, v) :: kf s u r
theorem xz (s : Bs) (c : Ca) : iW (.s s) (caL c) = (lB s c).map (.int .i64) := by
 induction c with
 | nil => rfl
 | cons x c ih =>
  obtain ⟨k, v⟩ := x;show (if MK.s s = MK.s k then some (PV.int .i64 v) else iW (.s s) (caL c)) = _;rw [lB]
  by_cases e : s = k
  ·subst e; simp
  ·rw [if_neg (fun h => e (by injection h)), ih, if_neg e]
theorem xA (s : Bs) (u : Int) (c : Ca) : kh (.s s) (.int .i64 u) (caL c) = caL (kf s u c) := by
 induction c with
 | nil => rfl
 | cons x c ih =>
  obtain ⟨k, v⟩ := x;show (if MK.s s = MK.s k then (MK.s s, PV.int .i64 u) :: caL c else (MK.s k, PV.int .i64 v) :: kh (.s s) (.int .i64 u) (caL c)) = _;rw [kf]
  by_cases e : s = k
  ·subst e; simp [caL]
  ·rw [if_neg (fun h => e (by injection h)), ih, if_neg e];rfl
abbrev caO (room : Int) (c : Ca) : List (Nat × AO) := [(2012, .var true 197 (.mix [iv room, .slc 2014])), (2014, .mp 195 true (caL c))]
theorem Es (room : Int) : PM (cx true) 69 [] [iv room] (caO (max room 0) []) (.ptr 2012 0) := by
 refine pmv {} Tryz.func69 ?_;refine goL ?_;exact rR (gn [(2012, 7), (2014, 5)])
def qF (now : Int) (seen : List Nat) (x : (Bs × Int) × Nat) : Bool := !(seen.contains x.2 && decide (x.1.2 <= now))
def b6 (c : Ca) (B : List Nat) (now : Int) (seen : List Nat) : List ((Bs × Int) × Nat) := (c.zip B).filter (qF now seen)
theorem r3 {a b : Nat} (h : a ≠ b) : Nat.beq a b = false := by
 cases e : Nat.beq a b with
 | false => rfl
 | true => exact absurd (Nat.eq_of_beq_eq_true e) h
theorem r4 {α : Type} {f : α -> Nat} : ∀ {l : List α} {x y : α}, (l.map f).Nodup -> x ∈ l -> y ∈ l -> f x = f y -> x = y
 | [], x, y, _, h, _, _ => by cases h
 | a :: l, x, y, hn, h1, h2, e => by
  rw [List.map_cons, List.nodup_cons] at hn;rcases List.mem_cons.1 h1 with rfl | h3
  ·rcases List.mem_cons.1 h2 with rfl | h2
   ·rfl
   ·exact absurd (e ▸ List.mem_map_of_mem h2) hn.1
  ·rcases List.mem_cons.1 h2 with rfl | h2
   ·exact absurd (e ▸ List.mem_map_of_mem (f := f) ‹x ∈ l›) hn.1
   ·exact r4 hn.2 ‹x ∈ l› h2 e
theorem eW {α β : Type} (f : α -> β) : ∀ (l : List α) (i : Nat), (l.map f).eraseIdx i = (l.eraseIdx i).map f
 | [], i => by simp
 | a :: l, 0 => rfl
 | a :: l, i + 1 => by
  rw [List.map_cons, List.eraseIdx_cons_succ, eW f l i];rfl
theorem iV {α : Type} {f : α -> Nat} : ∀ {l : List α} {i : Nat} {x : α}, (l.map f).Nodup -> l[i]? = some x -> l.eraseIdx i = l.filter fun y => !(Nat.beq (f y) (f x))
 | [], i, x, _, h => by simp at h
 | a :: l, 0, x, hn, h => by
  simp only [List.getElem?_cons_zero, Option.some.injEq] at h;subst h;rw [List.eraseIdx_cons_zero, List.filter_cons_of_neg (by simp)];rw [List.map_cons, List.nodup_cons] at hn;refine (List.filter_eq_self.2 fun y hy => ?_).symm;have : f y ≠ f a := fun e => hn.1 (e ▸ List.mem_map_of_mem hy)
  simp only [r3 this, Bool.not_false]
 | a :: l, i + 1, x, hn, h => by
  rw [List.map_cons, List.nodup_cons] at hn;have h : l[i]? = some x := by simpa using h
  have hx : x ∈ l := List.mem_of_getElem? h;rw [List.eraseIdx_cons_succ, List.filter_cons_of_pos, iV hn.2 h];have : f a ≠ f x := fun e => hn.1 (e ▸ List.mem_map_of_mem hx)
  simp only [r3 this, Bool.not_false]
theorem uf {K : Bs} : ∀ {c : Ca} {i : Nat} {v : Int}, (c.map (·.1)).Nodup -> c[i]? = some (K, v) -> gp (.s K) (caL c) = some i
 | [], i, v, _, h => by simp at h
 | (k, u) :: c, 0, v, hn, h => by
  simp only [List.getElem?_cons_zero, Option.some.injEq, Prod.mk.injEq] at h;show (if MK.s K = MK.s k then some 0 else _) = _;rw [if_pos (by rw [h.1])]
 | (k, u) :: c, i + 1, v, hn, h => by
  rw [List.map_cons, List.nodup_cons] at hn;have h : c[i]? = some (K, v) := by simpa using h
  have hne : ¬ MK.s K = MK.s k := fun e => by
   injection e with e
   exact hn.1 (e ▸ List.mem_map.2 ⟨_, List.mem_of_getElem? h, rfl⟩)
  show (if MK.s K = MK.s k then some 0 else (gp (.s K) (caL c)).map (· + 1)) = _;rw [if_neg hne, uf hn.2 h];rfl
theorem ug {c : Ca} {B : List Nat} {now : Int} : b6 c B now [] = c.zip B := List.filter_eq_self.2 fun x _ => rfl
theorem jY {c : Ca} {B : List Nat} (h : B.length = c.length) : (c.zip B).map (·.2) = B := List.map_snd_zip (by omega)
theorem r5 {c : Ca} {B : List Nat} (h : B.length = c.length) : (c.zip B).map (·.1) = c := List.map_fst_zip (by omega)
theorem oR {c : Ca} {B : List Nat} {now : Int} {seen : List Nat} (h : B.length = c.length) (hn : B.Nodup) : ((b6 c B now seen).map (·.2)).Nodup := by
 have h1 : ((b6 c B now seen).map (·.2)).Sublist ((c.zip B).map (·.2)) := (List.filter_sublist).map _;rw [jY h] at h1;exact h1.nodup hn
theorem BJ {c : Ca} {B : List Nat} {now : Int} {seen : List Nat} (h : B.length = c.length) (hn : (c.map (·.1)).Nodup) : (((b6 c B now seen).map (·.1)).map (·.1)).Nodup := by
 have h1 : (((b6 c B now seen).map (·.1)).map (·.1)).Sublist (((c.zip B).map (·.1)).map (·.1)) := ((List.filter_sublist).map _).map _;rw [r5 h] at h1;exact h1.nodup hn
theorem yP {c : Ca} {B : List Nat} {now : Int} {seen : List Nat} {x : (Bs × Int) × Nat} (h : B.length = c.length) (hn : B.Nodup) (hx : x ∈ c.zip B) (hy : ¬ x.1.2 <= now) : b6 c B now (seen ++ [x.2]) = b6 c B now seen := by
 refine List.filter_congr fun y hy' => ?_
 unfold qF
 by_cases e : y.2 = x.2
 ·have e2 : y = x := by
   exact r4 (f := fun z => z.2) (by rw [jY h]; exact hn) hy' hx e
  subst e2;rw [decide_eq_false hy, Bool.and_false, Bool.and_false]
 ·have : (seen ++ [x.2]).contains y.2 = seen.contains y.2 := by
   rw [Bool.eq_iff_iff];simp [e]
  rw [this]
theorem Et {c : Ca} {B : List Nat} {now : Int} {seen : List Nat} {x : (Bs × Int) × Nat} {i : Nat} (h : B.length = c.length) (hn : B.Nodup) (hx : (b6 c B now seen)[i]? = some x) (hy : x.1.2 <= now) : (b6 c B now seen).eraseIdx i = b6 c B now (seen ++ [x.2]) := by
 rw [iV (f := fun y => y.2) (oR h hn) hx];unfold b6;rw [List.filter_filter];have hxz : x ∈ c.zip B := (List.mem_filter.1 (List.mem_of_getElem? hx)).1;refine List.filter_congr fun y hy' => ?_
 unfold qF
 by_cases e : y.2 = x.2
 ·have e2 : y = x := by
   exact r4 (f := fun z => z.2) (by rw [jY h]; exact hn) hy' hxz e
  subst e2;rw [decide_eq_true hy];simp
 ·have : (seen ++ [x.2]).contains y.2 = seen.contains y.2 := by
   rw [Bool.eq_iff_iff];simp [e]
  have e3 : Nat.beq y.2 x.2 = false := r3 e;rw [this, e3];simp
theorem BK {c : Ca} {B : List Nat} {now : Int} {seen : List Nat} (h : B.length = c.length) (hs : ∀ b ∈ (b6 c B now seen).map (·.2), seen.contains b = true) : (b6 c B now seen).map (·.1) = c.filter fun x => decide (now < x.2) := by
 have e : b6 c B now seen = (c.zip B).filter ((fun x : Bs × Int => decide (now < x.2)) ∘ fun y => y.1) := by
  refine List.filter_congr fun y hy => ?_
  cases hk : qF now seen y with
  | true =>
   have := hs _ (List.mem_map_of_mem (List.mem_filter.2 ⟨hy, hk⟩));rw [qF, this] at hk;have hk : ¬ y.1.2 <= now := by simpa using hk
   exact (decide_eq_true (show now < y.1.2 by omega)).symm
  | false =>
   rw [qF] at hk;have hk : y.1.2 <= now := by simp at hk; exact hk.2
   exact (decide_eq_false (show ¬ now < y.1.2 by omega)).symm
 rw [e, <- List.filter_map, r5 h]
theorem my {α : Type} {p q : α -> Bool} {b : α} (hq : ∀ x, q x = true -> p x = true) (hp : p b = true) (hb : q b = false) : ∀ {l : List α}, b ∈ l -> l.countP q < l.countP p
 | [], h => by cases h
 | a :: l, h => by
  have hle : l.countP q <= l.countP p := List.countP_mono_left fun x _ => hq x
  rw [List.countP_cons, List.countP_cons];rcases List.mem_cons.1 h with rfl | h
  ·rw [if_pos hp, if_neg (by rw [hb]; decide)];omega
  ·have := my hq hp hb h
   by_cases h1 : q a = true
   ·rw [if_pos h1, if_pos (hq a h1)]; omega
   ·rw [if_neg h1]; split <;> omega
theorem Gm {l : List ((Bs × Int) × Nat)} {i : Nat} {key : MK} {v : PV} {b : Nat} (h1 : (caL (l.map (·.1)))[i]? = some (key, v)) (h2 : (l.map (·.2))[i]? = some b) : ∃ x, l[i]? = some x /\ key = .s x.1.1 /\ v = .int .i64 x.1.2 /\ b = x.2 := by
 rw [List.getElem?_map, Option.map_eq_some_iff] at h2;obtain ⟨x, hx, rfl⟩ := h2;rw [caL, List.getElem?_map, List.getElem?_map, hx] at h1;simp only [Option.map_some, Option.some.injEq, Prod.mk.injEq] at h1;exact ⟨x, hx, h1.1.symm, h1.2.symm, rfl⟩
theorem yQ (c : Ca) (i : Nat) : (caL c).eraseIdx i = caL (c.eraseIdx i) := eW _ _ _
abbrev dK (c : Ca) (now : Int) : Ca := c.filter fun x => decide (now < x.2)
def wj (room now : Int) (c : Ca) (B : List Nat) (m ck : Nat) (seen : List Nat) : Vc.S :=
 S.of [(0, .ptr 2012 0), (1, iv now), (5, iv ((caL c).length : Int)), (17, .ptr 17 0)] [(2012, .var true 197 (.mix [iv room, .slc 2014])), (17, .mi 2014 m ck seen ck), (2014, .ms 195 true (caL ((b6 c B now seen).map (·.1))) ((b6 c B now seen).map (·.2)) ck m)]
theorem BL (room now : Int) (c : Ca) (hn : (c.map (·.1)).Nodup) (hl : c.length <= 1000000) : PM (cx true) 144 (caO room c) [.ptr 2012 0, iv now] (caO room (c.filter fun x => decide (now < x.2))) (iv ((c.length : Int) - ((c.filter fun x => decide (now < x.2)).length : Int))) := by
 refine pmv {} Tryz.func144 ?_;refine goL ?_;intro m B ck hBl hBn hBc;refine goL ?_;rw [lA] at hBl;have hmem : ∀ {seen : List Nat} {x}, x ∈ b6 c B now seen -> x ∈ c.zip B := fun hx => (List.mem_filter.1 hx).1
 refine ⟨List Nat, wj room now c B m ck, fun seen => B.countP fun b => !seen.contains b, [], ?_, ?_⟩
 ·have e1 : caL ((b6 c B now []).map (·.1)) = caL c := by rw [ug, r5 hBl]
  have e2 : (b6 c B now []).map (·.2) = B := by rw [ug, jY hBl]
  unfold wj;rw [e1, e2];exact Ge.go
 intro seen;refine goL ?_;refine ⟨oR hBl hBn, goL ?_⟩;refine ⟨fun b hb => hBc b (by rw [<- jY hBl]; obtain ⟨x, hx, rfl⟩ := List.mem_map.1 hb; exact List.mem_map_of_mem (hmem hx)), goL ?_⟩;refine ⟨Nat.le_refl _, Nat.le_refl _, fun hs => ?_, fun i key v b h1 h2 h3 => ?_⟩
 ·have e := BK hBl hs;have hle : (dK c now).length <= c.length := List.length_filter_le _ _;have e2 : (caL ((b6 c B now seen).map (·.1))).length = (dK c now).length := by rw [lA, e]
  refine goL ?_;refine ⟨(c.length : Int) - ((dK c now).length : Int), by rw [lA, e2]; exact aS (by omega) (by omega) rfl, goL ?_⟩;exact rR gI (b := ⟨.inr (.inl rfl), .inr (.inl (congrArg (fun l => AO.mp 195 true (caL l)) e)), trivial⟩)
 ·obtain ⟨x, hx, rfl, rfl, rfl⟩ := Gm h1 h2;have hxz := hmem (List.mem_of_getElem? hx);have hxB : x.2 ∈ B := by rw [<- jY hBl]; exact List.mem_map_of_mem hxz
  refine goL ?_;refine ⟨oR hBl hBn, seen, i, _, _, x.2, rfl, h1, h2, goL ?_⟩;refine aa ?_ ?_ <;> intro h4
  ·have h4 : x.1.2 <= now := of_decide_eq_true h4;have e0 := Et hBl hBn hx h4;have hfi : gp (.s x.1.1) (caL ((b6 c B now seen).map (·.1))) = some i := uf (v := x.1.2) (BJ hBl hn) (by rw [List.getElem?_map, hx]; rfl);have e1 : i7 (.s x.1.1) (caL ((b6 c B now seen).map (·.1))) (caL ((b6 c B now seen).map (·.1))) = caL ((b6 c B now (seen ++ [x.2])).map (·.1)) := by
    rw [i7, hfi];show (caL ((b6 c B now seen).map (·.1))).eraseIdx i = _;rw [yQ, eW, e0]
   have e2 : i7 (.s x.1.1) (caL ((b6 c B now seen).map (·.1))) ((b6 c B now seen).map (·.2)) = (b6 c B now (seen ++ [x.2])).map (·.2) := by
    rw [i7, hfi];show ((b6 c B now seen).map (·.2)).eraseIdx i = _;rw [eW, e0]
   refine goL ?_;refine ⟨seen ++ [x.2], ?_, my (b := x.2) (fun y hy => by simp at hy ⊢; exact hy.1) (by simpa using h3) (by simp) hxB⟩;refine Ge.of rfl ?_ ?_
   ·repeat (conv => whnf); refine ⟨LE.of rfl, ?_⟩
    trivial
   ·conv => whnf
    refine ⟨OLE.of rfl, OLE.of rfl, OLE.of ?_, trivial⟩;show AO.ms _ _ (i7 _ _ _) (i7 _ _ _) _ _ = _;rw [e1, e2]
  ·have h4 : ¬ x.1.2 <= now := of_decide_eq_false h4;have e0 := yP (seen := seen) hBl hBn hxz h4;refine goL ?_;refine ⟨seen ++ [x.2], ?_, my (b := x.2) (fun y hy => by simp at hy ⊢; exact hy.1) (by simpa using h3) (by simp) hxB⟩;unfold wj;rw [e0];exact Ge.go
def dV (room : Int) (c : Ca) (id : Bs) (til now : Int) : Ca × Int :=
 if til <= now then (c, 5) else
  match lB id (dK c now) with
  | some old => (kf id (max old til) (dK c now), 9)
  | none => if room <= ((dK c now).length : Int) then (dK c now, 10) else (kf id til (dK c now), 0)
theorem Eu (room til now : Int) (id : Bs) (c : Ca) (hn : (c.map (·.1)).Nodup) (hl : c.length <= 1000000) : PM (cx true) 96 (caO room c) [.ptr 2012 0, sv id, iv til, iv now] (caO room (dV room c id til now).1) (iv (dV room c id til now).2) := by
 have hp := BL room now c hn hl
 by_cases h1 : til <= now
 ·rw [dV, if_pos h1];refine pmv { own := oO [100017] } Tryz.func96 ?_;refine goL ?_;refine ⟨0, goL ?_⟩;refine aa ?_ ?_ <;> intro h2
  ·refine goL ?_;refine ki.of (cfg := {}) (bo true) (bp true) rfl (goL ?_);exact rR gI
  ·exact absurd h1 (of_decide_eq_false h2)
 ·rw [dV, if_neg h1];cases hg : lB id (dK c now) with
  | some old =>
   refine pmv { own := oO [100017] } Tryz.func96 ?_;refine goL ?_;refine ⟨0, goL ?_⟩;refine aa ?_ ?_ <;> intro h2
   ·exact absurd (of_decide_eq_true h2) h1
   refine goL ?_;refine ac.go gI hp (goL ?_);refine ⟨_, (xz id _).trans (by rw [hg]), goL ?_⟩;refine ki.of (cfg := {}) (bo true) (bp true) rfl (goL ?_);exact rR gI (b := ⟨.inr (.inl rfl), .inr (.inl (congrArg (AO.mp 195 true) (xA _ _ _))), trivial⟩)
  | none =>
   refine aW (bo true) (bp true) { own := oO [100017] } Tryz.func96 (by kernel_rfl) rfl rfl (by kernel_rfl) ?_ ?_
   ·simp only; split <;> rfl
   refine goL ?_;refine ⟨0, goL ?_⟩;refine aa ?_ ?_ <;> intro h2
   ·exact absurd (of_decide_eq_true h2) h1
   refine goL ?_;refine ac.go gI hp (goL ?_);refine ⟨_, (xz id _).trans (by rw [hg]), goL ?_⟩;refine aa ?_ ?_ <;> intro h3
   ·have h3 : room <= ((dK c now).length : Int) := by have := of_decide_eq_true h3; rw [lA] at this; exact this
    simp only [if_pos h3];refine goL ?_;refine ki.of (cfg := {}) (bo true) (bp true) rfl (goL ?_);exact rR gI
   ·have h3 : ¬ room <= ((dK c now).length : Int) := by have := of_decide_eq_false h3; rw [lA] at this; exact this
    simp only [if_neg h3];refine goL ?_;exact rR gI (b := ⟨.inr (.inl rfl), .inr (.inl (congrArg (AO.mp 195 true) (xA _ _ _))), trivial⟩)
end Go.Sl
namespace Go.Sl
open Go Go.Vc Go.Proofs Go.RowKit
theorem qG (a b : List Bs) (ha : a.length <= 1000000000) : K true 85 [.p (.lst (aC a)), .p (.lst (aC b))] (.pv (.bool (decide (a = b)))) := by
 refine pcv {} Tryz.func85 ?_;refine goL ?_;refine aa ?_ ?_ <;> intro h1
 ·have h1 : ¬ a.length = b.length := fun e => of_decide_eq_true h1 (by rw [al, al, e])
  refine goL ?_;exact LEP.of (congrArg PV.bool (decide_eq_false fun e => h1 (by rw [e])).symm)
 have h1 : a.length = b.length := by have := of_decide_eq_false h1; rw [al, al] at this; omega
 refine goL ?_;refine ⟨{ i : Rd a.length // a.take i.1 = b.take i.1 }, fun i => S.of [(0, .p (.lst (aC a))), (1, .p (.lst (aC b))), (12, iv ((aC a).length : Int)), (13, iv (i.1.1 : Int))] [], fun i => a.length - i.1.1, ⟨Rd.zero _, by simp [Rd.zero]⟩, ?_, ?_⟩
 ·exact Ge.go
 rintro ⟨⟨i, hi⟩, he⟩
 refine goL ?_;refine aa ?_ ?_ <;> intro h2
 ·have hlt : i < a.length := by have := of_decide_eq_true h2; rw [al] at this; exact Int.ofNat_lt.1 this
  have hlb : i < b.length := h1 ▸ hlt;refine goL ?_;refine ⟨Int.natCast_nonneg _, .str a[i], by show (aC a)[i]? = _; simp [aC, hlt], rfl, rfl, goL ?_⟩;refine ⟨Int.natCast_nonneg _, .str b[i], by show (aC b)[i]? = _; simp [aC, hlb], rfl, rfl, goL ?_⟩;refine aa ?_ ?_ <;> intro h3
  ·have h3 : ¬ a[i] = b[i] := of_decide_eq_true h3;refine goL ?_;exact LEP.of (congrArg PV.bool (decide_eq_false fun e => h3 (by subst e; rfl)).symm)
  ·have h3 : a[i] = b[i] := by simpa using h3
   refine goL ?_;refine ⟨_, aq (n := i + 1) rfl (by omega), goL ?_⟩;refine ⟨⟨⟨i + 1, hlt⟩, ?_⟩, ?_, by show a.length - (i + 1) < a.length - i; omega⟩
   ·show a.take (i + 1) = b.take (i + 1);rw [List.take_succ_eq_append_getElem hlt, List.take_succ_eq_append_getElem hlb, h3, he]
   ·exact Ge.go
 ·have hge : a.length <= i := by have := of_decide_eq_false h2; rw [al] at this; have h2 : ¬ ((i : Int) < a.length) := this; omega
  have he : a.take i = b.take i := he;rw [List.take_of_length_le hge, List.take_of_length_le (h1 ▸ hge)] at he;refine goL ?_;exact LEP.of (congrArg PV.bool (decide_eq_true he).symm)
structure Is where
 client : Bs
 nonce : Bs
 done : List Bs
 sess : Tm
abbrev Is.pv (x : Is) : PV := .agg [.str x.client, .str x.nonce, .lst (aC x.done), .int .i64 x.sess.kind, .str x.sess.name, .lst (af x.sess.kids)]
def isL (l : List Is) : List PV := l.map Is.pv
theorem iL (l : List Is) : (isL l).length = l.length := List.length_map _
theorem r6 {l : List Is} {i : Nat} (h : i < l.length) : (isL l)[i]? = some (l[i]).pv := by
 rw [isL, List.getElem?_map, List.getElem?_eq_getElem h];rfl
theorem Gn (l : List Is) : gm (true, 6) (isL l) := by
 induction l with
 | nil => trivial
 | cons u l ih => exact ⟨rfl, ih⟩
theorem wk (b : Bool) (zs : List Is) (hz : zs.length <= 1000000) : K b 48 [.p (.lst (isL zs))] (.fresh 113 6 (isL zs)) := by
 refine pcv { own := oO [2, 5, 7], kp := kpT [(2, [0], []), (3, [0], [])] } Tryz.func48 ?_;refine goL ?_;refine ⟨fun h => ?_, ?_⟩
 ·refine goL ?_;rw [h]
 ·refine goL ?_;refine ⟨Gn zs, goL ?_⟩;refine ⟨by rw [iL]; show (0 + zs.length) * 104 <= _; omega, goL ?_⟩;exact rfl
structure Kd where
 key : Tm
 cookies : Tm
 us : List Us
 room : Int
 ca : Ca
 drawn : Int
 iss : List Is
abbrev kdV (k : Kd) (iss : SV) : SV := .mix [iv k.key.kind, sv k.key.name, lv k.key.kids, iv k.cookies.kind, sv k.cookies.name, lv k.cookies.kids, .ptr 2011 0, iv k.room, .ptr 2012 0, iv k.drawn, iss]
abbrev kdO (k : Kd) : List (Nat × AO) :=
 [(2010, .var true 79 (kdV k (.slc 1010))),
  (2011, .var true 135 (.mix [.slc 2013])), (2013, .row 31 15 (usL k.us)),
  (2012, .var true 197 (.mix [iv k.room, .slc 2014])), (2014, .mp 195 true (caL k.ca)),
  (1010, .row 113 6 (isL k.iss))]
abbrev HA (k : Kd) : List (Nat × AO) :=
 [(2010, .var true 79 (kdV k .no)),
  (2011, .var true 135 (.mix [.slc 2013])), (2013, .row 31 15 (usL k.us)),
  (2012, .var true 197 (.mix [iv k.room, .slc 2014])), (2014, .mp 195 true (caL k.ca))]
def r7 : Bs := [107, 100, 99, 32]
def dq (n : Int) : Tm := cI (r7 ++ Lib.itoa n)
theorem nI (k : Kd) (h0 : 0 <= k.drawn) (h1 : k.drawn < 1000000000000) : PM (cx true) 88 (kdO k) [.ptr 2010 0] (kdO { k with drawn := k.drawn + 1 }) (.p (TV (dq (k.drawn + 1)))) := by
 refine pmv {} Tryz.func88 ?_;refine goL ?_;refine ⟨k.drawn + 1, aS (k := k.drawn + 1) (by omega) (by omega) rfl, goL ?_⟩;refine cC (cL true (k.drawn + 1) (by omega) (by omega)) (goL ?_);refine ⟨by have := bj (n := k.drawn + 1) (by omega) (by omega); show 4 + (Lib.itoa (k.drawn + 1)).length <= _; omega, goL ?_⟩;refine cC (bl true (r7 ++ Lib.itoa (k.drawn + 1))) (goL ?_);exact rR gI
theorem uh (x : SV) : LE x .no := fun ok β w v _ => by rw [R]; trivial
theorem xB {xs ys : List SV} (h : LEL xs ys) : LE (.mix xs) (.mix ys) := fun ok β w v hr => by
 rw [R] at hr ⊢;obtain ⟨vs, h1, h2, h3⟩ := hr;exact ⟨vs, h1, h2, n7 h h3⟩
theorem oS (k : Kd) (hr : 0 <= k.room) : PM (cx true) 30
  [(2010, .var true 79 (.mix [iv k.key.kind, sv k.key.name, lv k.key.kids, iv k.cookies.kind, sv k.cookies.name, lv k.cookies.kids, .ptr 2011 0, iv k.room, .no, iv k.drawn, .slc 1010])),
   (2011, .var true 135 (.mix [.slc 2013])), (2013, .row 31 15 (usL k.us)), (1010, .row 113 6 (isL k.iss))] [.ptr 2010 0] (kdO { k with ca := [] }) (.tupS []) := by
 have hn := Es k.room;rw [Int.max_eq_left hr] at hn;refine pmv { own := oO [100007] } Tryz.func30 ?_;refine goL ?_;refine ac.go (gn [(2012, 7), (2014, 10)]) hn (goL ?_);exact rR (gn [(2012, 7), (2014, 10), (2010, 2010), (2011, 2011), (2013, 2013), (1010, 1010)]) (rfl)
theorem xC (key cookies : Tm) (l : List Us) (room : Int) (hg : qE l) (h0 : 0 <= room) (h1 : room <= 64) : PM (cx true) 7 [] [tv key, tv cookies, .p (.lst (usL l)), iv room] (kdO ⟨key, cookies, l, room, [], 0, []⟩) (.tupS [.ptr 2010 0, iv 0]) := by
 have hb := Er l hg;have hr := oS ⟨key, cookies, l, room, [], 0, []⟩ h0;refine pmv { own := oO [100015, 100036], nl := fun r => cond (Nat.beq r 7) [(34, 10, 1510, 113, 6)] [] } Tryz.func7 ?_;refine goL ?_;refine ac.go (gn [(2011, 1511), (2013, 1513)]) hb (goL ?_);refine aa ?_ ?_ <;> intro h2
 ·exact absurd (of_decide_eq_true h2) (by omega)
 refine goL ?_;refine aa ?_ ?_ <;> intro h3
 ·exact absurd (of_decide_eq_true h3) (by omega)
 refine goL ?_;refine ⟨_, ac.pr (gn [(2010, 34), (2011, 1511), (2013, 1513), (2012, 1512), (2014, 1514), (1010, 1510)]) hr ⟨LE.of rfl, trivial⟩ (by (conv => whnf); exact ⟨.inr (.inr (.inl ⟨true, _, _, _, rfl, rfl, xB ⟨LE.refl _, LE.refl _, LE.refl _, LE.refl _, LE.refl _, LE.refl _, LE.refl _, LE.refl _, uh _, LE.refl _, LE.refl _, trivial⟩⟩)), .inr (.inl rfl), .inr (.inl rfl), .inr (.inl rfl), trivial⟩) rfl, goL ?_⟩;exact rR (gn [(2010, 34), (2011, 1511), (2013, 1513), (2012, 1512), (2014, 1514), (1010, 1510)]) ⟨rfl, LE.of rfl, rfl, LE.of rfl, trivial⟩
end Go.Sl
namespace Go.Sl
open Go Go.Vc Go.Proofs Go.RowKit
theorem yR (k : Kd) (hi : k.iss.length <= 1000000) (hd : ∀ x ∈ k.iss, x.done.length <= 1000000000) : PM (cx true) 14 (kdO k) [.ptr 2010 0] (HA k) (.p (.lst (isL k.iss))) := by
 refine pmv { own := oO [9], fz := fun r => cond (Nat.beq r 1) [1010] (cond (Nat.beq r 7) [9] []) } Tryz.func14 ?_;refine goL ?_;refine cC (wk true k.iss hi) (goL ?_);refine ⟨Rd k.iss.length, fun i => S.of [(3, .slc 9), (11, iv ((isL k.iss).length : Int)), (12, iv (i.1 : Int))] ((9, .row 113 6 (isL k.iss)) :: HA k), fun i => k.iss.length - i.1, Rd.zero _, ?_, ?_⟩
 ·refine Ge.of rfl ?_ ?_
  ·repeat (conv => whnf); refine ⟨LE.of rfl, ?_⟩
   trivial
  ·conv => whnf
   refine ⟨OLE.of rfl, ?_⟩
   conv => whnf
   refine ⟨.inr (.inr (.inl ⟨true, _, _, _, rfl, rfl, xB ⟨LE.refl _, LE.refl _, LE.refl _, LE.refl _, LE.refl _, LE.refl _, LE.refl _, LE.refl _, LE.refl _, LE.refl _, uh _, trivial⟩⟩)), ?_⟩
   repeat (conv => whnf); refine ⟨OLE.of rfl, ?_⟩
   trivial
 rintro ⟨i, hi⟩
 refine goL ?_;refine aa ?_ ?_ <;> intro h1
 ·have hlt : i < k.iss.length := by have := of_decide_eq_true h1; rw [iL] at this; exact Int.ofNat_lt.1 this
  refine goL ?_;refine ⟨Int.natCast_nonneg _, by rw [iL]; exact hlt, goL ?_⟩;refine ⟨i, 2, _, rfl, r6 hlt, rfl, by decide, goL ?_⟩;refine cC (dU true k.iss[i].done (hd _ (List.getElem_mem hlt))) (goL ?_);refine ⟨Int.natCast_nonneg _, by rw [iL]; exact hlt, goL ?_⟩;refine ⟨i, 2, _, rfl, r6 hlt, rfl, rfl, by decide, goL ?_⟩;refine ⟨_, aq (n := i + 1) rfl (by omega), goL ?_⟩;refine ⟨⟨i + 1, hlt⟩, ?_, by show k.iss.length - (i + 1) < k.iss.length - i; omega⟩;have e : (isL k.iss).set i (k.iss[i]).pv = isL k.iss := by
   have h2 := r6 hlt
   apply List.ext_getElem?
   intro j;rw [List.getElem?_set]
   by_cases e : i = j
   ·subst e;rw [if_pos rfl, h2, if_pos (by rw [iL]; exact hlt)]
   ·rw [if_neg e]
  refine Ge.of rfl ?_ ?_
  ·repeat (conv => whnf); refine ⟨LE.of rfl, ?_⟩
   trivial
  ·conv => whnf
   refine ⟨OLE.of (congrArg (AO.row 113 6) e), ?_⟩
   repeat (conv => whnf); refine ⟨OLE.of rfl, ?_⟩
   trivial
 ·refine goL ?_;exact rR gI
structure Ta where
 ck : Ck
 ak : Tm
 body : Tm
 pd : Tm
 u : Us
 now : Int
abbrev Ta.pv (t : Ta) : PV := .agg [.str t.ck.client, .str t.ck.nonce, .lst (aC t.ck.done), .int .i64 t.ck.secret.kind, .str t.ck.secret.name, .lst (af t.ck.secret.kids), .int .i64 t.ck.til,
 .int .i64 t.ak.kind, .str t.ak.name, .lst (af t.ak.kids), .int .i64 t.body.kind, .str t.body.name, .lst (af t.body.kids), .int .i64 t.pd.kind, .str t.pd.name, .lst (af t.pd.kids),
 .str t.u.name, .int .i64 t.u.key.kind, .str t.u.key.name, .lst (af t.u.key.kids), .lst (aC t.u.set), .int .i64 t.u.seed.kind, .str t.u.seed.name, .lst (af t.u.seed.kids), .int .i64 t.u.tok.counter, .int .i64 t.u.tok.look, .int .i64 t.u.tok.sync, .int .i64 t.u.tok.pending, .int .i64 t.u.tok.fails, .int .i64 t.u.tok.limit, .int .i64 t.u.fails, .int .i64 t.now]
def bF (t : Ta) : Bs := t.u.set.getD t.ck.done.length []
theorem lC (t : Ta) (h : t.ck.done.length < t.u.set.length) : K true 44 [.p t.pv] (.pv (.str (bF t))) := by
 refine pcv {} Tryz.func44 ?_;refine goL ?_;refine ⟨Int.natCast_nonneg _, .str t.u.set[t.ck.done.length], by show (aC t.u.set)[(aC t.ck.done).length]? = _; rw [al]; simp [aC, h], rfl, rfl, goL ?_⟩;exact LEP.of (congrArg PV.str (by rw [bF, List.getD_eq_getElem?_getD, List.getElem?_eq_getElem h]; rfl))
def cO : Bs := [109, 111, 114, 101]
def mz (k : Kd) (t : Ta) (sec o : Tm) : Tm := kA t.ak t.ck.nonce (ay cO [o, dv k.cookies ⟨t.ck.client, t.ck.nonce, t.ck.done, sec, t.now + 100⟩])
def fv (k : Kd) (t : Ta) : Kd × Tm :=
 if bF t = cW then ({ k with drawn := k.drawn + 1 }, mz k t (dq (k.drawn + 1)) (qx (dq (k.drawn + 1)))) else
 if bF t = spW then ({ k with drawn := k.drawn + 1 }, mz k t (dq (k.drawn + 1)) (nc t.u.key (dq (k.drawn + 1)))) else
 (k, mz k t aw (ay chW []))
theorem BM (n : Int) (h0 : -9223372036854775808 <= n) (h1 : n <= 9223372036854775807) : wt (dq n) <= 1000000000 := by
 have := bj h0 h1;have h2 : (r7 ++ Lib.itoa n).length <= 24 := by
  rw [List.length_append];have h4 : r7.length = 4 := rfl;omega
 show wt (.mk 2 (r7 ++ Lib.itoa n) []) <= _;rw [bR];show (r7 ++ Lib.itoa n).length + 0 + 1 <= _;omega
theorem ui (k : Kd) (t : Ta) (hl : t.ck.done.length < t.u.set.length) (hc : t.ck.ok) (hk : wt k.cookies <= 1000000000) (h0 : 0 <= k.drawn) (h1 : k.drawn < 1000000000000) (hn0 : -1000000000000 <= t.now) (hn1 : t.now <= 1000000000000) :
  PM (cx true) 41 (kdO k) [.ptr 2010 0, .p t.pv] (kdO (fv k t).1) (.p (TV (fv k t).2)) := by
 have hx := lC t hl;have hd := BM (k.drawn + 1) (by omega) (by omega);have hnl : t.ck.nonce.length <= 9223372036854775800 := by have := hc.nonce; omega
 have hs : ∀ sec, wt sec <= 1000000000 -> Ck.ok ⟨t.ck.client, t.ck.nonce, t.ck.done, sec, t.now + 100⟩ := fun sec h => ⟨hc.client, hc.nonce, hc.done, hc.dones, h, by show _ <= t.now + 100; omega, by show t.now + 100 <= _; omega⟩
 unfold fv
 by_cases g1 : bF t = cW
 ·rw [if_pos g1];rw [g1] at hx;refine pmv { own := oO [100015] } Tryz.func41 ?_;refine goL ?_;refine cC hx (goL ?_);refine ac.go gI (nI k h0 h1) (goL ?_);refine cC (tW true (dq (k.drawn + 1))) (goL ?_);refine ⟨t.now + 100, aS (k := t.now + 100) (by omega) (by omega) rfl, goL ?_⟩;refine cC (jW k.cookies ⟨t.ck.client, t.ck.nonce, t.ck.done, dq (k.drawn + 1), t.now + 100⟩ hk (hs _ hd)) (goL ?_);refine cC (bh true cO _ [_, _] (cK _ _) (by simp)) (goL ?_);refine cC (rP true t.ak t.ck.nonce _ hnl) (goL ?_);exact rR gI
 ·rw [if_neg g1]
  by_cases g2 : bF t = spW
  ·rw [if_pos g2];rw [g2] at hx;refine pmv { own := oO [100025] } Tryz.func41 ?_;refine goL ?_;refine cC hx (goL ?_);refine ac.go gI (nI k h0 h1) (goL ?_);refine cC (pO true t.u.key (dq (k.drawn + 1))) (goL ?_);refine ⟨t.now + 100, aS (k := t.now + 100) (by omega) (by omega) rfl, goL ?_⟩;refine cC (jW k.cookies ⟨t.ck.client, t.ck.nonce, t.ck.done, dq (k.drawn + 1), t.now + 100⟩ hk (hs _ hd)) (goL ?_);refine cC (bh true cO _ [_, _] (cK _ _) (by simp)) (goL ?_);refine cC (rP true t.ak t.ck.nonce _ hnl) (goL ?_);exact rR gI
  ·rw [if_neg g2];refine pmv {} Tryz.func41 ?_;refine goL ?_;refine cC hx (goL ?_);refine aa ?_ ?_ <;> intro g3
   ·exact absurd (of_decide_eq_true g3) g1
   refine goL ?_;refine aa ?_ ?_ <;> intro g4
   ·exact absurd (of_decide_eq_true g4) g2
   refine goL ?_;refine cC (bq true) (goL ?_);refine ⟨_, ar.le (bh true chW _ [] rfl (by simp)) ⟨LE.refl _, km, trivial⟩ rfl rfl, goL ?_⟩;refine ⟨t.now + 100, aS (k := t.now + 100) (by omega) (by omega) rfl, goL ?_⟩;refine cC (jW k.cookies ⟨t.ck.client, t.ck.nonce, t.ck.done, aw, t.now + 100⟩ hk (hs _ (by decide))) (goL ?_);refine cC (bh true cO _ [_, _] (cK _ _) (by simp)) (goL ?_);refine cC (rP true t.ak t.ck.nonce _ hnl) (goL ?_);exact rR gI
def aU (t : Ta) : Tm × List Int × Int :=
 if bF t = cW then (er t.ak mg 46, (jx t.ak t.ck.secret t.pd t.u.seed t.u.tok).1, (jx t.ak t.ck.secret t.pd t.u.seed t.u.tok).2) else
 if bF t = spW then ((bx t.u.key t.body t.ck.secret t.pd).1, [], (bx t.u.key t.body t.ck.secret t.pd).2) else
 (t.u.key, [], eJ t.ak t.u.key t.body t.pd t.now)
abbrev prV (b : Tm) (h : List Int) : PV := .agg [.int .i64 b.kind, .str b.name, .lst (af b.kids), .lst (aX h)]
def prR (x : Tm × List Int × Int) : Res := .tup [prV x.1 x.2.1, .int .i64 x.2.2]
theorem yS (t : Ta) (hl : t.ck.done.length < t.u.set.length) (hp : wt t.pd <= 1000000000) (hsec : wt t.ck.secret <= 1000000000) (hn0 : -1000000000000 <= t.now) (hn1 : t.now <= 1000000000000) :
  K true 94 [.p t.pv] (prR (aU t)) := by
 have hx := lC t hl;unfold aU
 by_cases g1 : bF t = cW
 ·rw [if_pos g1];rw [g1] at hx;have hh := Eo t.ak t.ck.secret t.pd t.u.seed t.u.tok hp;revert hh;generalize jx t.ak t.ck.secret t.pd t.u.seed t.u.tok = y;obtain ⟨y, e⟩ := y;intro hh;refine pcv {} Tryz.func94 ?_;refine goL ?_;refine cC hx (goL ?_);refine cC (mj true t.ak 46 (by decide) (by decide)) (goL ?_);refine cC hh (goL ?_);exact ⟨LEP.refl _, LEP.refl _, trivial⟩
 ·rw [if_neg g1]
  by_cases g2 : bF t = spW
  ·rw [if_pos g2];rw [g2] at hx;have hh := pP t.u.key t.body t.ck.secret t.pd hp hsec;revert hh;generalize bx t.u.key t.body t.ck.secret t.pd = y;obtain ⟨y, e⟩ := y;intro hh;refine pcv {} Tryz.func94 ?_;refine goL ?_;refine cC hx (goL ?_);refine cC hh (goL ?_);exact ⟨rW ⟨LEP.refl _, LEP.refl _, LEP.refl _, bm, trivial⟩, LEP.refl _, trivial⟩
  ·rw [if_neg g2];refine pcv {} Tryz.func94 ?_;refine goL ?_;refine cC hx (goL ?_);refine aa ?_ ?_ <;> intro g3
   ·exact absurd (of_decide_eq_true g3) g1
   refine goL ?_;refine aa ?_ ?_ <;> intro g4
   ·exact absurd (of_decide_eq_true g4) g2
   refine goL ?_;refine cC (rU true t.ak t.u.key t.body t.pd t.now (by omega) (by omega) hp) (goL ?_);exact ⟨rW ⟨LEP.refl _, LEP.refl _, LEP.refl _, bm, trivial⟩, LEP.refl _, trivial⟩
end Go.Sl
namespace Go.Sl
open Go Go.Vc Go.Proofs Go.RowKit
theorem yT (ak nonce p seed : Tm) (t : Tok) : (jx ak nonce p seed t).1.length <= 72 := by
 unfold jx;split
 ·exact Nat.zero_le _
 ·split
  ·split
   ·exact Nat.zero_le _
   ·split
    ·split
     ·rename_i h;exact Nat.le_trans (List.length_filter_le _ _) (uc h)
     ·exact Nat.zero_le _
    ·exact Nat.zero_le _
  ·exact Nat.zero_le _
theorem uj (t : Ta) : (aU t).2.1.length <= 72 := by
 unfold aU;split
 ·exact yT _ _ _ _ _
 ·split <;> exact Nat.zero_le _
def b7 (t : Tm) : Bool := (ao dS 0 t).isSome
structure wm (k : Kd) : Prop where
 key : wt k.key <= 1000000000
 cookies : wt k.cookies <= 1000000000
 few : k.us.length <= 32
 sets : ∀ u ∈ k.us, 0 < u.set.length /\ u.set.length <= 3
 words : ∀ u ∈ k.us, ∀ s ∈ u.set, s.length <= 1000000000
 fails : ∀ u ∈ k.us, 0 <= u.fails /\ u.fails <= 1000000000000
 room0 : 0 <= k.room
 room1 : k.room <= 64
 nod : (k.ca.map (·.1)).Nodup
 cal : k.ca.length <= 64
 d0 : 0 <= k.drawn
 d1 : k.drawn <= 100000000000
 iss : k.iss.length <= 100000
structure Gp (t : Ta) : Prop where
 ck : t.ck.ok
 done : t.ck.done.length < t.u.set.length
 set : t.u.set.length <= 3
 words : ∀ s ∈ t.u.set, s.length <= 1000000000
 pd : wt t.pd <= 1000000000
 n0 : -1000000000000 <= t.now
 n1 : t.now <= 1000000000000
def bJ (k : Kd) (t : Ta) : Kd × Tm × List Int × Int :=
 if fq t.pd ≠ bF t \/ (bF t ≠ chW /\ b7 t.ck.secret = true) then (k, aD, [], 11) else
 if (aU t).2.2 = 6 then ({ k with us := setU t.ck.client k.us (· + 1) }, (aU t).1, (aU t).2.1, 6) else
 if (aU t).2.2 ≠ 0 then (k, (aU t).1, (aU t).2.1, (aU t).2.2) else
 if (dV k.room k.ca (aG t.pd) (t.now + 100 + 1) t.now).2 ≠ 0 then ({ k with ca := (dV k.room k.ca (aG t.pd) (t.now + 100 + 1) t.now).1 }, (aU t).1, (aU t).2.1, (dV k.room k.ca (aG t.pd) (t.now + 100 + 1) t.now).2) else
 if bF t = cW then ({ k with ca := (dV k.room k.ca (aG t.pd) (t.now + 100 + 1) t.now).1, us := (codeU t.ck.client k.us (aU t).2.1).1 }, (aU t).1, (aU t).2.1, (codeU t.ck.client k.us (aU t).2.1).2.2) else
 ({ k with ca := (dV k.room k.ca (aG t.pd) (t.now + 100 + 1) t.now).1 }, (aU t).1, (aU t).2.1, 0)
abbrev HB (x : Kd × Tm × List Int × Int) : SV := .tupS [.p (prV x.2.1 x.2.2.1), iv x.2.2.2]
theorem BN (k : Kd) (t : Ta) (hk : wm k) (ht : Gp t) : PM (cx true) 42 (kdO k) [.ptr 2010 0, .p t.pv] (kdO (bJ k t).1) (HB (bJ k t)) := by
 have hx := lC t ht.done;have hpf := aE t.pd ht.pd;have htag := rO true t.pd;have hn0 := ht.n0;have hn1 := ht.n1;unfold bJ
 by_cases g1 : fq t.pd = bF t
 ·by_cases g2 : bF t ≠ chW /\ b7 t.ck.secret = true
  ·rw [if_pos (.inr g2)];have hnn := eI true t.ck.secret (aE _ ht.ck.secret);rw [show (ao dS 0 t.ck.secret).isSome = true from g2.2] at hnn;refine pmv {} Tryz.func42 ?_;refine goL ?_;refine cC htag (goL ?_);refine cC hx (goL ?_);refine aa ?_ ?_ <;> intro h1
   ·exact absurd g1 (by simpa using h1)
   refine goL ?_;refine cC hx (goL ?_);refine aa ?_ ?_ <;> intro h2
   ·refine goL ?_;refine cC hnn (goL ?_);exact rR gI ⟨rfl, gO ⟨LEP.refl _, LEP.refl _, bm, bm, trivial⟩, rfl, LE.of rfl, trivial⟩
   ·exact absurd (show bF t = chW by simpa using h2) g2.1
  ·-- BEGIN takes
   rw [if_neg (fun h => h.elim (fun h => h g1) g2)];have hnn : (bF t = chW -> False) -> K true 21 [tv t.ck.secret] (.pv (.bool false)) := fun hne => by
    have h := eI true t.ck.secret (aE _ ht.ck.secret);cases e : (ao dS 0 t.ck.secret).isSome with
    | false => rw [e] at h; exact h
    | true => exact absurd ⟨hne, e⟩ g2
   have hp := yS t ht.done ht.pd ht.ck.secret hn0 hn1;have hlen := uj t;have htx := lf t.pd hpf fun _ => dn hpf ht.pd
   have hseen := Eu k.room (t.now + 100 + 1) t.now (aG t.pd) k.ca hk.nod (by have := hk.cal; omega);have hfail := Ep k.us t.ck.client (by have := hk.few; omega) fun u hu => by have := hk.fails u hu; omega
   have hcode := rZ k.us t.ck.client (aU t).2.1 (by have := hk.few; omega) (by omega);revert hp hlen hseen hcode;generalize aU t = y;obtain ⟨b, h, e⟩ := y;generalize dV k.room k.ca (aG t.pd) (t.now + 100 + 1) t.now = z;obtain ⟨ca2, e2'⟩ := z;simp only;generalize codeU t.ck.client k.us h = q;obtain ⟨us2, n2, e3⟩ := q;intro hp hlen hseen hcode
   by_cases e6 : e = 6
   ·rw [if_pos e6];subst e6;refine pmv { own := oO [100040, 100056, 100074] } Tryz.func42 ?_;refine goL ?_;refine cC htag (goL ?_);refine cC hx (goL ?_);refine aa ?_ ?_ <;> intro h1
    ·exact absurd g1 (by simpa using h1)
    refine goL ?_;refine cC hx (goL ?_);refine aa ?_ ?_ <;> intro h2
    ·have hnn := hnn (fun e => absurd e (of_decide_eq_true (by simpa using h2)));refine goL ?_;refine cC hnn (goL ?_);refine cC hp (goL ?_);refine ac.go gI hfail (goL ?_);exact rR gI ⟨rfl, LE.of rfl, rfl, LE.of rfl, trivial⟩
    ·refine goL ?_;refine cC hp (goL ?_);refine ac.go gI hfail (goL ?_);exact rR gI ⟨rfl, LE.of rfl, rfl, LE.of rfl, trivial⟩
   ·rw [if_neg e6]
    by_cases e0 : e = 0
    ·subst e0;rw [if_neg (fun h => h rfl)]
     by_cases e2 : e2' = 0
     ·subst e2;rw [if_neg (fun h => h rfl)]
      by_cases g3 : bF t = cW
      ·rw [if_pos g3];refine pmv { own := oO [100040, 100056, 100074] } Tryz.func42 ?_;refine goL ?_;refine cC htag (goL ?_);refine cC hx (goL ?_);refine aa ?_ ?_ <;> intro h1
       ·exact absurd g1 (by simpa using h1)
       refine goL ?_;refine cC hx (goL ?_);refine aa ?_ ?_ <;> intro h2
       ·have hnn := hnn (fun e => absurd e (of_decide_eq_true (by simpa using h2)));refine goL ?_;refine cC hnn (goL ?_);refine cC hp (goL ?_);refine cC htx (goL ?_);refine ⟨t.now + 100, aS (k := t.now + 100) (by omega) (by omega) rfl, goL ?_⟩;refine ⟨t.now + 100 + 1, aS (k := t.now + 100 + 1) (by omega) (by omega) rfl, goL ?_⟩;refine ac.go gI hseen (goL ?_);refine cC hx (goL ?_);refine aa ?_ ?_ <;> intro h5
        ·refine goL ?_;refine ac.go gI hcode (goL ?_);exact rR gI ⟨rfl, LE.of rfl, rfl, LE.of rfl, trivial⟩
        ·exact absurd g3 (of_decide_eq_false h5)
       ·refine goL ?_;refine cC hp (goL ?_);refine cC htx (goL ?_);refine ⟨t.now + 100, aS (k := t.now + 100) (by omega) (by omega) rfl, goL ?_⟩;refine ⟨t.now + 100 + 1, aS (k := t.now + 100 + 1) (by omega) (by omega) rfl, goL ?_⟩;refine ac.go gI hseen (goL ?_);refine cC hx (goL ?_);refine aa ?_ ?_ <;> intro h5
        ·refine goL ?_;refine ac.go gI hcode (goL ?_);exact rR gI ⟨rfl, LE.of rfl, rfl, LE.of rfl, trivial⟩
        ·exact absurd g3 (of_decide_eq_false h5)
      ·rw [if_neg g3];refine pmv { own := oO [100040, 100056, 100074] } Tryz.func42 ?_;refine goL ?_;refine cC htag (goL ?_);refine cC hx (goL ?_);refine aa ?_ ?_ <;> intro h1
       ·exact absurd g1 (by simpa using h1)
       refine goL ?_;refine cC hx (goL ?_);refine aa ?_ ?_ <;> intro h2
       ·have hnn := hnn (fun e => absurd e (of_decide_eq_true (by simpa using h2)));refine goL ?_;refine cC hnn (goL ?_);refine cC hp (goL ?_);refine cC htx (goL ?_);refine ⟨t.now + 100, aS (k := t.now + 100) (by omega) (by omega) rfl, goL ?_⟩;refine ⟨t.now + 100 + 1, aS (k := t.now + 100 + 1) (by omega) (by omega) rfl, goL ?_⟩;refine ac.go gI hseen (goL ?_);refine cC hx (goL ?_);refine aa ?_ ?_ <;> intro h5
        ·exact absurd (of_decide_eq_true h5) g3
        ·refine goL ?_;exact rR gI ⟨rfl, LE.of rfl, rfl, LE.of rfl, trivial⟩
       ·refine goL ?_;refine cC hp (goL ?_);refine cC htx (goL ?_);refine ⟨t.now + 100, aS (k := t.now + 100) (by omega) (by omega) rfl, goL ?_⟩;refine ⟨t.now + 100 + 1, aS (k := t.now + 100 + 1) (by omega) (by omega) rfl, goL ?_⟩;refine ac.go gI hseen (goL ?_);refine cC hx (goL ?_);refine aa ?_ ?_ <;> intro h5
        ·exact absurd (of_decide_eq_true h5) g3
        ·refine goL ?_;exact rR gI ⟨rfl, LE.of rfl, rfl, LE.of rfl, trivial⟩
     ·rw [if_pos e2];refine pmv { own := oO [100040, 100056, 100074] } Tryz.func42 ?_;refine goL ?_;refine cC htag (goL ?_);refine cC hx (goL ?_);refine aa ?_ ?_ <;> intro h1
      ·exact absurd g1 (by simpa using h1)
      refine goL ?_;refine cC hx (goL ?_);refine aa ?_ ?_ <;> intro h2
      ·have hnn := hnn (fun e => absurd e (of_decide_eq_true (by simpa using h2)));refine goL ?_;refine cC hnn (goL ?_);refine cC hp (goL ?_);refine cC htx (goL ?_);refine ⟨t.now + 100, aS (k := t.now + 100) (by omega) (by omega) rfl, goL ?_⟩;refine ⟨t.now + 100 + 1, aS (k := t.now + 100 + 1) (by omega) (by omega) rfl, goL ?_⟩;refine ac.go gI hseen (goL ?_);refine aa ?_ ?_ <;> intro h4
       ·exact absurd (of_decide_eq_true h4) e2
       refine goL ?_;exact rR gI ⟨rfl, LE.of rfl, rfl, LE.of rfl, trivial⟩
      ·refine goL ?_;refine cC hp (goL ?_);refine cC htx (goL ?_);refine ⟨t.now + 100, aS (k := t.now + 100) (by omega) (by omega) rfl, goL ?_⟩;refine ⟨t.now + 100 + 1, aS (k := t.now + 100 + 1) (by omega) (by omega) rfl, goL ?_⟩;refine ac.go gI hseen (goL ?_);refine aa ?_ ?_ <;> intro h4
       ·exact absurd (of_decide_eq_true h4) e2
       refine goL ?_;exact rR gI ⟨rfl, LE.of rfl, rfl, LE.of rfl, trivial⟩
    ·rw [if_pos e0];refine pmv { own := oO [100040, 100056, 100074] } Tryz.func42 ?_;refine goL ?_;refine cC htag (goL ?_);refine cC hx (goL ?_);refine aa ?_ ?_ <;> intro h1
     ·exact absurd g1 (by simpa using h1)
     refine goL ?_;refine cC hx (goL ?_);refine aa ?_ ?_ <;> intro h2
     ·have hnn := hnn (fun e => absurd e (of_decide_eq_true (by simpa using h2)));refine goL ?_;refine cC hnn (goL ?_);refine cC hp (goL ?_);refine aa ?_ ?_ <;> intro h3
      ·exact absurd (of_decide_eq_true h3) e6
      refine goL ?_;refine aa ?_ ?_ <;> intro h4
      ·exact absurd (of_decide_eq_true h4) e0
      refine goL ?_;refine aa ?_ ?_ <;> intro h5
      ·exact absurd (of_decide_eq_true h5) e0
      refine goL ?_;exact rR gI ⟨rfl, LE.of rfl, rfl, LE.of rfl, trivial⟩
     ·refine goL ?_;refine cC hp (goL ?_);refine aa ?_ ?_ <;> intro h3
      ·exact absurd (of_decide_eq_true h3) e6
      refine goL ?_;refine aa ?_ ?_ <;> intro h4
      ·exact absurd (of_decide_eq_true h4) e0
      refine goL ?_;refine aa ?_ ?_ <;> intro h5
      ·exact absurd (of_decide_eq_true h5) e0
      refine goL ?_;exact rR gI ⟨rfl, LE.of rfl, rfl, LE.of rfl, trivial⟩
  -- END takes
 ·rw [if_pos (.inl g1)];refine pmv {} Tryz.func42 ?_;refine goL ?_;refine cC htag (goL ?_);refine cC hx (goL ?_);refine aa ?_ ?_ <;> intro h1
  ·refine goL ?_;exact rR gI ⟨rfl, gO ⟨LEP.refl _, LEP.refl _, bm, bm, trivial⟩, rfl, LE.of rfl, trivial⟩
  ·exact absurd (by simpa using h1) g1
end Go.Sl
namespace Go.Sl
open Go Go.Vc Go.Proofs Go.RowKit
def nJ : Bs := [116, 105, 99, 107, 101, 116]
def nt : Bs := [101, 110, 99]
def dy : Bs := [102, 105, 110, 105, 115, 104]
def kD : Bs := [97, 115, 45, 114, 101, 112]
def tkT (k : Kd) (t : Ta) : Tm := bf k.key 3 (ay nJ [cN t.ck.client, dq (k.drawn + 1), v6 t.ck.done, cN (Lib.itoa t.now)])
def lD (k : Kd) (t : Ta) : Kd := { k with drawn := k.drawn + 1 + 1, us := setU t.ck.client k.us fun _ => 0, iss := k.iss ++ [⟨t.ck.client, t.ck.nonce, t.ck.done, dq (k.drawn + 1)⟩] }
def jZ (k : Kd) (t : Ta) (base : Tm) : Tm :=
 ay kD [tkT k t, bf (db (dq (k.drawn + 1 + 1)) base rQ rS) 3 (ay nt [dq (k.drawn + 1), cN t.ck.nonce, bN (tkT k t)]), kA t.ak t.ck.nonce (ay dy [dq (k.drawn + 1 + 1), bN (tkT k t)])]
theorem Gq (a b c d : Tm) : [TV a, TV b, TV c, TV d] = af [a, b, c, d] := (cw [a, b, c, d]).symm
theorem Ev (l : List Is) (x : Is) : isL l ++ [x.pv] = isL (l ++ [x]) := by
 rw [isL, isL, List.map_append];rfl
theorem wn (k : Kd) (t : Ta) (base : Tm) (hu : k.us.length <= 1000000) (d0 : 0 <= k.drawn) (d1 : k.drawn <= 100000000000) (hi : k.iss.length <= 100000) (hck : t.ck.ok) (hd : t.ck.done.length <= 3) (hn0 : -1000000000000 <= t.now) (hn1 : t.now <= 1000000000000) :
  PM (cx true) 45 (kdO k) [.ptr 2010 0, .p t.pv, tv base] (kdO (lD k t)) (.p (TV (jZ k t base))) := by
 have hdr := nI k d0 (by omega);have hdr2 := nI { k with drawn := k.drawn + 1 } (by show 0 <= k.drawn + 1; omega) (by show k.drawn + 1 < _; omega);have hsu := wi k.us t.ck.client hu;have hcl : t.ck.client.length <= 9223372036854775800 := by have := hck.client; omega
 have hnl : t.ck.nonce.length <= 9223372036854775800 := by have := hck.nonce; omega
 have hiss : ((isL k.iss).length + 1) * 104 <= 140737488355328 := by rw [iL]; omega
 unfold lD;refine pmv { own := oO [100013, 100015, 100023, 42], ps := psT [(4, [9]), (6, [11])], tr := trT [(3, [0, 0, 2, 6, 14, 0, 32, 96, 0, 256, 768, 0, 2048, 6144, 14336, 0, 65504, 131040, 262142, 524287, 1048575, 2097151], qQ [1, 2, 3, 4, 5, 6, 7, 8, 9, 10, 11, 12, 13, 14, 15, 16, 17] (.alt (qQ [0, 18, 19, 20, 21] .fin) (qQ [18, 0, 19, 20, 21] .fin)))] } Tryz.func45 ?_;refine goL ?_;refine ac.go gI hdr (goL ?_);refine ac.go gI hdr2 (goL ?_);refine ac.go gI hsu (goL ?_);refine cC (dU true t.ck.done (by omega)) (goL ?_)
 repeat' ((conv => whnf); first | refine sS ?_ | refine aQ ?_ ?_ | refine ⟨hiss, ?_⟩ | fail)
 all_goals (conv => whnf)
 all_goals refine cC (fI true t.ck.client hcl) (goL ?_)
 all_goals refine cC (Br true t.ck.done (by omega) fun s hs => by have := hck.dones s hs; omega) (goL ?_)
 all_goals refine cC (iG true t.now (by omega) (by omega)) (goL ?_)
 all_goals refine cC (bh true nJ _ [_, _, _, _] (Gq _ _ _ _) (by simp)) (goL ?_)
 all_goals refine cC (fK true k.key _ 3 (by decide) (by decide)) (goL ?_)
 all_goals refine cC (fH true _) (goL ?_)
 all_goals refine cC (tR true _ _) (goL ?_)
 all_goals refine cC (fI true t.ck.nonce hnl) (goL ?_)
 all_goals refine cC (bh true nt _ [_, _, _] (xf _ _ _) (by simp)) (goL ?_)
 all_goals refine cC (fK true _ _ 3 (by decide) (by decide)) (goL ?_)
 all_goals refine cC (bh true dy _ [_, _] (cK _ _) (by simp)) (goL ?_)
 all_goals refine cC (rP true t.ak t.ck.nonce _ hnl) (goL ?_)
 all_goals refine cC (bh true kD _ [_, _, _] (xf _ _ _) (by simp)) (goL ?_)
 all_goals exact rR gI (b := ⟨.inr (.inl rfl), .inr (.inl rfl), .inr (.inl rfl), .inr (.inl rfl), .inr (.inl rfl), .inr (.inl (congrArg (AO.row 113 6) (Ev k.iss ⟨t.ck.client, t.ck.nonce, t.ck.done, dq (k.drawn + 1)⟩))), trivial⟩)
end Go.Sl
