/- The statement TopTickets, without a condition: a ticket of one KDC is none of another one's. Part 11: Ip Iq Ir Is. -/
import Derived.Test.YteicafhbhdliaaaGreatDoorPaj
set_option linter.unusedSimpArgs false
set_option linter.unusedVariables false
set_option maxHeartbeats 4000000
namespace Go.Sl
open Go Go.Vc Go.Proofs Go.RowKit
abbrev Ca := List (Bs × Int)
def caL (c : Ca) : List (MK × PV) := c.map fun x => (.s x.1, .int .i64 x.2)
theorem caL_len (c : Ca) : (caL c).length = c.length := List.length_map _
def caGet (s : Bs) : Ca → Option Int
 | [] => none
 | (k, v) :: r => if s = k then some v else caGet s r
def caPut (s : Bs) (u : Int) : Ca → Ca
 | [] => [(s, u)]
 | (k, v) :: r => if s = k then (s, u) :: r else (k, v) :: caPut s u r
theorem caL_get (s : Bs) (c : Ca) : mget (.s s) (caL c) = (caGet s c).map (.int .i64) := by
 induction c with
 | nil => rfl
 | cons x c ih =>
  obtain ⟨k, v⟩ := x
  show (if MK.s s = MK.s k then some (PV.int .i64 v) else mget (.s s) (caL c)) = _
  rw [caGet]
  by_cases e : s = k
  ·subst e; simp
  ·rw [if_neg (fun h => e (by injection h)), ih, if_neg e]
theorem caL_put (s : Bs) (u : Int) (c : Ca) : mput (.s s) (.int .i64 u) (caL c) = caL (caPut s u c) := by
 induction c with
 | nil => rfl
 | cons x c ih =>
  obtain ⟨k, v⟩ := x
  show (if MK.s s = MK.s k then (MK.s s, PV.int .i64 u) :: caL c else (MK.s k, PV.int .i64 v) :: mput (.s s) (.int .i64 u) (caL c)) = _
  rw [caPut]
  by_cases e : s = k
  ·subst e; simp [caL]
  ·rw [if_neg (fun h => e (by injection h)), ih, if_neg e]
   rfl
abbrev caO (room : Int) (c : Ca) : List (Nat × AO) := [(2012, .var true 197 (.mix [iv room, .slc 2014])), (2014, .mp 195 true (caL c))]
theorem rnew_ok (room : Int) : PM (cx true) 69 [] [iv room] (caO (max room 0) []) (.ptr 2012 0) := by
 refine PM_of_vc (cx_ok true) (mixed true) {} Tryz.func69 (by kernel_rfl) rfl rfl (by kernel_rfl) ?_ ?_
 ·rfl
 refine goL ?_
 exact ⟨gn [(2012, 7), (2014, 5)], ⟨rfl, LE.of rfl⟩, ⟨.inr (.inl rfl), .inr (.inl rfl), trivial⟩, rfl, rfl⟩
def keepC (now : Int) (seen : List Nat) (x : (Bs × Int) × Nat) : Bool := !(seen.contains x.2 && decide (x.1.2 ≤ now))
def leftC (c : Ca) (B : List Nat) (now : Int) (seen : List Nat) : List ((Bs × Int) × Nat) := (c.zip B).filter (keepC now seen)
theorem nbeq_ne {a b : Nat} (h : a ≠ b) : Nat.beq a b = false := by
 cases e : Nat.beq a b with
 | false => rfl
 | true => exact absurd (Nat.eq_of_beq_eq_true e) h
theorem map_inj {α : Type} {f : α → Nat} : ∀ {l : List α} {x y : α}, (l.map f).Nodup → x ∈ l → y ∈ l → f x = f y → x = y
 | [], x, y, _, h, _, _ => by cases h
 | a :: l, x, y, hn, h1, h2, e => by
  rw [List.map_cons, List.nodup_cons] at hn
  rcases List.mem_cons.1 h1 with rfl | h3
  ·rcases List.mem_cons.1 h2 with rfl | h2
   ·rfl
   ·exact absurd (e ▸ List.mem_map_of_mem h2) hn.1
  ·rcases List.mem_cons.1 h2 with rfl | h2
   ·exact absurd (e ▸ List.mem_map_of_mem (f := f) ‹x ∈ l›) hn.1
   ·exact map_inj hn.2 ‹x ∈ l› h2 e
theorem eraseIdx_mapG {α β : Type} (f : α → β) : ∀ (l : List α) (i : Nat), (l.map f).eraseIdx i = (l.eraseIdx i).map f
 | [], i => by simp
 | a :: l, 0 => rfl
 | a :: l, i + 1 => by
  rw [List.map_cons, List.eraseIdx_cons_succ, eraseIdx_mapG f l i]
  rfl
theorem eraseIdx_filter {α : Type} {f : α → Nat} : ∀ {l : List α} {i : Nat} {x : α}, (l.map f).Nodup → l[i]? = some x → l.eraseIdx i = l.filter fun y => !(Nat.beq (f y) (f x))
 | [], i, x, _, h => by simp at h
 | a :: l, 0, x, hn, h => by
  simp only [List.getElem?_cons_zero, Option.some.injEq] at h
  subst h
  rw [List.eraseIdx_cons_zero, List.filter_cons_of_neg (by simp)]
  rw [List.map_cons, List.nodup_cons] at hn
  refine (List.filter_eq_self.2 fun y hy => ?_).symm
  have : f y ≠ f a := fun e => hn.1 (e ▸ List.mem_map_of_mem hy)
  simp only [nbeq_ne this, Bool.not_false]
 | a :: l, i + 1, x, hn, h => by
  rw [List.map_cons, List.nodup_cons] at hn
  have h : l[i]? = some x := by simpa using h
  have hx : x ∈ l := List.mem_of_getElem? h
  rw [List.eraseIdx_cons_succ, List.filter_cons_of_pos, eraseIdx_filter hn.2 h]
  have : f a ≠ f x := fun e => hn.1 (e ▸ List.mem_map_of_mem hx)
  simp only [nbeq_ne this, Bool.not_false]
theorem mfind_at {K : Bs} : ∀ {c : Ca} {i : Nat} {v : Int}, (c.map (·.1)).Nodup → c[i]? = some (K, v) → mfind (.s K) (caL c) = some i
 | [], i, v, _, h => by simp at h
 | (k, u) :: c, 0, v, hn, h => by
  simp only [List.getElem?_cons_zero, Option.some.injEq, Prod.mk.injEq] at h
  show (if MK.s K = MK.s k then some 0 else _) = _
  rw [if_pos (by rw [h.1])]
 | (k, u) :: c, i + 1, v, hn, h => by
  rw [List.map_cons, List.nodup_cons] at hn
  have h : c[i]? = some (K, v) := by simpa using h
  have hne : ¬ MK.s K = MK.s k := fun e => by
   injection e with e
   exact hn.1 (e ▸ List.mem_map.2 ⟨_, List.mem_of_getElem? h, rfl⟩)
  show (if MK.s K = MK.s k then some 0 else (mfind (.s K) (caL c)).map (· + 1)) = _
  rw [if_neg hne, mfind_at hn.2 h]
  rfl
theorem left_nil {c : Ca} {B : List Nat} {now : Int} : leftC c B now [] = c.zip B := List.filter_eq_self.2 fun x _ => rfl
theorem zip_snd {c : Ca} {B : List Nat} (h : B.length = c.length) : (c.zip B).map (·.2) = B := List.map_snd_zip (by omega)
theorem zip_fst {c : Ca} {B : List Nat} (h : B.length = c.length) : (c.zip B).map (·.1) = c := List.map_fst_zip (by omega)
theorem left_snd {c : Ca} {B : List Nat} {now : Int} {seen : List Nat} (h : B.length = c.length) (hn : B.Nodup) : ((leftC c B now seen).map (·.2)).Nodup := by
 have h1 : ((leftC c B now seen).map (·.2)).Sublist ((c.zip B).map (·.2)) := (List.filter_sublist).map _
 rw [zip_snd h] at h1
 exact h1.nodup hn
theorem left_key {c : Ca} {B : List Nat} {now : Int} {seen : List Nat} (h : B.length = c.length) (hn : (c.map (·.1)).Nodup) : (((leftC c B now seen).map (·.1)).map (·.1)).Nodup := by
 have h1 : (((leftC c B now seen).map (·.1)).map (·.1)).Sublist (((c.zip B).map (·.1)).map (·.1)) := ((List.filter_sublist).map _).map _
 rw [zip_fst h] at h1
 exact h1.nodup hn
theorem left_stay {c : Ca} {B : List Nat} {now : Int} {seen : List Nat} {x : (Bs × Int) × Nat} (h : B.length = c.length) (hn : B.Nodup) (hx : x ∈ c.zip B) (hy : ¬ x.1.2 ≤ now) : leftC c B now (seen ++ [x.2]) = leftC c B now seen := by
 refine List.filter_congr fun y hy' => ?_
 unfold keepC
 by_cases e : y.2 = x.2
 ·have e2 : y = x := by
   exact map_inj (f := fun z => z.2) (by rw [zip_snd h]; exact hn) hy' hx e
  subst e2
  rw [decide_eq_false hy, Bool.and_false, Bool.and_false]
 ·have : (seen ++ [x.2]).contains y.2 = seen.contains y.2 := by
   rw [Bool.eq_iff_iff]
   simp [e]
  rw [this]
theorem left_go {c : Ca} {B : List Nat} {now : Int} {seen : List Nat} {x : (Bs × Int) × Nat} {i : Nat} (h : B.length = c.length) (hn : B.Nodup) (hx : (leftC c B now seen)[i]? = some x) (hy : x.1.2 ≤ now) : (leftC c B now seen).eraseIdx i = leftC c B now (seen ++ [x.2]) := by
 rw [eraseIdx_filter (f := fun y => y.2) (left_snd h hn) hx]
 unfold leftC
 rw [List.filter_filter]
 have hxz : x ∈ c.zip B := (List.mem_filter.1 (List.mem_of_getElem? hx)).1
 refine List.filter_congr fun y hy' => ?_
 unfold keepC
 by_cases e : y.2 = x.2
 ·have e2 : y = x := by
   exact map_inj (f := fun z => z.2) (by rw [zip_snd h]; exact hn) hy' hxz e
  subst e2
  rw [decide_eq_true hy]
  simp
 ·have : (seen ++ [x.2]).contains y.2 = seen.contains y.2 := by
   rw [Bool.eq_iff_iff]
   simp [e]
  have e3 : Nat.beq y.2 x.2 = false := nbeq_ne e
  rw [this, e3]
  simp
theorem left_end {c : Ca} {B : List Nat} {now : Int} {seen : List Nat} (h : B.length = c.length) (hs : ∀ b ∈ (leftC c B now seen).map (·.2), seen.contains b = true) : (leftC c B now seen).map (·.1) = c.filter fun x => decide (now < x.2) := by
 have e : leftC c B now seen = (c.zip B).filter ((fun x : Bs × Int => decide (now < x.2)) ∘ fun y => y.1) := by
  refine List.filter_congr fun y hy => ?_
  cases hk : keepC now seen y with
  | true =>
   have := hs _ (List.mem_map_of_mem (List.mem_filter.2 ⟨hy, hk⟩))
   rw [keepC, this] at hk
   have hk : ¬ y.1.2 ≤ now := by simpa using hk
   exact (decide_eq_true (show now < y.1.2 by omega)).symm
  | false =>
   rw [keepC] at hk
   have hk : y.1.2 ≤ now := by simp at hk; exact hk.2
   exact (decide_eq_false (show ¬ now < y.1.2 by omega)).symm
 rw [e, ← List.filter_map, zip_fst h]
theorem countP_lt {α : Type} {p q : α → Bool} {b : α} (hq : ∀ x, q x = true → p x = true) (hp : p b = true) (hb : q b = false) : ∀ {l : List α}, b ∈ l → l.countP q < l.countP p
 | [], h => by cases h
 | a :: l, h => by
  have hle : l.countP q ≤ l.countP p := List.countP_mono_left fun x _ => hq x
  rw [List.countP_cons, List.countP_cons]
  rcases List.mem_cons.1 h with rfl | h
  ·rw [if_pos hp, if_neg (by rw [hb]; decide)]
   omega
  ·have := countP_lt hq hp hb h
   by_cases h1 : q a = true
   ·rw [if_pos h1, if_pos (hq a h1)]; omega
   ·rw [if_neg h1]; split <;> omega
theorem caL_at {l : List ((Bs × Int) × Nat)} {i : Nat} {key : MK} {v : PV} {b : Nat} (h1 : (caL (l.map (·.1)))[i]? = some (key, v)) (h2 : (l.map (·.2))[i]? = some b) : ∃ x, l[i]? = some x ∧ key = .s x.1.1 ∧ v = .int .i64 x.1.2 ∧ b = x.2 := by
 rw [List.getElem?_map, Option.map_eq_some_iff] at h2
 obtain ⟨x, hx, rfl⟩ := h2
 rw [caL, List.getElem?_map, List.getElem?_map, hx] at h1
 simp only [Option.map_some, Option.some.injEq, Prod.mk.injEq] at h1
 exact ⟨x, hx, h1.1.symm, h1.2.symm, rfl⟩
theorem caL_erase (c : Ca) (i : Nat) : (caL c).eraseIdx i = caL (c.eraseIdx i) := eraseIdx_mapG _ _ _
abbrev pruneC (c : Ca) (now : Int) : Ca := c.filter fun x => decide (now < x.2)
def pruneS (room now : Int) (c : Ca) (B : List Nat) (m ck : Nat) (seen : List Nat) : Vc.S :=
 S.of [(0, .ptr 2012 0), (1, iv now), (5, iv ((caL c).length : Int)), (17, .ptr 17 0)] [(2012, .var true 197 (.mix [iv room, .slc 2014])), (17, .mi 2014 m ck seen ck), (2014, .ms 195 true (caL ((leftC c B now seen).map (·.1))) ((leftC c B now seen).map (·.2)) ck m)]
theorem prune_ok (room now : Int) (c : Ca) (hn : (c.map (·.1)).Nodup) (hl : c.length ≤ 1000000) : PM (cx true) 144 (caO room c) [.ptr 2012 0, iv now] (caO room (c.filter fun x => decide (now < x.2))) (iv ((c.length : Int) - ((c.filter fun x => decide (now < x.2)).length : Int))) := by
 refine PM_of_vc (cx_ok true) (mixed true) {} Tryz.func144 (by kernel_rfl) rfl rfl (by kernel_rfl) ?_ ?_
 ·rfl
 refine goL ?_
 intro m B ck hBl hBn hBc
 refine goL ?_
 rw [caL_len] at hBl
 have hmem : ∀ {seen : List Nat} {x}, x ∈ leftC c B now seen → x ∈ c.zip B := fun hx => (List.mem_filter.1 hx).1
 refine ⟨List Nat, pruneS room now c B m ck, fun seen => B.countP fun b => !seen.contains b, [], ?_, ?_⟩
 ·have e1 : caL ((leftC c B now []).map (·.1)) = caL c := by rw [left_nil, zip_fst hBl]
  have e2 : (leftC c B now []).map (·.2) = B := by rw [left_nil, zip_snd hBl]
  unfold pruneS
  rw [e1, e2]
  exact Ge.go
 intro seen
 refine goL ?_
 refine ⟨left_snd hBl hBn, ?_⟩
 refine goL ?_
 refine ⟨fun b hb => hBc b (by rw [← zip_snd hBl]; obtain ⟨x, hx, rfl⟩ := List.mem_map.1 hb; exact List.mem_map_of_mem (hmem hx)), ?_⟩
 refine goL ?_
 refine ⟨Nat.le_refl _, Nat.le_refl _, fun hs => ?_, fun i key v b h1 h2 h3 => ?_⟩
 ·have e := left_end hBl hs
  have hle : (pruneC c now).length ≤ c.length := List.length_filter_le _ _
  have e2 : (caL ((leftC c B now seen).map (·.1))).length = (pruneC c now).length := by rw [caL_len, e]
  refine goL ?_
  refine ⟨(c.length : Int) - ((pruneC c now).length : Int), by rw [caL_len, e2]; exact wrapI (by omega) (by omega) rfl, ?_⟩
  refine goL ?_
  exact ⟨gI, ⟨rfl, LE.of rfl⟩, ⟨.inr (.inl rfl), .inr (.inl (congrArg (fun l => AO.mp 195 true (caL l)) e)), trivial⟩, rfl, rfl⟩
 ·obtain ⟨x, hx, rfl, rfl, rfl⟩ := caL_at h1 h2
  have hxz := hmem (List.mem_of_getElem? hx)
  have hxB : x.2 ∈ B := by rw [← zip_snd hBl]; exact List.mem_map_of_mem hxz
  refine goL ?_
  refine ⟨left_snd hBl hBn, seen, i, _, _, x.2, rfl, h1, h2, ?_⟩
  refine goL ?_
  refine @bool_rec _ _ _ ?_ ?_ <;> intro h4
  ·have h4 : x.1.2 ≤ now := of_decide_eq_true h4
   have e0 := left_go hBl hBn hx h4
   have hfi : mfind (.s x.1.1) (caL ((leftC c B now seen).map (·.1))) = some i := mfind_at (v := x.1.2) (left_key hBl hn) (by rw [List.getElem?_map, hx]; rfl)
   have e1 : mdel (.s x.1.1) (caL ((leftC c B now seen).map (·.1))) (caL ((leftC c B now seen).map (·.1))) = caL ((leftC c B now (seen ++ [x.2])).map (·.1)) := by
    rw [mdel, hfi]
    show (caL ((leftC c B now seen).map (·.1))).eraseIdx i = _
    rw [caL_erase, eraseIdx_mapG, e0]
   have e2 : mdel (.s x.1.1) (caL ((leftC c B now seen).map (·.1))) ((leftC c B now seen).map (·.2)) = (leftC c B now (seen ++ [x.2])).map (·.2) := by
    rw [mdel, hfi]
    show ((leftC c B now seen).map (·.2)).eraseIdx i = _
    rw [eraseIdx_mapG, e0]
   refine goL ?_
   refine ⟨seen ++ [x.2], ?_, countP_lt (b := x.2) (fun y hy => by simp at hy ⊢; exact hy.1) (by simpa using h3) (by simp) hxB⟩
   refine Ge.of rfl ?_ ?_
   ·repeat (conv => whnf); refine ⟨LE.of rfl, ?_⟩
    trivial
   ·conv => whnf
    refine ⟨OLE.of rfl, OLE.of rfl, OLE.of ?_, trivial⟩
    show AO.ms _ _ (mdel _ _ _) (mdel _ _ _) _ _ = _
    rw [e1, e2]
  ·have h4 : ¬ x.1.2 ≤ now := of_decide_eq_false h4
   have e0 := left_stay (seen := seen) hBl hBn hxz h4
   refine goL ?_
   refine ⟨seen ++ [x.2], ?_, countP_lt (b := x.2) (fun y hy => by simp at hy ⊢; exact hy.1) (by simpa using h3) (by simp) hxB⟩
   unfold pruneS
   rw [e0]
   exact Ge.go
def seenT (room : Int) (c : Ca) (id : Bs) (til now : Int) : Ca × Int :=
 if til ≤ now then (c, 5) else
  match caGet id (pruneC c now) with
  | some old => (caPut id (max old til) (pruneC c now), 9)
  | none => if room ≤ ((pruneC c now).length : Int) then (pruneC c now, 10) else (caPut id til (pruneC c now), 0)
theorem seen_ok (room til now : Int) (id : Bs) (c : Ca) (hn : (c.map (·.1)).Nodup) (hl : c.length ≤ 1000000) : PM (cx true) 96 (caO room c) [.ptr 2012 0, sv id, iv til, iv now] (caO room (seenT room c id til now).1) (iv (seenT room c id til now).2) := by
 have hp := prune_ok room now c hn hl
 by_cases h1 : til ≤ now
 ·rw [seenT, if_pos h1]
  refine PM_of_vc (cx_ok true) (mixed true) { own := fun q => Nat.beq q 100017 } Tryz.func96 (by kernel_rfl) rfl rfl (by kernel_rfl) ?_ ?_
  ·rfl
  refine goL ?_
  refine ⟨0, ?_⟩
  refine goL ?_
  refine @bool_rec _ _ _ ?_ ?_ <;> intro h2
  ·refine goL ?_
   refine ScopeR.of (cfg := {}) (cx_ok true) (mixed true) rfl ?_
   refine goL ?_
   exact ⟨gI, ⟨rfl, LE.of rfl⟩, ⟨.inr (.inl rfl), .inr (.inl rfl), trivial⟩, rfl, rfl⟩
  ·exact absurd h1 (of_decide_eq_false h2)
 ·rw [seenT, if_neg h1]
  cases hg : caGet id (pruneC c now) with
  | some old =>
   refine PM_of_vc (cx_ok true) (mixed true) { own := fun q => Nat.beq q 100017 } Tryz.func96 (by kernel_rfl) rfl rfl (by kernel_rfl) ?_ ?_
   ·rfl
   refine goL ?_
   refine ⟨0, ?_⟩
   refine goL ?_
   refine @bool_rec _ _ _ ?_ ?_ <;> intro h2
   ·exact absurd (of_decide_eq_true h2) h1
   refine goL ?_
   refine ⟨_, MCallVC.pr gI hp ⟨LE.of rfl, LE.of rfl, trivial⟩ (by (conv => whnf); exact ⟨.inr (.inl rfl), .inr (.inl rfl), trivial⟩) rfl, ?_⟩
   refine goL ?_
   refine ⟨_, (caL_get id _).trans (by rw [hg]), ?_⟩
   refine goL ?_
   refine ScopeR.of (cfg := {}) (cx_ok true) (mixed true) rfl ?_
   refine goL ?_
   exact ⟨gI, ⟨rfl, LE.of rfl⟩, ⟨.inr (.inl rfl), .inr (.inl (congrArg (AO.mp 195 true) (caL_put _ _ _))), trivial⟩, rfl, rfl⟩
  | none =>
   refine PM_of_vc (cx_ok true) (mixed true) { own := fun q => Nat.beq q 100017 } Tryz.func96 (by kernel_rfl) rfl rfl (by kernel_rfl) ?_ ?_
   ·simp only; split <;> rfl
   refine goL ?_
   refine ⟨0, ?_⟩
   refine goL ?_
   refine @bool_rec _ _ _ ?_ ?_ <;> intro h2
   ·exact absurd (of_decide_eq_true h2) h1
   refine goL ?_
   refine ⟨_, MCallVC.pr gI hp ⟨LE.of rfl, LE.of rfl, trivial⟩ (by (conv => whnf); exact ⟨.inr (.inl rfl), .inr (.inl rfl), trivial⟩) rfl, ?_⟩
   refine goL ?_
   refine ⟨_, (caL_get id _).trans (by rw [hg]), ?_⟩
   refine goL ?_
   refine @bool_rec _ _ _ ?_ ?_ <;> intro h3
   ·have h3 : room ≤ ((pruneC c now).length : Int) := by have := of_decide_eq_true h3; rw [caL_len] at this; exact this
    simp only [if_pos h3]
    refine goL ?_
    refine ScopeR.of (cfg := {}) (cx_ok true) (mixed true) rfl ?_
    refine goL ?_
    exact ⟨gI, ⟨rfl, LE.of rfl⟩, ⟨.inr (.inl rfl), .inr (.inl rfl), trivial⟩, rfl, rfl⟩
   ·have h3 : ¬ room ≤ ((pruneC c now).length : Int) := by have := of_decide_eq_false h3; rw [caL_len] at this; exact this
    simp only [if_neg h3]
    refine goL ?_
    exact ⟨gI, ⟨rfl, LE.of rfl⟩, ⟨.inr (.inl rfl), .inr (.inl (congrArg (AO.mp 195 true) (caL_put _ _ _))), trivial⟩, rfl, rfl⟩
end Go.Sl
namespace Go.Sl
open Go Go.Vc Go.Proofs Go.RowKit
theorem equalS_ok (a b : List Bs) (ha : a.length ≤ 1000000000) : K true 85 [.p (.lst (strL a)), .p (.lst (strL b))] (.pv (.bool (decide (a = b)))) := by
 refine PC_of_vc (cx_ok true) (mixed true) {} Tryz.func85 (by kernel_rfl) rfl rfl (by kernel_rfl) ?_
 refine goL ?_
 refine @bool_rec _ _ _ ?_ ?_ <;> intro h1
 ·have h1 : ¬ a.length = b.length := fun e => of_decide_eq_true h1 (by rw [strL_length, strL_length, e])
  refine goL ?_
  exact LEP.of (congrArg PV.bool (decide_eq_false fun e => h1 (by rw [e])).symm)
 have h1 : a.length = b.length := by have := of_decide_eq_false h1; rw [strL_length, strL_length] at this; omega
 refine goL ?_
 refine ⟨{ i : Rd a.length // a.take i.1 = b.take i.1 }, fun i => S.of [(0, .p (.lst (strL a))), (1, .p (.lst (strL b))), (12, iv ((strL a).length : Int)), (13, iv (i.1.1 : Int))] [], fun i => a.length - i.1.1, ⟨Rd.zero _, by simp [Rd.zero]⟩, ?_, ?_⟩
 ·exact Ge.go
 rintro ⟨⟨i, hi⟩, he⟩
 refine goL ?_
 refine @bool_rec _ _ _ ?_ ?_ <;> intro h2
 ·have hlt : i < a.length := by have := of_decide_eq_true h2; rw [strL_length] at this; exact Int.ofNat_lt.1 this
  have hlb : i < b.length := h1 ▸ hlt
  refine goL ?_
  refine ⟨Int.natCast_nonneg _, .str a[i], by show (strL a)[i]? = _; simp [strL, hlt], rfl, rfl, ?_⟩
  refine goL ?_
  refine ⟨Int.natCast_nonneg _, .str b[i], by show (strL b)[i]? = _; simp [strL, hlb], rfl, rfl, ?_⟩
  refine goL ?_
  refine @bool_rec _ _ _ ?_ ?_ <;> intro h3
  ·have h3 : ¬ a[i] = b[i] := of_decide_eq_true h3
   refine goL ?_
   exact LEP.of (congrArg PV.bool (decide_eq_false fun e => h3 (by subst e; rfl)).symm)
  ·have h3 : a[i] = b[i] := by simpa using h3
   refine goL ?_
   refine ⟨_, wrapN (n := i + 1) rfl (by omega), ?_⟩
   refine goL ?_
   refine ⟨⟨⟨i + 1, hlt⟩, ?_⟩, ?_, by show a.length - (i + 1) < a.length - i; omega⟩
   ·show a.take (i + 1) = b.take (i + 1)
    rw [List.take_succ_eq_append_getElem hlt, List.take_succ_eq_append_getElem hlb, h3, he]
   ·exact Ge.go
 ·have hge : a.length ≤ i := by have := of_decide_eq_false h2; rw [strL_length] at this; have h2 : ¬ ((i : Int) < a.length) := this; omega
  have he : a.take i = b.take i := he
  rw [List.take_of_length_le hge, List.take_of_length_le (h1 ▸ hge)] at he
  refine goL ?_
  exact LEP.of (congrArg PV.bool (decide_eq_true he).symm)
structure Is where
 client : Bs
 nonce : Bs
 done : List Bs
 sess : Tm
abbrev Is.pv (x : Is) : PV := .agg [.str x.client, .str x.nonce, .lst (strL x.done), .int .i64 x.sess.kind, .str x.sess.name, .lst (tmvs x.sess.kids)]
def isL (l : List Is) : List PV := l.map Is.pv
theorem isL_len (l : List Is) : (isL l).length = l.length := List.length_map _
theorem isL_get {l : List Is} {i : Nat} (h : i < l.length) : (isL l)[i]? = some (l[i]).pv := by
 rw [isL, List.getElem?_map, List.getElem?_eq_getElem h]
 rfl
theorem isL_sz (l : List Is) : allSz (true, 6) (isL l) := by
 induction l with
 | nil => trivial
 | cons u l ih => exact ⟨rfl, ih⟩
theorem cloneIs_ok (b : Bool) (zs : List Is) (hz : zs.length ≤ 1000000) : K b 48 [.p (.lst (isL zs))] (.fresh 113 6 (isL zs)) := by
 refine PC_of_vc (cx_ok b) (mixed b) { own := fun q => Nat.beq q 2 || Nat.beq q 5 || Nat.beq q 7, kp := kpT [(2, [0], []), (3, [0], [])] } Tryz.func48 (by kernel_rfl) rfl rfl (by kernel_rfl) ?_
 refine goL ?_
 refine ⟨fun h => ?_, ?_⟩
 ·refine goL ?_
  rw [h]
 ·refine goL ?_
  refine ⟨isL_sz zs, ?_⟩
  refine goL ?_
  refine ⟨by rw [isL_len]; show (0 + zs.length) * 104 ≤ _; omega, ?_⟩
  refine goL ?_
  exact rfl
structure Kd where
 key : Tm
 cookies : Tm
 us : List Us
 room : Int
 ca : Ca
 drawn : Int
 iss : List Is
abbrev kdV (k : Kd) (iss : SV) : SV := .mix [iv k.key.kind, sv k.key.name, lv k.key.kids, iv k.cookies.kind, sv k.cookies.name, lv k.cookies.kids, .ptr 2011 0, iv k.room, .ptr 2012 0, iv k.drawn, iss]
abbrev kdO (k : Kd) : List (Nat × AO) :=
 [(2010, .var true 79 (kdV k (.slc 1010))),
  (2011, .var true 135 (.mix [.slc 2013])), (2013, .row 31 15 (usL k.us)),
  (2012, .var true 197 (.mix [iv k.room, .slc 2014])), (2014, .mp 195 true (caL k.ca)),
  (1010, .row 113 6 (isL k.iss))]
abbrev kdO' (k : Kd) : List (Nat × AO) :=
 [(2010, .var true 79 (kdV k .no)),
  (2011, .var true 135 (.mix [.slc 2013])), (2013, .row 31 15 (usL k.us)),
  (2012, .var true 197 (.mix [iv k.room, .slc 2014])), (2014, .mp 195 true (caL k.ca))]
theorem drawn_ok (k : Kd) : PM (cx true) 13 (kdO k) [.ptr 2010 0] (kdO k) (iv k.drawn) := by
 refine PM_of_vc (cx_ok true) (mixed true) {} Tryz.func13 (by kernel_rfl) rfl rfl (by kernel_rfl) ?_ ?_
 ·rfl
 refine goL ?_
 exact ⟨gI, ⟨rfl, LE.of rfl⟩, ⟨.inr (.inl rfl), .inr (.inl rfl), .inr (.inl rfl), .inr (.inl rfl), .inr (.inl rfl), .inr (.inl rfl), trivial⟩, rfl, rfl⟩
def kdrW : Bs := [107, 100, 99, 32]
def drawT (n : Int) : Tm := atomT (kdrW ++ Lib.itoa n)
theorem draw_ok (k : Kd) (h0 : 0 ≤ k.drawn) (h1 : k.drawn < 1000000000000) : PM (cx true) 88 (kdO k) [.ptr 2010 0] (kdO { k with drawn := k.drawn + 1 }) (.p (TV (drawT (k.drawn + 1)))) := by
 refine PM_of_vc (cx_ok true) (mixed true) {} Tryz.func88 (by kernel_rfl) rfl rfl (by kernel_rfl) ?_ ?_
 ·rfl
 refine goL ?_
 refine ⟨k.drawn + 1, wrapI (k := k.drawn + 1) (by omega) (by omega) rfl, ?_⟩
 refine goL ?_
 refine ⟨_, CallVC.pr (itoa_ok true (k.drawn + 1) (by omega) (by omega)) rfl rfl, ?_⟩
 refine goL ?_
 refine ⟨by have := itoa_len (n := k.drawn + 1) (by omega) (by omega); show 4 + (Lib.itoa (k.drawn + 1)).length ≤ _; omega, ?_⟩
 refine goL ?_
 refine ⟨_, CallVC.pr (atom_ok true (kdrW ++ Lib.itoa (k.drawn + 1))) rfl rfl, ?_⟩
 refine goL ?_
 exact ⟨gI, ⟨rfl, LE.of rfl⟩, ⟨.inr (.inl rfl), .inr (.inl rfl), .inr (.inl rfl), .inr (.inl rfl), .inr (.inl rfl), .inr (.inl rfl), trivial⟩, rfl, rfl⟩
theorem LE_no (x : SV) : LE x .no := fun ok β w v _ => by rw [R]; trivial
theorem LE_mm {xs ys : List SV} (h : LEL xs ys) : LE (.mix xs) (.mix ys) := fun ok β w v hr => by
 rw [R] at hr ⊢
 obtain ⟨vs, h1, h2, h3⟩ := hr
 exact ⟨vs, h1, h2, LEL_R h h3⟩
theorem restart_ok (k : Kd) (hr : 0 ≤ k.room) : PM (cx true) 30
  [(2010, .var true 79 (.mix [iv k.key.kind, sv k.key.name, lv k.key.kids, iv k.cookies.kind, sv k.cookies.name, lv k.cookies.kids, .ptr 2011 0, iv k.room, .no, iv k.drawn, .slc 1010])),
   (2011, .var true 135 (.mix [.slc 2013])), (2013, .row 31 15 (usL k.us)), (1010, .row 113 6 (isL k.iss))] [.ptr 2010 0] (kdO { k with ca := [] }) (.tupS []) := by
 have hn := rnew_ok k.room
 rw [Int.max_eq_left hr] at hn
 refine PM_of_vc (cx_ok true) (mixed true) { own := fun q => Nat.beq q 100007 } Tryz.func30 (by kernel_rfl) rfl rfl (by kernel_rfl) ?_ ?_
 ·rfl
 refine goL ?_
 refine ⟨_, MCallVC.pr (gn [(2012, 7), (2014, 10)]) hn ⟨LE.of rfl, trivial⟩ (by (conv => whnf); exact trivial) rfl, ?_⟩
 refine goL ?_
 exact ⟨gn [(2012, 7), (2014, 10), (2010, 2010), (2011, 2011), (2013, 2013), (1010, 1010)], rfl, ⟨.inr (.inl rfl), .inr (.inl rfl), .inr (.inl rfl), .inr (.inl rfl), .inr (.inl rfl), .inr (.inl rfl), trivial⟩, rfl, rfl⟩
theorem knew_ok (key cookies : Tm) (l : List Us) (room : Int) (hg : GoodU l) (h0 : 0 ≤ room) (h1 : room ≤ 64) : PM (cx true) 7 [] [tv key, tv cookies, .p (.lst (usL l)), iv room] (kdO ⟨key, cookies, l, room, [], 0, []⟩) (.tupS [.ptr 2010 0, iv 0]) := by
 have hb := bnew_ok l hg
 have hr := restart_ok ⟨key, cookies, l, room, [], 0, []⟩ h0
 refine PM_of_vc (cx_ok true) (mixed true) { own := fun q => Nat.beq q 100015 || Nat.beq q 100036, nl := fun r => cond (Nat.beq r 7) [(34, 10, 1510, 113, 6)] [] } Tryz.func7 (by kernel_rfl) rfl rfl (by kernel_rfl) ?_ ?_
 ·rfl
 refine goL ?_
 refine ⟨_, MCallVC.pr (gn [(2011, 1511), (2013, 1513)]) hb ⟨LE.of rfl, trivial⟩ (by (conv => whnf); exact trivial) rfl, ?_⟩
 refine goL ?_
 refine @bool_rec _ _ _ ?_ ?_ <;> intro h2
 ·exact absurd (of_decide_eq_true h2) (by omega)
 refine goL ?_
 refine @bool_rec _ _ _ ?_ ?_ <;> intro h3
 ·exact absurd (of_decide_eq_true h3) (by omega)
 refine goL ?_
 refine ⟨_, MCallVC.pr (gn [(2010, 34), (2011, 1511), (2013, 1513), (2012, 1512), (2014, 1514), (1010, 1510)]) hr ⟨LE.of rfl, trivial⟩ (by (conv => whnf); exact ⟨.inr (.inr (.inl ⟨true, _, _, _, rfl, rfl, LE_mm ⟨LE.refl _, LE.refl _, LE.refl _, LE.refl _, LE.refl _, LE.refl _, LE.refl _, LE.refl _, LE_no _, LE.refl _, LE.refl _, trivial⟩⟩)), .inr (.inl rfl), .inr (.inl rfl), .inr (.inl rfl), trivial⟩) rfl, ?_⟩
 refine goL ?_
 exact ⟨gn [(2010, 34), (2011, 1511), (2013, 1513), (2012, 1512), (2014, 1514), (1010, 1510)], ⟨rfl, LE.of rfl, rfl, LE.of rfl, trivial⟩, ⟨.inr (.inl rfl), .inr (.inl rfl), .inr (.inl rfl), .inr (.inl rfl), .inr (.inl rfl), .inr (.inl rfl), trivial⟩, rfl, rfl⟩
end Go.Sl
namespace Go.Sl
open Go Go.Vc Go.Proofs Go.RowKit
theorem issued_ok (k : Kd) (hi : k.iss.length ≤ 1000000) (hd : ∀ x ∈ k.iss, x.done.length ≤ 1000000000) : PM (cx true) 14 (kdO k) [.ptr 2010 0] (kdO' k) (.p (.lst (isL k.iss))) := by
 refine PM_of_vc (cx_ok true) (mixed true) { own := fun q => Nat.beq q 9, fz := fun r => cond (Nat.beq r 1) [1010] (cond (Nat.beq r 7) [9] []) } Tryz.func14 (by kernel_rfl) rfl rfl (by kernel_rfl) ?_ ?_
 ·rfl
 refine goL ?_
 refine ⟨_, CallVC.pr (cloneIs_ok true k.iss hi) rfl rfl, ?_⟩
 refine goL ?_
 refine ⟨Rd k.iss.length, fun i => S.of [(3, .slc 9), (11, iv ((isL k.iss).length : Int)), (12, iv (i.1 : Int))] ((9, .row 113 6 (isL k.iss)) :: kdO' k), fun i => k.iss.length - i.1, Rd.zero _, ?_, ?_⟩
 ·refine Ge.of rfl ?_ ?_
  ·repeat (conv => whnf); refine ⟨LE.of rfl, ?_⟩
   trivial
  ·conv => whnf
   refine ⟨OLE.of rfl, ?_⟩
   conv => whnf
   refine ⟨.inr (.inr (.inl ⟨true, _, _, _, rfl, rfl, LE_mm ⟨LE.refl _, LE.refl _, LE.refl _, LE.refl _, LE.refl _, LE.refl _, LE.refl _, LE.refl _, LE.refl _, LE.refl _, LE_no _, trivial⟩⟩)), ?_⟩
   repeat (conv => whnf); refine ⟨OLE.of rfl, ?_⟩
   trivial
 rintro ⟨i, hi⟩
 refine goL ?_
 refine @bool_rec _ _ _ ?_ ?_ <;> intro h1
 ·have hlt : i < k.iss.length := by have := of_decide_eq_true h1; rw [isL_len] at this; exact Int.ofNat_lt.1 this
  refine goL ?_
  refine ⟨Int.natCast_nonneg _, by rw [isL_len]; exact hlt, ?_⟩
  refine goL ?_
  refine ⟨i, 2, _, rfl, isL_get hlt, rfl, by decide, ?_⟩
  refine goL ?_
  refine ⟨_, CallVC.pr (cloneS_ok true k.iss[i].done (hd _ (List.getElem_mem hlt))) rfl rfl, ?_⟩
  refine goL ?_
  refine ⟨Int.natCast_nonneg _, by rw [isL_len]; exact hlt, ?_⟩
  refine goL ?_
  refine ⟨i, 2, _, rfl, isL_get hlt, rfl, rfl, by decide, ?_⟩
  refine goL ?_
  refine ⟨_, wrapN (n := i + 1) rfl (by omega), ?_⟩
  refine goL ?_
  refine ⟨⟨i + 1, hlt⟩, ?_, by show k.iss.length - (i + 1) < k.iss.length - i; omega⟩
  have e : (isL k.iss).set i (k.iss[i]).pv = isL k.iss := by
   have h2 := isL_get hlt
   apply List.ext_getElem?
   intro j
   rw [List.getElem?_set]
   by_cases e : i = j
   ·subst e
    rw [if_pos rfl, h2, if_pos (by rw [isL_len]; exact hlt)]
   ·rw [if_neg e]
  refine Ge.of rfl ?_ ?_
  ·repeat (conv => whnf); refine ⟨LE.of rfl, ?_⟩
   trivial
  ·conv => whnf
   refine ⟨OLE.of (congrArg (AO.row 113 6) e), ?_⟩
   repeat (conv => whnf); refine ⟨OLE.of rfl, ?_⟩
   trivial
 ·refine goL ?_
  exact ⟨gI, ⟨rfl, LE.of rfl⟩, ⟨.inr (.inl rfl), .inr (.inl rfl), .inr (.inl rfl), .inr (.inl rfl), .inr (.inl rfl), trivial⟩, rfl, rfl⟩
structure Ta where
 ck : Ck
 ak : Tm
 body : Tm
 pd : Tm
 u : Us
 now : Int
abbrev Ta.pv (t : Ta) : PV := .agg [.str t.ck.client, .str t.ck.nonce, .lst (strL t.ck.done), .int .i64 t.ck.secret.kind, .str t.ck.secret.name, .lst (tmvs t.ck.secret.kids), .int .i64 t.ck.til,
 .int .i64 t.ak.kind, .str t.ak.name, .lst (tmvs t.ak.kids), .int .i64 t.body.kind, .str t.body.name, .lst (tmvs t.body.kids), .int .i64 t.pd.kind, .str t.pd.name, .lst (tmvs t.pd.kids),
 .str t.u.name, .int .i64 t.u.key.kind, .str t.u.key.name, .lst (tmvs t.u.key.kids), .lst (strL t.u.set), .int .i64 t.u.seed.kind, .str t.u.seed.name, .lst (tmvs t.u.seed.kids), .int .i64 t.u.tok.counter, .int .i64 t.u.tok.look, .int .i64 t.u.tok.sync, .int .i64 t.u.tok.pending, .int .i64 t.u.tok.fails, .int .i64 t.u.tok.limit, .int .i64 t.u.fails, .int .i64 t.now]
def nextT (t : Ta) : Bs := t.u.set.getD t.ck.done.length []
theorem next_ok (t : Ta) (h : t.ck.done.length < t.u.set.length) : K true 44 [.p t.pv] (.pv (.str (nextT t))) := by
 refine PC_of_vc (cx_ok true) (mixed true) {} Tryz.func44 (by kernel_rfl) rfl rfl (by kernel_rfl) ?_
 refine goL ?_
 refine ⟨Int.natCast_nonneg _, .str t.u.set[t.ck.done.length], by show (strL t.u.set)[(strL t.ck.done).length]? = _; rw [strL_length]; simp [strL, h], rfl, rfl, ?_⟩
 refine goL ?_
 exact LEP.of (congrArg PV.str (by rw [nextT, List.getD_eq_getElem?_getD, List.getElem?_eq_getElem h]; rfl))
def moreW : Bs := [109, 111, 114, 101]
def kmoreT (k : Kd) (t : Ta) (sec o : Tm) : Tm := ansT t.ak t.ck.nonce (packT moreW [o, sealCkT k.cookies ⟨t.ck.client, t.ck.nonce, t.ck.done, sec, t.now + 100⟩])
def offerT (k : Kd) (t : Ta) : Kd × Tm :=
 if nextT t = otpM then ({ k with drawn := k.drawn + 1 }, kmoreT k t (drawT (k.drawn + 1)) (offerOtpT (drawT (k.drawn + 1)))) else
 if nextT t = spW then ({ k with drawn := k.drawn + 1 }, kmoreT k t (drawT (k.drawn + 1)) (offerSpakeT t.u.key (drawT (k.drawn + 1)))) else
 (k, kmoreT k t noneT (packT chW []))
theorem drawT_wt (n : Int) (h0 : -9223372036854775808 ≤ n) (h1 : n ≤ 9223372036854775807) : wt (drawT n) ≤ 1000000000 := by
 have := itoa_len h0 h1
 have h2 : (kdrW ++ Lib.itoa n).length ≤ 24 := by
  rw [List.length_append]
  have h4 : kdrW.length = 4 := rfl
  omega
 show wt (.mk 2 (kdrW ++ Lib.itoa n) []) ≤ _
 rw [wt_eq]
 show (kdrW ++ Lib.itoa n).length + 0 + 1 ≤ _
 omega
theorem offer_ok (k : Kd) (t : Ta) (hl : t.ck.done.length < t.u.set.length) (hc : t.ck.ok) (hk : wt k.cookies ≤ 1000000000) (h0 : 0 ≤ k.drawn) (h1 : k.drawn < 1000000000000) (hn0 : -1000000000000 ≤ t.now) (hn1 : t.now ≤ 1000000000000) :
  PM (cx true) 41 (kdO k) [.ptr 2010 0, .p t.pv] (kdO (offerT k t).1) (.p (TV (offerT k t).2)) := by
 have hx := next_ok t hl
 have hd := drawT_wt (k.drawn + 1) (by omega) (by omega)
 have hnl : t.ck.nonce.length ≤ 9223372036854775800 := by have := hc.nonce; omega
 have hs : ∀ sec, wt sec ≤ 1000000000 → Ck.ok ⟨t.ck.client, t.ck.nonce, t.ck.done, sec, t.now + 100⟩ := fun sec h => ⟨hc.client, hc.nonce, hc.done, hc.dones, h, by show _ ≤ t.now + 100; omega, by show t.now + 100 ≤ _; omega⟩
 unfold offerT
 by_cases g1 : nextT t = otpM
 ·rw [if_pos g1]
  rw [g1] at hx
  refine PM_of_vc (cx_ok true) (mixed true) { own := fun q => Nat.beq q 100015 } Tryz.func41 (by kernel_rfl) rfl rfl (by kernel_rfl) ?_ ?_
  ·rfl
  refine goL ?_
  refine ⟨_, CallVC.pr hx rfl rfl, ?_⟩
  refine goL ?_
  refine ⟨_, MCallVC.pr gI (draw_ok k h0 h1) ⟨LE.of rfl, trivial⟩ (by (conv => whnf); exact ⟨.inr (.inl rfl), .inr (.inl rfl), .inr (.inl rfl), .inr (.inl rfl), .inr (.inl rfl), .inr (.inl rfl), trivial⟩) rfl, ?_⟩
  refine goL ?_
  refine ⟨_, CallVC.pr (offerotp_ok true (drawT (k.drawn + 1))) rfl rfl, ?_⟩
  refine goL ?_
  refine ⟨t.now + 100, wrapI (k := t.now + 100) (by omega) (by omega) rfl, ?_⟩
  refine goL ?_
  refine ⟨_, CallVC.pr (sealck_ok k.cookies ⟨t.ck.client, t.ck.nonce, t.ck.done, drawT (k.drawn + 1), t.now + 100⟩ hk (hs _ hd)) rfl rfl, ?_⟩
  refine goL ?_
  refine ⟨_, CallVC.pr (pack_ok true moreW _ [_, _] (tmvs2 _ _) (by simp)) rfl rfl, ?_⟩
  refine goL ?_
  refine ⟨_, CallVC.pr (ans_ok true t.ak t.ck.nonce _ hnl) rfl rfl, ?_⟩
  refine goL ?_
  exact ⟨gI, ⟨rfl, LE.of rfl⟩, ⟨.inr (.inl rfl), .inr (.inl rfl), .inr (.inl rfl), .inr (.inl rfl), .inr (.inl rfl), .inr (.inl rfl), trivial⟩, rfl, rfl⟩
 ·rw [if_neg g1]
  by_cases g2 : nextT t = spW
  ·rw [if_pos g2]
   rw [g2] at hx
   refine PM_of_vc (cx_ok true) (mixed true) { own := fun q => Nat.beq q 100025 } Tryz.func41 (by kernel_rfl) rfl rfl (by kernel_rfl) ?_ ?_
   ·rfl
   refine goL ?_
   refine ⟨_, CallVC.pr hx rfl rfl, ?_⟩
   refine goL ?_
   refine ⟨_, MCallVC.pr gI (draw_ok k h0 h1) ⟨LE.of rfl, trivial⟩ (by (conv => whnf); exact ⟨.inr (.inl rfl), .inr (.inl rfl), .inr (.inl rfl), .inr (.inl rfl), .inr (.inl rfl), .inr (.inl rfl), trivial⟩) rfl, ?_⟩
   refine goL ?_
   refine ⟨_, CallVC.pr (offerspake_ok true t.u.key (drawT (k.drawn + 1))) rfl rfl, ?_⟩
   refine goL ?_
   refine ⟨t.now + 100, wrapI (k := t.now + 100) (by omega) (by omega) rfl, ?_⟩
   refine goL ?_
   refine ⟨_, CallVC.pr (sealck_ok k.cookies ⟨t.ck.client, t.ck.nonce, t.ck.done, drawT (k.drawn + 1), t.now + 100⟩ hk (hs _ hd)) rfl rfl, ?_⟩
   refine goL ?_
   refine ⟨_, CallVC.pr (pack_ok true moreW _ [_, _] (tmvs2 _ _) (by simp)) rfl rfl, ?_⟩
   refine goL ?_
   refine ⟨_, CallVC.pr (ans_ok true t.ak t.ck.nonce _ hnl) rfl rfl, ?_⟩
   refine goL ?_
   exact ⟨gI, ⟨rfl, LE.of rfl⟩, ⟨.inr (.inl rfl), .inr (.inl rfl), .inr (.inl rfl), .inr (.inl rfl), .inr (.inl rfl), .inr (.inl rfl), trivial⟩, rfl, rfl⟩
  ·rw [if_neg g2]
   refine PM_of_vc (cx_ok true) (mixed true) {} Tryz.func41 (by kernel_rfl) rfl rfl (by kernel_rfl) ?_ ?_
   ·rfl
   refine goL ?_
   refine ⟨_, CallVC.pr hx rfl rfl, ?_⟩
   refine goL ?_
   refine @bool_rec _ _ _ ?_ ?_ <;> intro g3
   ·exact absurd (of_decide_eq_true g3) g1
   refine goL ?_
   refine @bool_rec _ _ _ ?_ ?_ <;> intro g4
   ·exact absurd (of_decide_eq_true g4) g2
   refine goL ?_
   refine ⟨_, CallVC.pr (mnone_ok true) rfl rfl, ?_⟩
   refine goL ?_
   refine ⟨_, CallVC.le (pack_ok true chW _ [] rfl (by simp)) ⟨LE.refl _, LE_nil, trivial⟩ rfl rfl, ?_⟩
   refine goL ?_
   refine ⟨t.now + 100, wrapI (k := t.now + 100) (by omega) (by omega) rfl, ?_⟩
   refine goL ?_
   refine ⟨_, CallVC.pr (sealck_ok k.cookies ⟨t.ck.client, t.ck.nonce, t.ck.done, noneT, t.now + 100⟩ hk (hs _ (by decide))) rfl rfl, ?_⟩
   refine goL ?_
   refine ⟨_, CallVC.pr (pack_ok true moreW _ [_, _] (tmvs2 _ _) (by simp)) rfl rfl, ?_⟩
   refine goL ?_
   refine ⟨_, CallVC.pr (ans_ok true t.ak t.ck.nonce _ hnl) rfl rfl, ?_⟩
   refine goL ?_
   exact ⟨gI, ⟨rfl, LE.of rfl⟩, ⟨.inr (.inl rfl), .inr (.inl rfl), .inr (.inl rfl), .inr (.inl rfl), .inr (.inl rfl), .inr (.inl rfl), trivial⟩, rfl, rfl⟩
def provesT (t : Ta) : Tm × List Int × Int :=
 if nextT t = otpM then (numT t.ak useW 46, (hitsT t.ak t.ck.secret t.pd t.u.seed t.u.tok).1, (hitsT t.ak t.ck.secret t.pd t.u.seed t.u.tok).2) else
 if nextT t = spW then ((checkSpakeT t.u.key t.body t.ck.secret t.pd).1, [], (checkSpakeT t.u.key t.body t.ck.secret t.pd).2) else
 (t.u.key, [], checkChalT t.ak t.u.key t.body t.pd t.now)
abbrev prV (b : Tm) (h : List Int) : PV := .agg [.int .i64 b.kind, .str b.name, .lst (tmvs b.kids), .lst (ints h)]
def prR (x : Tm × List Int × Int) : Res := .tup [prV x.1 x.2.1, .int .i64 x.2.2]
theorem proves_ok (t : Ta) (hl : t.ck.done.length < t.u.set.length) (hp : wt t.pd ≤ 1000000000) (hsec : wt t.ck.secret ≤ 1000000000) (hn0 : -1000000000000 ≤ t.now) (hn1 : t.now ≤ 1000000000000) :
  K true 94 [.p t.pv] (prR (provesT t)) := by
 have hx := next_ok t hl
 unfold provesT
 by_cases g1 : nextT t = otpM
 ·rw [if_pos g1]
  rw [g1] at hx
  have hh := hits_ok t.ak t.ck.secret t.pd t.u.seed t.u.tok hp
  revert hh
  generalize hitsT t.ak t.ck.secret t.pd t.u.seed t.u.tok = y
  obtain ⟨y, e⟩ := y
  intro hh
  refine PC_of_vc (cx_ok true) (mixed true) {} Tryz.func94 (by kernel_rfl) rfl rfl (by kernel_rfl) ?_
  refine goL ?_
  refine ⟨_, CallVC.pr hx rfl rfl, ?_⟩
  refine goL ?_
  refine ⟨_, CallVC.pr (use_ok true t.ak 46 (by decide) (by decide)) rfl rfl, ?_⟩
  refine goL ?_
  refine ⟨_, CallVC.pr hh rfl rfl, ?_⟩
  refine goL ?_
  exact ⟨LEP.refl _, LEP.refl _, trivial⟩
 ·rw [if_neg g1]
  by_cases g2 : nextT t = spW
  ·rw [if_pos g2]
   rw [g2] at hx
   have hh := checkspake_ok t.u.key t.body t.ck.secret t.pd hp hsec
   revert hh
   generalize checkSpakeT t.u.key t.body t.ck.secret t.pd = y
   obtain ⟨y, e⟩ := y
   intro hh
   refine PC_of_vc (cx_ok true) (mixed true) {} Tryz.func94 (by kernel_rfl) rfl rfl (by kernel_rfl) ?_
   refine goL ?_
   refine ⟨_, CallVC.pr hx rfl rfl, ?_⟩
   refine goL ?_
   refine ⟨_, CallVC.pr hh rfl rfl, ?_⟩
   refine goL ?_
   exact ⟨LEP_agg ⟨LEP.refl _, LEP.refl _, LEP.refl _, LEP_nil, trivial⟩, LEP.refl _, trivial⟩
  ·rw [if_neg g2]
   refine PC_of_vc (cx_ok true) (mixed true) {} Tryz.func94 (by kernel_rfl) rfl rfl (by kernel_rfl) ?_
   refine goL ?_
   refine ⟨_, CallVC.pr hx rfl rfl, ?_⟩
   refine goL ?_
   refine @bool_rec _ _ _ ?_ ?_ <;> intro g3
   ·exact absurd (of_decide_eq_true g3) g1
   refine goL ?_
   refine @bool_rec _ _ _ ?_ ?_ <;> intro g4
   ·exact absurd (of_decide_eq_true g4) g2
   refine goL ?_
   refine ⟨_, CallVC.pr (checkchal_ok true t.ak t.u.key t.body t.pd t.now (by omega) (by omega) hp) rfl rfl, ?_⟩
   refine goL ?_
   exact ⟨LEP_agg ⟨LEP.refl _, LEP.refl _, LEP.refl _, LEP_nil, trivial⟩, LEP.refl _, trivial⟩
end Go.Sl
namespace Go.Sl
open Go Go.Vc Go.Proofs Go.RowKit
theorem hitsT_len (ak nonce p seed : Tm) (t : Tok) : (hitsT ak nonce p seed t).1.length ≤ 72 := by
 unfold hitsT
 split
 ·exact Nat.zero_le _
 ·split
  ·split
   ·exact Nat.zero_le _
   ·split
    ·split
     ·rename_i h
      exact Nat.le_trans (List.length_filter_le _ _) (mays_len h)
     ·exact Nat.zero_le _
    ·exact Nat.zero_le _
  ·exact Nat.zero_le _
theorem provesT_len (t : Ta) : (provesT t).2.1.length ≤ 72 := by
 unfold provesT
 split
 ·exact hitsT_len _ _ _ _ _
 ·split <;> exact Nat.zero_le _
def isNoneB (t : Tm) : Bool := (unpackT noneW 0 t).isSome
structure KdOk (k : Kd) : Prop where
 key : wt k.key ≤ 1000000000
 cookies : wt k.cookies ≤ 1000000000
 few : k.us.length ≤ 32
 sets : ∀ u ∈ k.us, 0 < u.set.length ∧ u.set.length ≤ 3
 words : ∀ u ∈ k.us, ∀ s ∈ u.set, s.length ≤ 1000000000
 fails : ∀ u ∈ k.us, 0 ≤ u.fails ∧ u.fails ≤ 1000000000000
 room0 : 0 ≤ k.room
 room1 : k.room ≤ 64
 nod : (k.ca.map (·.1)).Nodup
 cal : k.ca.length ≤ 64
 d0 : 0 ≤ k.drawn
 d1 : k.drawn ≤ 100000000000
 iss : k.iss.length ≤ 100000
structure TaOk (t : Ta) : Prop where
 ck : t.ck.ok
 done : t.ck.done.length < t.u.set.length
 set : t.u.set.length ≤ 3
 words : ∀ s ∈ t.u.set, s.length ≤ 1000000000
 pd : wt t.pd ≤ 1000000000
 n0 : -1000000000000 ≤ t.now
 n1 : t.now ≤ 1000000000000
def takesT (k : Kd) (t : Ta) : Kd × Tm × List Int × Int :=
 if tagT t.pd ≠ nextT t ∨ (nextT t ≠ chW ∧ isNoneB t.ck.secret = true) then (k, zeroT, [], 11) else
 if (provesT t).2.2 = 6 then ({ k with us := setU t.ck.client k.us (· + 1) }, (provesT t).1, (provesT t).2.1, 6) else
 if (provesT t).2.2 ≠ 0 then (k, (provesT t).1, (provesT t).2.1, (provesT t).2.2) else
 if (seenT k.room k.ca (txtT t.pd) (t.now + 100 + 1) t.now).2 ≠ 0 then ({ k with ca := (seenT k.room k.ca (txtT t.pd) (t.now + 100 + 1) t.now).1 }, (provesT t).1, (provesT t).2.1, (seenT k.room k.ca (txtT t.pd) (t.now + 100 + 1) t.now).2) else
 if nextT t = otpM then ({ k with ca := (seenT k.room k.ca (txtT t.pd) (t.now + 100 + 1) t.now).1, us := (codeU t.ck.client k.us (provesT t).2.1).1 }, (provesT t).1, (provesT t).2.1, (codeU t.ck.client k.us (provesT t).2.1).2.2) else
 ({ k with ca := (seenT k.room k.ca (txtT t.pd) (t.now + 100 + 1) t.now).1 }, (provesT t).1, (provesT t).2.1, 0)
abbrev takeV (x : Kd × Tm × List Int × Int) : SV := .tupS [.p (prV x.2.1 x.2.2.1), iv x.2.2.2]
theorem takes_ok (k : Kd) (t : Ta) (hk : KdOk k) (ht : TaOk t) : PM (cx true) 42 (kdO k) [.ptr 2010 0, .p t.pv] (kdO (takesT k t).1) (takeV (takesT k t)) := by
 have hx := next_ok t ht.done
 have hpf := wt_fit t.pd ht.pd
 have htag := tag_ok true t.pd
 have hn0 := ht.n0
 have hn1 := ht.n1
 unfold takesT
 by_cases g1 : tagT t.pd = nextT t
 ·by_cases g2 : nextT t ≠ chW ∧ isNoneB t.ck.secret = true
  ·rw [if_pos (.inr g2)]
   have hnn := isnone_ok true t.ck.secret (wt_fit _ ht.ck.secret)
   rw [show (unpackT noneW 0 t.ck.secret).isSome = true from g2.2] at hnn
   refine PM_of_vc (cx_ok true) (mixed true) {} Tryz.func42 (by kernel_rfl) rfl rfl (by kernel_rfl) ?_ ?_
   ·rfl
   refine goL ?_
   refine ⟨_, CallVC.pr htag rfl rfl, ?_⟩
   refine goL ?_
   refine ⟨_, CallVC.pr hx rfl rfl, ?_⟩
   refine goL ?_
   refine @bool_rec _ _ _ ?_ ?_ <;> intro h1
   ·exact absurd g1 (by simpa using h1)
   refine goL ?_
   refine ⟨_, CallVC.pr hx rfl rfl, ?_⟩
   refine goL ?_
   refine @bool_rec _ _ _ ?_ ?_ <;> intro h2
   ·refine goL ?_
    refine ⟨_, CallVC.pr hnn rfl rfl, ?_⟩
    refine goL ?_
    exact ⟨gI, ⟨rfl, LE_agg ⟨LEP.refl _, LEP.refl _, LEP_nil, LEP_nil, trivial⟩, rfl, LE.of rfl, trivial⟩, ⟨.inr (.inl rfl), .inr (.inl rfl), .inr (.inl rfl), .inr (.inl rfl), .inr (.inl rfl), .inr (.inl rfl), trivial⟩, rfl, rfl⟩
   ·exact absurd (show nextT t = chW by simpa using h2) g2.1
  ·
   rw [if_neg (fun h => h.elim (fun h => h g1) g2)]
   have hnn : (nextT t = chW → False) → K true 21 [tv t.ck.secret] (.pv (.bool false)) := fun hne => by
    have h := isnone_ok true t.ck.secret (wt_fit _ ht.ck.secret)
    cases e : (unpackT noneW 0 t.ck.secret).isSome with
    | false => rw [e] at h; exact h
    | true => exact absurd ⟨hne, e⟩ g2
   have hp := proves_ok t ht.done ht.pd ht.ck.secret hn0 hn1
   have hlen := provesT_len t
   have htx := Text_ok t.pd hpf fun _ => text_big hpf ht.pd
   have hseen := seen_ok k.room (t.now + 100 + 1) t.now (txtT t.pd) k.ca hk.nod (by have := hk.cal; omega)
   have hfail := fail_ok k.us t.ck.client (by have := hk.few; omega) fun u hu => by have := hk.fails u hu; omega
   have hcode := code_ok k.us t.ck.client (provesT t).2.1 (by have := hk.few; omega) (by omega)
   revert hp hlen hseen hcode
   generalize provesT t = y
   obtain ⟨b, h, e⟩ := y
   generalize seenT k.room k.ca (txtT t.pd) (t.now + 100 + 1) t.now = z
   obtain ⟨ca2, e2'⟩ := z
   simp only
   generalize codeU t.ck.client k.us h = q
   obtain ⟨us2, n2, e3⟩ := q
   intro hp hlen hseen hcode
   by_cases e6 : e = 6
   ·rw [if_pos e6]
    subst e6
    refine PM_of_vc (cx_ok true) (mixed true) { own := fun q => Nat.beq q 100040 || Nat.beq q 100056 || Nat.beq q 100074 } Tryz.func42 (by kernel_rfl) rfl rfl (by kernel_rfl) ?_ ?_
    ·rfl
    refine goL ?_
    refine ⟨_, CallVC.pr htag rfl rfl, ?_⟩
    refine goL ?_
    refine ⟨_, CallVC.pr hx rfl rfl, ?_⟩
    refine goL ?_
    refine @bool_rec _ _ _ ?_ ?_ <;> intro h1
    ·exact absurd g1 (by simpa using h1)
    refine goL ?_
    refine ⟨_, CallVC.pr hx rfl rfl, ?_⟩
    refine goL ?_
    refine @bool_rec _ _ _ ?_ ?_ <;> intro h2
    ·have hnn := hnn (fun e => absurd e (of_decide_eq_true (by simpa using h2)))
     refine goL ?_
     refine ⟨_, CallVC.pr hnn rfl rfl, ?_⟩
     refine goL ?_
     refine ⟨_, CallVC.pr hp rfl rfl, ?_⟩
     refine goL ?_
     refine ⟨_, MCallVC.pr gI hfail ⟨LE.of rfl, LE.of rfl, trivial⟩ (by (conv => whnf); exact ⟨.inr (.inl rfl), .inr (.inl rfl), trivial⟩) rfl, ?_⟩
     refine goL ?_
     exact ⟨gI, ⟨rfl, LE.of rfl, rfl, LE.of rfl, trivial⟩, ⟨.inr (.inl rfl), .inr (.inl rfl), .inr (.inl rfl), .inr (.inl rfl), .inr (.inl rfl), .inr (.inl rfl), trivial⟩, rfl, rfl⟩
    ·refine goL ?_
     refine ⟨_, CallVC.pr hp rfl rfl, ?_⟩
     refine goL ?_
     refine ⟨_, MCallVC.pr gI hfail ⟨LE.of rfl, LE.of rfl, trivial⟩ (by (conv => whnf); exact ⟨.inr (.inl rfl), .inr (.inl rfl), trivial⟩) rfl, ?_⟩
     refine goL ?_
     exact ⟨gI, ⟨rfl, LE.of rfl, rfl, LE.of rfl, trivial⟩, ⟨.inr (.inl rfl), .inr (.inl rfl), .inr (.inl rfl), .inr (.inl rfl), .inr (.inl rfl), .inr (.inl rfl), trivial⟩, rfl, rfl⟩
   ·rw [if_neg e6]
    by_cases e0 : e = 0
    ·subst e0
     rw [if_neg (fun h => h rfl)]
     by_cases e2 : e2' = 0
     ·subst e2
      rw [if_neg (fun h => h rfl)]
      by_cases g3 : nextT t = otpM
      ·rw [if_pos g3]
       refine PM_of_vc (cx_ok true) (mixed true) { own := fun q => Nat.beq q 100040 || Nat.beq q 100056 || Nat.beq q 100074 } Tryz.func42 (by kernel_rfl) rfl rfl (by kernel_rfl) ?_ ?_
       ·rfl
       refine goL ?_
       refine ⟨_, CallVC.pr htag rfl rfl, ?_⟩
       refine goL ?_
       refine ⟨_, CallVC.pr hx rfl rfl, ?_⟩
       refine goL ?_
       refine @bool_rec _ _ _ ?_ ?_ <;> intro h1
       ·exact absurd g1 (by simpa using h1)
       refine goL ?_
       refine ⟨_, CallVC.pr hx rfl rfl, ?_⟩
       refine goL ?_
       refine @bool_rec _ _ _ ?_ ?_ <;> intro h2
       ·have hnn := hnn (fun e => absurd e (of_decide_eq_true (by simpa using h2)))
        refine goL ?_
        refine ⟨_, CallVC.pr hnn rfl rfl, ?_⟩
        refine goL ?_
        refine ⟨_, CallVC.pr hp rfl rfl, ?_⟩
        refine goL ?_
        refine ⟨_, CallVC.pr htx rfl rfl, ?_⟩
        refine goL ?_
        refine ⟨t.now + 100, wrapI (k := t.now + 100) (by omega) (by omega) rfl, ?_⟩
        refine goL ?_
        refine ⟨t.now + 100 + 1, wrapI (k := t.now + 100 + 1) (by omega) (by omega) rfl, ?_⟩
        refine goL ?_
        refine ⟨_, MCallVC.pr gI hseen ⟨LE.of rfl, LE.of rfl, LE.of rfl, LE.of rfl, trivial⟩ (by (conv => whnf); exact ⟨.inr (.inl rfl), .inr (.inl rfl), trivial⟩) rfl, ?_⟩
        refine goL ?_
        refine ⟨_, CallVC.pr hx rfl rfl, ?_⟩
        refine goL ?_
        refine @bool_rec _ _ _ ?_ ?_ <;> intro h5
        ·refine goL ?_
         refine ⟨_, MCallVC.pr gI hcode ⟨LE.of rfl, LE.of rfl, LE.of rfl, trivial⟩ (by (conv => whnf); exact ⟨.inr (.inl rfl), .inr (.inl rfl), trivial⟩) rfl, ?_⟩
         refine goL ?_
         exact ⟨gI, ⟨rfl, LE.of rfl, rfl, LE.of rfl, trivial⟩, ⟨.inr (.inl rfl), .inr (.inl rfl), .inr (.inl rfl), .inr (.inl rfl), .inr (.inl rfl), .inr (.inl rfl), trivial⟩, rfl, rfl⟩
        ·exact absurd g3 (of_decide_eq_false h5)
       ·refine goL ?_
        refine ⟨_, CallVC.pr hp rfl rfl, ?_⟩
        refine goL ?_
        refine ⟨_, CallVC.pr htx rfl rfl, ?_⟩
        refine goL ?_
        refine ⟨t.now + 100, wrapI (k := t.now + 100) (by omega) (by omega) rfl, ?_⟩
        refine goL ?_
        refine ⟨t.now + 100 + 1, wrapI (k := t.now + 100 + 1) (by omega) (by omega) rfl, ?_⟩
        refine goL ?_
        refine ⟨_, MCallVC.pr gI hseen ⟨LE.of rfl, LE.of rfl, LE.of rfl, LE.of rfl, trivial⟩ (by (conv => whnf); exact ⟨.inr (.inl rfl), .inr (.inl rfl), trivial⟩) rfl, ?_⟩
        refine goL ?_
        refine ⟨_, CallVC.pr hx rfl rfl, ?_⟩
        refine goL ?_
        refine @bool_rec _ _ _ ?_ ?_ <;> intro h5
        ·refine goL ?_
         refine ⟨_, MCallVC.pr gI hcode ⟨LE.of rfl, LE.of rfl, LE.of rfl, trivial⟩ (by (conv => whnf); exact ⟨.inr (.inl rfl), .inr (.inl rfl), trivial⟩) rfl, ?_⟩
         refine goL ?_
         exact ⟨gI, ⟨rfl, LE.of rfl, rfl, LE.of rfl, trivial⟩, ⟨.inr (.inl rfl), .inr (.inl rfl), .inr (.inl rfl), .inr (.inl rfl), .inr (.inl rfl), .inr (.inl rfl), trivial⟩, rfl, rfl⟩
        ·exact absurd g3 (of_decide_eq_false h5)
      ·rw [if_neg g3]
       refine PM_of_vc (cx_ok true) (mixed true) { own := fun q => Nat.beq q 100040 || Nat.beq q 100056 || Nat.beq q 100074 } Tryz.func42 (by kernel_rfl) rfl rfl (by kernel_rfl) ?_ ?_
       ·rfl
       refine goL ?_
       refine ⟨_, CallVC.pr htag rfl rfl, ?_⟩
       refine goL ?_
       refine ⟨_, CallVC.pr hx rfl rfl, ?_⟩
       refine goL ?_
       refine @bool_rec _ _ _ ?_ ?_ <;> intro h1
       ·exact absurd g1 (by simpa using h1)
       refine goL ?_
       refine ⟨_, CallVC.pr hx rfl rfl, ?_⟩
       refine goL ?_
       refine @bool_rec _ _ _ ?_ ?_ <;> intro h2
       ·have hnn := hnn (fun e => absurd e (of_decide_eq_true (by simpa using h2)))
        refine goL ?_
        refine ⟨_, CallVC.pr hnn rfl rfl, ?_⟩
        refine goL ?_
        refine ⟨_, CallVC.pr hp rfl rfl, ?_⟩
        refine goL ?_
        refine ⟨_, CallVC.pr htx rfl rfl, ?_⟩
        refine goL ?_
        refine ⟨t.now + 100, wrapI (k := t.now + 100) (by omega) (by omega) rfl, ?_⟩
        refine goL ?_
        refine ⟨t.now + 100 + 1, wrapI (k := t.now + 100 + 1) (by omega) (by omega) rfl, ?_⟩
        refine goL ?_
        refine ⟨_, MCallVC.pr gI hseen ⟨LE.of rfl, LE.of rfl, LE.of rfl, LE.of rfl, trivial⟩ (by (conv => whnf); exact ⟨.inr (.inl rfl), .inr (.inl rfl), trivial⟩) rfl, ?_⟩
        refine goL ?_
        refine ⟨_, CallVC.pr hx rfl rfl, ?_⟩
        refine goL ?_
        refine @bool_rec _ _ _ ?_ ?_ <;> intro h5
        ·exact absurd (of_decide_eq_true h5) g3
        ·refine goL ?_
         exact ⟨gI, ⟨rfl, LE.of rfl, rfl, LE.of rfl, trivial⟩, ⟨.inr (.inl rfl), .inr (.inl rfl), .inr (.inl rfl), .inr (.inl rfl), .inr (.inl rfl), .inr (.inl rfl), trivial⟩, rfl, rfl⟩
       ·refine goL ?_
        refine ⟨_, CallVC.pr hp rfl rfl, ?_⟩
        refine goL ?_
        refine ⟨_, CallVC.pr htx rfl rfl, ?_⟩
        refine goL ?_
        refine ⟨t.now + 100, wrapI (k := t.now + 100) (by omega) (by omega) rfl, ?_⟩
        refine goL ?_
        refine ⟨t.now + 100 + 1, wrapI (k := t.now + 100 + 1) (by omega) (by omega) rfl, ?_⟩
        refine goL ?_
        refine ⟨_, MCallVC.pr gI hseen ⟨LE.of rfl, LE.of rfl, LE.of rfl, LE.of rfl, trivial⟩ (by (conv => whnf); exact ⟨.inr (.inl rfl), .inr (.inl rfl), trivial⟩) rfl, ?_⟩
        refine goL ?_
        refine ⟨_, CallVC.pr hx rfl rfl, ?_⟩
        refine goL ?_
        refine @bool_rec _ _ _ ?_ ?_ <;> intro h5
        ·exact absurd (of_decide_eq_true h5) g3
        ·refine goL ?_
         exact ⟨gI, ⟨rfl, LE.of rfl, rfl, LE.of rfl, trivial⟩, ⟨.inr (.inl rfl), .inr (.inl rfl), .inr (.inl rfl), .inr (.inl rfl), .inr (.inl rfl), .inr (.inl rfl), trivial⟩, rfl, rfl⟩
     ·rw [if_pos e2]
      refine PM_of_vc (cx_ok true) (mixed true) { own := fun q => Nat.beq q 100040 || Nat.beq q 100056 || Nat.beq q 100074 } Tryz.func42 (by kernel_rfl) rfl rfl (by kernel_rfl) ?_ ?_
      ·rfl
      refine goL ?_
      refine ⟨_, CallVC.pr htag rfl rfl, ?_⟩
      refine goL ?_
      refine ⟨_, CallVC.pr hx rfl rfl, ?_⟩
      refine goL ?_
      refine @bool_rec _ _ _ ?_ ?_ <;> intro h1
      ·exact absurd g1 (by simpa using h1)
      refine goL ?_
      refine ⟨_, CallVC.pr hx rfl rfl, ?_⟩
      refine goL ?_
      refine @bool_rec _ _ _ ?_ ?_ <;> intro h2
      ·have hnn := hnn (fun e => absurd e (of_decide_eq_true (by simpa using h2)))
       refine goL ?_
       refine ⟨_, CallVC.pr hnn rfl rfl, ?_⟩
       refine goL ?_
       refine ⟨_, CallVC.pr hp rfl rfl, ?_⟩
       refine goL ?_
       refine ⟨_, CallVC.pr htx rfl rfl, ?_⟩
       refine goL ?_
       refine ⟨t.now + 100, wrapI (k := t.now + 100) (by omega) (by omega) rfl, ?_⟩
       refine goL ?_
       refine ⟨t.now + 100 + 1, wrapI (k := t.now + 100 + 1) (by omega) (by omega) rfl, ?_⟩
       refine goL ?_
       refine ⟨_, MCallVC.pr gI hseen ⟨LE.of rfl, LE.of rfl, LE.of rfl, LE.of rfl, trivial⟩ (by (conv => whnf); exact ⟨.inr (.inl rfl), .inr (.inl rfl), trivial⟩) rfl, ?_⟩
       refine goL ?_
       refine @bool_rec _ _ _ ?_ ?_ <;> intro h4
       ·exact absurd (of_decide_eq_true h4) e2
       refine goL ?_
       exact ⟨gI, ⟨rfl, LE.of rfl, rfl, LE.of rfl, trivial⟩, ⟨.inr (.inl rfl), .inr (.inl rfl), .inr (.inl rfl), .inr (.inl rfl), .inr (.inl rfl), .inr (.inl rfl), trivial⟩, rfl, rfl⟩
      ·refine goL ?_
       refine ⟨_, CallVC.pr hp rfl rfl, ?_⟩
       refine goL ?_
       refine ⟨_, CallVC.pr htx rfl rfl, ?_⟩
       refine goL ?_
       refine ⟨t.now + 100, wrapI (k := t.now + 100) (by omega) (by omega) rfl, ?_⟩
       refine goL ?_
       refine ⟨t.now + 100 + 1, wrapI (k := t.now + 100 + 1) (by omega) (by omega) rfl, ?_⟩
       refine goL ?_
       refine ⟨_, MCallVC.pr gI hseen ⟨LE.of rfl, LE.of rfl, LE.of rfl, LE.of rfl, trivial⟩ (by (conv => whnf); exact ⟨.inr (.inl rfl), .inr (.inl rfl), trivial⟩) rfl, ?_⟩
       refine goL ?_
       refine @bool_rec _ _ _ ?_ ?_ <;> intro h4
       ·exact absurd (of_decide_eq_true h4) e2
       refine goL ?_
       exact ⟨gI, ⟨rfl, LE.of rfl, rfl, LE.of rfl, trivial⟩, ⟨.inr (.inl rfl), .inr (.inl rfl), .inr (.inl rfl), .inr (.inl rfl), .inr (.inl rfl), .inr (.inl rfl), trivial⟩, rfl, rfl⟩
    ·rw [if_pos e0]
     refine PM_of_vc (cx_ok true) (mixed true) { own := fun q => Nat.beq q 100040 || Nat.beq q 100056 || Nat.beq q 100074 } Tryz.func42 (by kernel_rfl) rfl rfl (by kernel_rfl) ?_ ?_
     ·rfl
     refine goL ?_
     refine ⟨_, CallVC.pr htag rfl rfl, ?_⟩
     refine goL ?_
     refine ⟨_, CallVC.pr hx rfl rfl, ?_⟩
     refine goL ?_
     refine @bool_rec _ _ _ ?_ ?_ <;> intro h1
     ·exact absurd g1 (by simpa using h1)
     refine goL ?_
     refine ⟨_, CallVC.pr hx rfl rfl, ?_⟩
     refine goL ?_
     refine @bool_rec _ _ _ ?_ ?_ <;> intro h2
     ·have hnn := hnn (fun e => absurd e (of_decide_eq_true (by simpa using h2)))
      refine goL ?_
      refine ⟨_, CallVC.pr hnn rfl rfl, ?_⟩
      refine goL ?_
      refine ⟨_, CallVC.pr hp rfl rfl, ?_⟩
      refine goL ?_
      refine @bool_rec _ _ _ ?_ ?_ <;> intro h3
      ·exact absurd (of_decide_eq_true h3) e6
      refine goL ?_
      refine @bool_rec _ _ _ ?_ ?_ <;> intro h4
      ·exact absurd (of_decide_eq_true h4) e0
      refine goL ?_
      refine @bool_rec _ _ _ ?_ ?_ <;> intro h5
      ·exact absurd (of_decide_eq_true h5) e0
      refine goL ?_
      exact ⟨gI, ⟨rfl, LE.of rfl, rfl, LE.of rfl, trivial⟩, ⟨.inr (.inl rfl), .inr (.inl rfl), .inr (.inl rfl), .inr (.inl rfl), .inr (.inl rfl), .inr (.inl rfl), trivial⟩, rfl, rfl⟩
     ·refine goL ?_
      refine ⟨_, CallVC.pr hp rfl rfl, ?_⟩
      refine goL ?_
      refine @bool_rec _ _ _ ?_ ?_ <;> intro h3
      ·exact absurd (of_decide_eq_true h3) e6
      refine goL ?_
      refine @bool_rec _ _ _ ?_ ?_ <;> intro h4
      ·exact absurd (of_decide_eq_true h4) e0
      refine goL ?_
      refine @bool_rec _ _ _ ?_ ?_ <;> intro h5
      ·exact absurd (of_decide_eq_true h5) e0
      refine goL ?_
      exact ⟨gI, ⟨rfl, LE.of rfl, rfl, LE.of rfl, trivial⟩, ⟨.inr (.inl rfl), .inr (.inl rfl), .inr (.inl rfl), .inr (.inl rfl), .inr (.inl rfl), .inr (.inl rfl), trivial⟩, rfl, rfl⟩
 ·rw [if_pos (.inl g1)]
  refine PM_of_vc (cx_ok true) (mixed true) {} Tryz.func42 (by kernel_rfl) rfl rfl (by kernel_rfl) ?_ ?_
  ·rfl
  refine goL ?_
  refine ⟨_, CallVC.pr htag rfl rfl, ?_⟩
  refine goL ?_
  refine ⟨_, CallVC.pr hx rfl rfl, ?_⟩
  refine goL ?_
  refine @bool_rec _ _ _ ?_ ?_ <;> intro h1
  ·refine goL ?_
   exact ⟨gI, ⟨rfl, LE_agg ⟨LEP.refl _, LEP.refl _, LEP_nil, LEP_nil, trivial⟩, rfl, LE.of rfl, trivial⟩, ⟨.inr (.inl rfl), .inr (.inl rfl), .inr (.inl rfl), .inr (.inl rfl), .inr (.inl rfl), .inr (.inl rfl), trivial⟩, rfl, rfl⟩
  ·exact absurd (by simpa using h1) g1
end Go.Sl
