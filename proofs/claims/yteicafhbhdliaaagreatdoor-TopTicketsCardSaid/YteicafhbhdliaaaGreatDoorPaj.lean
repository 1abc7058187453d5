/- The statement TopTickets, without a condition: a ticket of one KDC is none of another one's. Part 10: Ik Il Im In Io. -/
import Derived.Test.YteicafhbhdliaaaGreatDoorPai
import Derived.Test.YteicafhbhdliaaaGreatDoorSj
set_option linter.unusedSimpArgs false
set_option linter.unusedVariables false
set_option maxHeartbeats 4000000
namespace Go.Sl
open Go Go.Vc Go.Proofs Go.RowKit Go.Sort
theorem put_at {w : World} {n g : Nat} {d : Array Int} {os : Array Obj} {cur : Array Value} {t : TypeId} {fr : Nat × Nat} (h : w.heap[g]? = some (.cells cur t fr)) :
  (grow (putRow (Value.int .i64) (Sort.ahead w n) g 0 d) os).heap[g]? = some (.cells (putCells (Value.int .i64) 0 d cur) t fr) := by
 have hlt : g < w.heap.size := (Array.getElem?_eq_some_iff.1 h).1
 show ((w.heap.modify g _) ++ os)[g]? = _
 rw [Array.getElem?_append_left (by simpa using hlt), Array.getElem?_modify, if_pos rfl, h]
 rfl
theorem put_ne {w : World} {n g b : Nat} {d : Array Int} {os : Array Obj} (hlt : b < w.heap.size) (hne : b ≠ g) : (grow (putRow (Value.int .i64) (Sort.ahead w n) g 0 d) os).heap[b]? = w.heap[b]? := by
 show ((w.heap.modify g _) ++ os)[b]? = _
 rw [Array.getElem?_append_left (by simpa using hlt), Array.getElem?_modify, if_neg (fun e => hne e.symm)]
theorem put_size {w : World} {n g : Nat} {d : Array Int} {os : Array Obj} : w.heap.size ≤ (grow (putRow (Value.int .i64) (Sort.ahead w n) g 0 d) os).heap.size := by
 show _ ≤ ((w.heap.modify g _) ++ os).size
 simp
theorem put_take {d : List Int} {cur : Array Value} (h : d.length ≤ cur.size) : (putCells (Value.int .i64) 0 d.toArray cur).toList.take d.length = d.map (Value.int .i64) := by
 apply List.ext_getElem?
 intro i
 by_cases hi : i < d.length
 ·rw [List.getElem?_take_of_lt hi, Array.getElem?_toList, putCells, Array.getElem?_mapIdx, Array.getElem?_eq_getElem (by omega), List.getElem?_map, List.getElem?_eq_getElem hi]
  have hs : i < d.toArray.size := by simpa using hi
  simp [hi]
 ·rw [List.getElem?_eq_none (by rw [List.length_take]; omega), List.getElem?_eq_none (by rw [List.length_map]; omega)]
theorem row_ints {ok : Nat → Prop} {w : World} {v : Value} {zs : List Int} {xs : List Value} (h0 : 0 < zs.length) (hrow : w.ownsRow 0 3 1 v (ints zs).length xs) (hrr : RRow ok w 1 (ints zs) xs) :
  ∃ g cap cur, v = .slice (some ⟨g, 0, none⟩) zs.length cap ∧ w.heap[g]? = some (.cells cur 3 (0, 0)) ∧ zs.length ≤ cap ∧ cap ≤ maxLen ∧ cur.size = cap * 1 ∧ Holds (Value.int .i64) w g 0 zs.toArray := by
 rw [ints_len] at hrow
 rcases hrow.2 with ⟨_, q⟩ | ⟨g, cap, cur, q1, q2, q3, q4, q5, q6, q7⟩
 ·omega
 ·refine ⟨g, cap, cur, q1, q3, q4, q5, q6, fun j hj => ?_⟩
  have hj : j < zs.length := by simpa using hj
  obtain ⟨c, hc, hce⟩ := hrr.2 j _ (ints_get hj)
  rw [RP] at hc
  subst hc
  have hce : [Value.int .i64 zs[j]] = (xs.drop (j * 1)).take 1 := hce
  have hx : xs[j]? = some (.int .i64 zs[j]) := by
   have := congrArg (·[0]?) hce
   simp only [List.getElem?_cons_zero, List.getElem?_take_of_lt Nat.zero_lt_one, List.getElem?_drop, Nat.mul_one, Nat.add_zero] at this
   exact this.symm
  have hcur : cur[j]? = some (.int .i64 zs[j]) := by
   rw [← q7, List.getElem?_take_of_lt (by omega), Array.getElem?_toList] at hx
   exact hx
  refine ⟨?_, ?_⟩
  ·simp only [World.cell?, Nat.zero_add, q3, hcur]
   simp [hj]
  ·simp [World.frozen?, q3]
theorem RRow_ints {ok : Nat → Prop} {w : World} (zs : List Int) : RRow ok w 1 (ints zs) (zs.map (Value.int .i64)) := by
 refine ⟨by simp, fun i x hx => ?_⟩
 rw [List.getElem?_map] at hx
 obtain ⟨z, hz, rfl⟩ := Option.map_eq_some_iff.1 hx
 refine ⟨.int .i64 z, by rw [RP], ?_⟩
 show [Value.int .i64 z] = _
 have hlt := (List.getElem?_eq_some_iff.1 hz).1
 have hge := (List.getElem?_eq_some_iff.1 hz).2
 rw [Nat.mul_one, ← List.map_drop, List.drop_eq_getElem_cons hlt, List.map_cons, hge]
 rfl
theorem PM_turn {f : FuncId} (fn : FnOk Tryz.prog f) (zs zs' : List Int) (m : Nat) (h0 : 0 < zs.length) (hl : zs'.length = zs.length) (hm : m ≤ zs.length)
  (h : ∀ (w : World) (g cap : Nat), Holds (Value.int .i64) w g 0 zs.toArray → g < w.heap.size → zs.length ≤ cap →
   Calls Tryz.prog f #[.slice (some ⟨g, 0, none⟩) zs.length cap] w fun e w' => e = .returned (.slice (some ⟨g, 0, none⟩) m cap) ∧ ∃ n os, w' = grow (putRow (Value.int .i64) (Sort.ahead w n) g 0 zs'.toArray) os) :
  PM (cx true) f [(1001, .row 3 1 (ints zs))] [.slc 1001] [(1001, .row 3 1 (ints (zs'.take m)))] (.slc 1001) := by
 refine ⟨fn, rfl, fun ok β w vs hG hlt hr hob hdis => ?_⟩
 match vs, hr with
 | [v], hr =>
  obtain ⟨hr, _⟩ := hr
  rw [R] at hr
  obtain ⟨rfl, hone⟩ := hr
  obtain ⟨hp, ⟨xs, hrow, hrr⟩, hnok⟩ := hob 1001
  obtain ⟨g, cap, cur, hv, hheap, hc1, hc2, hc3, hH⟩ := row_ints h0 hrow hrr
  have hgl : g < w.heap.size := (Array.getElem?_eq_some_iff.1 hheap).1
  have hng : ¬ ok g := (hnok g (by rw [hv]; rfl)).1
  rw [hv]
  refine (h w g cap hH hgl hc1).mono ?_
  rintro e w' ⟨rfl, n, os, rfl⟩
  have hmb : mblk [(1001, .row 3 1 (ints zs))] β g := ⟨1001, rfl, by rw [hv]; rfl⟩
  have hlen : (ints (zs'.take m)).length = m := by rw [ints_len, List.length_take]; omega
  refine ⟨_, fun κ => if κ = 1001 then .slice (some ⟨g, 0, none⟩) m cap else β κ, ok, rfl, ?_⟩
  refine { ok1 := fun _ h => h, ok2 := fun b hb => Nat.lt_of_lt_of_le (hlt b hb) put_size, ok3 := fun b hb => .inl hb, val := ?_, obs := fun κ => ?_, dis := fun κ κ' b h1 h2 _ _ => ?_, pin := fun κ hκ _ => ?_, keep := ⟨rfl, rfl, rfl, put_size, fun b hb hn => put_ne hb fun e => hn (e ▸ hmb)⟩ }
  ·rw [R]
   exact ⟨(if_pos rfl).symm, rfl⟩
  ·show OB _ _ _ _ _ κ (cond (Nat.beq κ 1001) _ _)
   rw [beq_ite]
   split
   ·rename_i e
    subst e
    refine ⟨hp, ⟨(zs'.take m).map (Value.int .i64), ⟨by simp, .inr ⟨g, cap, _, by rw [hlen]; exact if_pos rfl, Nat.zero_le _, put_at hheap, by rw [hlen]; omega, hc2, ?_, ?_⟩⟩, RRow_ints _⟩, fun b hb => ?_⟩
    ·simpa [putCells] using hc3
    ·rw [hlen, Nat.mul_one]
     have := put_take (d := zs') (cur := cur) (by omega)
     rw [List.map_take, ← this, List.take_take, Nat.min_eq_left (by omega)]
    ·have hb : b = g := by
      have hb : (Value.slice (some ⟨g, 0, none⟩) m cap).ownBlock = some b := hb
      simpa [Value.ownBlock] using hb.symm
     subst hb
     exact ⟨hng, .inl hmb⟩
   ·trivial
  ·have key : ∀ κ, (lookO [(1001, .row 3 1 (ints (zs'.take m)))] κ).live = true → κ = 1001 := fun κ h => by
    change (cond (Nat.beq κ 1001) _ _ : AO).live = true at h
    rw [beq_ite] at h
    split at h
    ·assumption
    ·cases h
   rw [key κ h1, key κ' h2]
  ·show (if κ = 1001 then _ else β κ) = _
   rw [if_neg (by omega)]
theorem PM_turn0 {f : FuncId} (fn : FnOk Tryz.prog f) (zs zs' : List Int) (h0 : 0 < zs.length) (hl : zs'.length = zs.length)
  (h : ∀ (w : World) (g cap : Nat), Holds (Value.int .i64) w g 0 zs.toArray → g < w.heap.size → zs.length ≤ cap →
   Calls Tryz.prog f #[.slice (some ⟨g, 0, none⟩) zs.length cap] w fun e w' => e = .returned (.tuple #[]) ∧ ∃ n os, w' = grow (putRow (Value.int .i64) (Sort.ahead w n) g 0 zs'.toArray) os) :
  PM (cx true) f [(2104, .row 3 1 (ints zs))] [.slc 2104] [(2104, .row 3 1 (ints zs'))] (.tupS []) := by
 refine ⟨fn, rfl, fun ok β w vs hG hlt hr hob hdis => ?_⟩
 match vs, hr with
 | [v], hr =>
  obtain ⟨hr, _⟩ := hr
  rw [R] at hr
  obtain ⟨rfl, hone⟩ := hr
  obtain ⟨hp, ⟨xs, hrow, hrr⟩, hnok⟩ := hob 2104
  obtain ⟨g, cap, cur, hv, hheap, hc1, hc2, hc3, hH⟩ := row_ints h0 hrow hrr
  have hgl : g < w.heap.size := (Array.getElem?_eq_some_iff.1 hheap).1
  have hng : ¬ ok g := (hnok g (by rw [hv]; rfl)).1
  rw [hv]
  refine (h w g cap hH hgl hc1).mono ?_
  rintro e w' ⟨rfl, n, os, rfl⟩
  have hmb : mblk [(2104, .row 3 1 (ints zs))] β g := ⟨2104, rfl, by rw [hv]; rfl⟩
  have hlen : (ints zs').length = zs.length := by rw [ints_len, hl]
  refine ⟨_, β, ok, rfl, ?_⟩
  refine { ok1 := fun _ h => h, ok2 := fun b hb => Nat.lt_of_lt_of_le (hlt b hb) put_size, ok3 := fun b hb => .inl hb, val := ?_, obs := fun κ => ?_, dis := fun κ κ' b h1 h2 _ _ => ?_, pin := fun κ hκ _ => rfl, keep := ⟨rfl, rfl, rfl, put_size, fun b hb hn => put_ne hb fun e => hn (e ▸ hmb)⟩ }
  ·rw [R]
   exact ⟨[], rfl, trivial⟩
  ·show OB _ _ _ _ _ κ (cond (Nat.beq κ 2104) _ _)
   rw [beq_ite]
   split
   ·rename_i e
    subst e
    refine ⟨hp, ⟨zs'.map (Value.int .i64), ⟨by simp, .inr ⟨g, cap, _, by rw [hv, hlen], Nat.zero_le _, put_at hheap, by rw [hlen]; omega, hc2, ?_, ?_⟩⟩, RRow_ints _⟩, fun b hb => ?_⟩
    ·simpa [putCells] using hc3
    ·rw [hlen, Nat.mul_one, ← hl]
     exact put_take (d := zs') (cur := cur) (by omega)
    ·have hb : b = g := by
      rw [hv] at hb
      simpa [Value.ownBlock] using hb.symm
     subst hb
     exact ⟨hng, .inl hmb⟩
   ·trivial
  ·have key : ∀ κ, (lookO [(2104, .row 3 1 (ints zs'))] κ).live = true → κ = 2104 := fun κ h => by
    change (cond (Nat.beq κ 2104) _ _ : AO).live = true at h
    rw [beq_ite] at h
    split at h
    ·assumption
    ·cases h
   rw [key κ h1, key κ' h2]
def sortI (zs : List Int) : List Int := zs.mergeSort fun x y => decide (x ≤ y)
theorem sortI_ok (zs : List Int) (h0 : 0 < zs.length) (hz : zs.length ≤ 1000000) : PM (cx true) 181 [(2104, .row 3 1 (ints zs))] [.slc 2104] [(2104, .row 3 1 (ints (sortI zs)))] (.tupS []) :=
 PM_turn0 ⟨_, Tryz.func181, rfl, rfl⟩ zs (sortI zs) h0 (List.length_mergeSort _) fun w g cap hH hg hc => Tryz.slices_Sort_int g 0 cap zs w hH hg (by omega)
theorem compactI_len (zs : List Int) : (Lib.compact zs).length ≤ zs.length := by
 unfold Lib.compact Lib.compactUpTo
 rw [List.length_map]
 exact Nat.le_trans (List.length_filter_le _ _) (by rw [List.length_range]; exact Nat.le_refl _)
theorem compactI_ok (zs : List Int) (h0 : 0 < zs.length) (hz : zs.length ≤ 1000000) : PM (cx true) 183 [(1001, .row 3 1 (ints zs))] [.slc 1001] [(1001, .row 3 1 (ints (Lib.compact zs)))] (.slc 1001) := by
 have hl := compactI_len zs
 have h := PM_turn (f := 183) ⟨_, Tryz.func183, rfl, rfl⟩ zs (Lib.compact zs ++ List.replicate (zs.length - (Lib.compact zs).length) 0) (Lib.compact zs).length h0 (by rw [List.length_append, List.length_replicate]; omega) hl fun w g cap hH hg hc => by
  refine (Tryz.slices_Compact_int g 0 cap zs w hH (by omega) hc).mono ?_
  rintro e w' ⟨rfl, q, rfl⟩
  exact ⟨rfl, q, #[], by simp⟩
 rw [List.take_append_of_le_length (Nat.le_refl _), List.take_length] at h
 exact h
end Go.Sl
namespace Go.Sl
open Go Go.Vc Go.Proofs Go.RowKit
def ctrL (c : Int) (n : Nat) : List Int := (List.range n).map fun i : Nat => c + (i : Int)
theorem ctrL_succ (c : Int) (n : Nat) : ctrL c (n + 1) = ctrL c n ++ [c + (n : Int)] := by
 rw [ctrL, List.range_succ, List.map_append]
 rfl
theorem ctrL_len (c : Int) (n : Nat) : (ctrL c n).length = n := by simp [ctrL]
def mayL (t : Tok) : List Int := t.pending :: ctrL t.counter (t.look + t.sync + 1).toNat
def hitsL (t : Tok) (p : Int → Bool) : List Int := (Lib.compact (sortI (mayL t))).filter p
def hitsT (ak nonce p seed : Tm) (t : Tok) : List Int × Int :=
 match unpackT otpM 1 p with
 | none => ([], 2)
 | some l =>
  if (unsealT ak 45 (at_ l 0)).2 = 0 then
   (match unpackT codeW 2 (unsealT ak 45 (at_ l 0)).1 with
   | none => ([], 2)
   | some r => if at_ r 0 = nonce then (if tokRight t = true then (hitsL t fun c => decide (at_ r 1 = numT seed otpW c), 0) else ([], 0)) else ([], 6))
  else ([], (unsealT ak 45 (at_ l 0)).2)
def hitR (x : List Int × Int) : Res := .tup [.lst (ints x.1), .int .i64 x.2]
theorem ints_app (a b : List Int) : ints (a ++ b) = ints a ++ ints b := List.map_append
theorem hitscl_ok (r : List Tm) (seed : Tm) (c : Int) (h2 : 2 ≤ r.length) (hf : Fit (at_ r 1)) (h0 : -9223372036854775808 ≤ c) (h1 : c ≤ 9223372036854775807) :
  PM (cx true) 184 (clB r seed) [iv c, .ptr 2101 0, .ptr 2102 0] [] (.p (.bool (!decide (at_ r 1 = numT seed otpW c)))) := by
 refine PM_of_vc (cx_ok true) (mixed true) {} Tryz.func184 (by kernel_rfl) rfl rfl (by kernel_rfl) ?_ ?_
 ·rfl
 refine goL ?_
 refine ⟨_, tmvs_at (l := r) (i := 1) (by omega), rfl, rfl, ?_⟩
 refine goL ?_
 refine ⟨_, CallVC.pr (keyotp_ok true seed c h0 h1) rfl rfl, ?_⟩
 refine goL ?_
 refine ⟨_, CallVC.pr (same_ok true (at_ r 1) hf _) rfl rfl, ?_⟩
 refine goL ?_
 exact ⟨gI, ⟨rfl, LE.of rfl⟩, trivial, rfl, rfl⟩
theorem mayL_len {t : Tok} (h : tokRight t = true) : (mayL t).length ≤ 72 := by
 have := tokRight_spec h
 rw [mayL, List.length_cons, ctrL_len]
 omega
theorem mayL_bd {t : Tok} (h : tokRight t = true) : ∀ c ∈ mayL t, 0 ≤ c ∧ c ≤ 1100000000000 := by
 have hs := tokRight_spec h
 intro c hc
 rcases List.mem_cons.1 hc with rfl | hc
 ·omega
 ·obtain ⟨i, hi, rfl⟩ := List.mem_map.1 hc
  have := List.mem_range.1 hi
  constructor <;> omega
theorem compactU_mem {c : Int} (d : Array Int) : ∀ m, m ≤ d.size → c ∈ Lib.compactUpTo d m → c ∈ d := by
 intro m
 induction m with
 | zero => intro _ h; simp [Lib.compactUpTo] at h
 | succ m ih =>
  intro hm h
  rw [Lib.compactUpTo_succ, List.mem_append] at h
  rcases h with h | h
  ·exact ih (by omega) h
  ·split at h
   ·rw [List.mem_singleton] at h
    subst h
    rw [getElem!_pos d m (by omega)]
    exact Array.getElem_mem _
   ·cases h
theorem compact_mem {c : Int} {l : List Int} (h : c ∈ Lib.compact l) : c ∈ l := by
 have := compactU_mem l.toArray l.toArray.size (Nat.le_refl _) h
 simpa using this
theorem mays_len {t : Tok} (h : tokRight t = true) : (Lib.compact (sortI (mayL t))).length ≤ 72 := by
 have h1 := compactI_len (sortI (mayL t))
 have h2 : (sortI (mayL t)).length = (mayL t).length := List.length_mergeSort _
 have h3 := mayL_len h
 omega
theorem mays_mem {t : Tok} {c : Int} (h : c ∈ Lib.compact (sortI (mayL t))) : c ∈ mayL t := List.mem_mergeSort.1 (compact_mem h)
theorem hits_ok (ak nonce p seed : Tm) (t : Tok) (hw : wt p ≤ 1000000000) : K true 139 [tv ak, tv nonce, tv p, tv seed, .p t.pv] (hitR (hitsT ak nonce p seed t)) := by
 have h := unpack_ok true otpM 1 p (by decide) (wt_fit p hw)
 unfold hitsT
 cases e : unpackT otpM 1 p with
 | none =>
  rw [e] at h
  refine PC_of_vc (cx_ok true) (mixed true) { ps := psT [(4, [14])] } Tryz.func139 (by kernel_rfl) rfl rfl (by kernel_rfl) ?_
  refine goL ?_
  refine ⟨_, CallVC.pr h rfl rfl, ?_⟩
  refine goL ?_
  exact ⟨LEP.refl _, LEP.refl _, trivial⟩
 | some l =>
  rw [e] at h
  have hl := unpackT_len e
  have hl0 : wt (at_ l 0) ≤ 1000000000 := wt_at (fun u hu => Nat.le_trans (wt_unpack e u hu) hw) (by decide) 0
  have hun := unseal_ok true ak (at_ l 0) 45 (by decide) (by decide) (wt_fit _ hl0)
  have hwu : wt (unsealT ak 45 (at_ l 0)).1 ≤ 1000000000 := Nat.le_trans wt_unseal hl0
  simp only
  revert hun hwu
  generalize unsealT ak 45 (at_ l 0) = x
  obtain ⟨x, e1⟩ := x
  intro hun hwu
  show K true _ _ (hitR (if e1 = 0 then _ else _))
  by_cases he : e1 = 0
  ·rw [if_pos he]
   subst he
   have h' := unpack_ok true codeW 2 x (by decide) (wt_fit x hwu)
   cases e' : unpackT codeW 2 x with
   | none =>
    rw [e'] at h'
    refine PC_of_vc (cx_ok true) (mixed true) { ps := psT [(4, [14])] } Tryz.func139 (by kernel_rfl) rfl rfl (by kernel_rfl) ?_
    refine goL ?_
    refine ⟨_, CallVC.pr h rfl rfl, ?_⟩
    refine goL ?_
    refine ⟨_, tmvs_at (l := l) (i := 0) (by omega), rfl, rfl, ?_⟩
    refine goL ?_
    refine ⟨_, CallVC.pr hun rfl rfl, ?_⟩
    refine goL ?_
    refine ⟨_, CallVC.pr h' rfl rfl, ?_⟩
    refine goL ?_
    exact ⟨LEP.refl _, LEP.refl _, trivial⟩
   | some r =>
    rw [e'] at h'
    have hr := unpackT_len e'
    have hrw : ∀ i, wt (at_ r i) ≤ 1000000000 := fun i => wt_at (fun u hu => Nat.le_trans (wt_unpack e' u hu) hwu) (by decide) i
    have hs0 := same_ok true (at_ r 0) (wt_fit _ (hrw 0)) nonce
    have htr := tokright_ok true t
    simp only
    by_cases h3 : at_ r 0 = nonce
    ·rw [if_pos h3]
     cases h4 : tokRight t with
     | false =>
      rw [h4] at htr
      rw [if_neg (by decide)]
      refine PC_of_vc (cx_ok true) (mixed true) { ps := psT [(4, [14])] } Tryz.func139 (by kernel_rfl) rfl rfl (by kernel_rfl) ?_
      refine goL ?_
      refine ⟨_, CallVC.pr h rfl rfl, ?_⟩
      refine goL ?_
      refine ⟨_, tmvs_at (l := l) (i := 0) (by omega), rfl, rfl, ?_⟩
      refine goL ?_
      refine ⟨_, CallVC.pr hun rfl rfl, ?_⟩
      refine goL ?_
      refine ⟨_, CallVC.pr h' rfl rfl, ?_⟩
      refine goL ?_
      refine ⟨_, tmvs_at (l := r) (i := 0) (by omega), rfl, rfl, ?_⟩
      refine goL ?_
      refine ⟨_, CallVC.pr hs0 rfl rfl, ?_⟩
      refine goL ?_
      refine @bool_rec _ _ _ ?_ ?_ <;> intro h5
      ·exact absurd h3 (by simpa using h5)
      refine goL ?_
      refine ⟨_, CallVC.pr htr rfl rfl, ?_⟩
      refine goL ?_
      exact ⟨LEP.refl _, LEP.refl _, trivial⟩
     | true =>
      rw [h4] at htr
      rw [if_pos rfl]
      have hsp := tokRight_spec h4
      have hml := mayL_len h4
      have hd := deleteB_ok 184 r seed (fun c => !decide (at_ r 1 = numT seed otpW c)) (Lib.compact (sortI (mayL t))) (by have := mays_len h4; omega) fun z hz => hitscl_ok r seed z (by omega) (wt_fit _ (hrw 1)) (by have := mayL_bd h4 z (mays_mem hz); omega) (by have := mayL_bd h4 z (mays_mem hz); omega)
      have hf : ((Lib.compact (sortI (mayL t))).filter fun z => !(fun c => !decide (at_ r 1 = numT seed otpW c)) z) = hitsL t fun c => decide (at_ r 1 = numT seed otpW c) := by
       unfold hitsL
       congr 1
       funext z
       simp
      rw [hf] at hd
      have hsl : (sortI (mayL t)).length = (mayL t).length := List.length_mergeSort _
      have h0 : 0 < (mayL t).length := by rw [mayL]; simp
      have hso := sortI_ok (mayL t) h0 (by omega)
      have hco := compactI_ok (sortI (mayL t)) (by omega) (by omega)
      refine PC_of_vc (cx_ok true) (mixed true) { ps := psT [(4, [14])], own := fun q => Nat.beq q 58 || Nat.beq q 76 || Nat.beq q 100078 || Nat.beq q 100080 || Nat.beq q 100082 } Tryz.func139 (by kernel_rfl) rfl rfl (by kernel_rfl) ?_
      refine goL ?_
      refine ⟨_, CallVC.pr h rfl rfl, ?_⟩
      refine goL ?_
      refine ⟨_, tmvs_at (l := l) (i := 0) (by omega), rfl, rfl, ?_⟩
      refine goL ?_
      refine ⟨_, CallVC.pr hun rfl rfl, ?_⟩
      refine goL ?_
      refine ⟨_, CallVC.pr h' rfl rfl, ?_⟩
      refine goL ?_
      refine ⟨_, tmvs_at (l := r) (i := 0) (by omega), rfl, rfl, ?_⟩
      refine goL ?_
      refine ⟨_, CallVC.pr hs0 rfl rfl, ?_⟩
      refine goL ?_
      refine @bool_rec _ _ _ ?_ ?_ <;> intro h5
      ·exact absurd h3 (by simpa using h5)
      refine goL ?_
      refine ⟨_, CallVC.pr htr rfl rfl, ?_⟩
      refine goL ?_
      refine ⟨Rd (t.look + t.sync + 1).toNat, fun i => S.of [(8, .ptr 8 0), (9, .ptr 9 0), (16, .ptr 16 0), (17, .slc 58), (18, iv (t.counter + (i.1 : Int)))] [(8, .var true 26 (tv seed)), (9, .var true 29 (.p t.pv)), (16, .var true 24 (.p (.lst (tmvs r)))), (58, .row 3 1 (ints (t.pending :: ctrL t.counter i.1)))], fun i => (t.look + t.sync + 1).toNat - i.1, Rd.zero _, ?_, ?_⟩
      ·refine Ge.of rfl ?_ ?_
       ·repeat (conv => whnf); refine ⟨by first | exact LE.of rfl | exact LE.of (congrArg iv (Int.add_zero t.counter).symm), ?_⟩
        trivial
       ·repeat (conv => whnf); refine ⟨OLE.of rfl, ?_⟩
        trivial
      rintro ⟨i, hi⟩
      refine goL ?_
      refine ⟨t.counter + t.look, wrapI (k := t.counter + t.look) (by omega) (by omega) rfl, ?_⟩
      refine goL ?_
      refine ⟨t.counter + t.look + t.sync, wrapI (k := t.counter + t.look + t.sync) (by omega) (by omega) rfl, ?_⟩
      refine goL ?_
      refine @bool_rec _ _ _ ?_ ?_ <;> intro h6
      ·have h6 : t.counter + (i : Int) ≤ t.counter + t.look + t.sync := of_decide_eq_true h6
       have hrow : ints (t.pending :: ctrL t.counter i) ++ [.int .i64 (t.counter + (i : Int))] = ints (t.pending :: ctrL t.counter (i + 1)) := by
        rw [ctrL_succ, ← List.cons_append, ints_app]
        rfl
       refine goL ?_
       refine ⟨by show ((ints (t.pending :: ctrL t.counter i)).length + 1) * 8 ≤ _; rw [ints_len, List.length_cons, ctrL_len]; omega, ?_⟩
       refine goL ?_
       refine ⟨t.counter + ((i + 1 : Nat) : Int), wrapI (k := t.counter + (i : Int) + 1) (by omega) (by omega) (by omega), ?_⟩
       refine goL ?_
       refine ⟨⟨i + 1, by omega⟩, ?_, by show (t.look + t.sync + 1).toNat - (i + 1) < (t.look + t.sync + 1).toNat - i; omega⟩
       refine Ge.of rfl ?_ ?_
       ·repeat (conv => whnf); refine ⟨LE.of rfl, ?_⟩
        trivial
       ·conv => whnf
        refine ⟨OLE.of rfl, OLE.of rfl, OLE.of rfl, OLE.of (congrArg (AO.row 3 1) hrow), ?_⟩
        trivial
      ·have h6 : ¬ t.counter + (i : Int) ≤ t.counter + t.look + t.sync := of_decide_eq_false h6
       have hi2 : i = (t.look + t.sync + 1).toNat := by omega
       subst hi2
       refine goL ?_
       refine ⟨_, MCallVC.pr (gn [(2104, 58)]) hso ⟨LE.of rfl, trivial⟩ (by (conv => whnf); exact ⟨.inr (.inl rfl), trivial⟩) rfl, ?_⟩
       refine goL ?_
       refine ⟨_, MCallVC.pr (gn [(1001, 58)]) hco ⟨LE.of rfl, trivial⟩ (by (conv => whnf); exact ⟨.inr (.inl rfl), trivial⟩) rfl, ?_⟩
       refine goL ?_
       refine ⟨_, MCallVC.pr (gn [(2101, 16), (2102, 8), (1001, 58)]) hd ⟨LE.of rfl, LE.of rfl, trivial⟩ (by (conv => whnf); exact ⟨.inr (.inr (.inr ⟨_, _, _, rfl, rfl, LE.refl _⟩)), .inr (.inr (.inr ⟨_, _, _, rfl, rfl, LE.refl _⟩)), .inr (.inl rfl), trivial⟩) rfl, ?_⟩
       refine goL ?_
       exact ⟨LEP.refl _, LEP.refl _, trivial⟩
    ·rw [if_neg h3]
     refine PC_of_vc (cx_ok true) (mixed true) { ps := psT [(4, [14])] } Tryz.func139 (by kernel_rfl) rfl rfl (by kernel_rfl) ?_
     refine goL ?_
     refine ⟨_, CallVC.pr h rfl rfl, ?_⟩
     refine goL ?_
     refine ⟨_, tmvs_at (l := l) (i := 0) (by omega), rfl, rfl, ?_⟩
     refine goL ?_
     refine ⟨_, CallVC.pr hun rfl rfl, ?_⟩
     refine goL ?_
     refine ⟨_, CallVC.pr h' rfl rfl, ?_⟩
     refine goL ?_
     refine ⟨_, tmvs_at (l := r) (i := 0) (by omega), rfl, rfl, ?_⟩
     refine goL ?_
     refine ⟨_, CallVC.pr hs0 rfl rfl, ?_⟩
     refine goL ?_
     refine @bool_rec _ _ _ ?_ ?_ <;> intro h5
     ·refine goL ?_
      exact ⟨LEP.refl _, LEP.refl _, trivial⟩
     ·exact absurd (by simpa using h5) h3
  ·rw [if_neg he]
   refine PC_of_vc (cx_ok true) (mixed true) { ps := psT [(4, [14])] } Tryz.func139 (by kernel_rfl) rfl rfl (by kernel_rfl) ?_
   refine goL ?_
   refine ⟨_, CallVC.pr h rfl rfl, ?_⟩
   refine goL ?_
   refine ⟨_, tmvs_at (l := l) (i := 0) (by omega), rfl, rfl, ?_⟩
   refine goL ?_
   refine ⟨_, CallVC.pr hun rfl rfl, ?_⟩
   refine goL ?_
   refine @bool_rec _ _ _ ?_ ?_ <;> intro h2
   ·refine goL ?_
    exact ⟨LEP.refl _, LEP.refl _, trivial⟩
   ·exact absurd (by simpa using h2) he
end Go.Sl
namespace Go.Sl
open Go Go.Vc Go.Proofs Go.RowKit
structure Us where
 name : Bs
 key : Tm
 set : List Bs
 seed : Tm
 tok : Tok
 fails : Int
abbrev Us.pv (u : Us) : PV := .agg [.str u.name, .int .i64 u.key.kind, .str u.key.name, .lst (tmvs u.key.kids), .lst (strL u.set), .int .i64 u.seed.kind, .str u.seed.name, .lst (tmvs u.seed.kids), .int .i64 u.tok.counter, .int .i64 u.tok.look, .int .i64 u.tok.sync, .int .i64 u.tok.pending, .int .i64 u.tok.fails, .int .i64 u.tok.limit, .int .i64 u.fails]
def usL (l : List Us) : List PV := l.map Us.pv
theorem usL_len (l : List Us) : (usL l).length = l.length := List.length_map _
theorem usL_get {l : List Us} {i : Nat} (h : i < l.length) : (usL l)[i]? = some (l[i]).pv := by
 rw [usL, List.getElem?_map, List.getElem?_eq_getElem h]
 rfl
theorem cloneS_ok (b : Bool) (zs : List Bs) (hz : zs.length ≤ 1000000000) : K b 43 [.p (.lst (strL zs))] (.fresh 9 1 (strL zs)) := by
 refine PC_of_vc (cx_ok b) (mixed b) { own := fun q => Nat.beq q 2 || Nat.beq q 5 || Nat.beq q 7, kp := kpT [(2, [0], []), (3, [0], [])] } Tryz.func43 (by kernel_rfl) rfl rfl (by kernel_rfl) ?_
 refine goL ?_
 refine ⟨fun h => ?_, ?_⟩
 ·refine goL ?_
  rw [h]
 ·refine goL ?_
  refine ⟨strL_sz zs, ?_⟩
  refine goL ?_
  refine ⟨by rw [strL_length]; show (0 + zs.length) * 16 ≤ _; omega, ?_⟩
  refine goL ?_
  exact rfl
theorem own_ok (u : Us) (hs : u.set.length ≤ 1000000000) : K true 68 [.p u.pv] (.pv u.pv) := by
 refine PC_of_vc (cx_ok true) (mixed true) { own := fun q => Nat.beq q 5 } Tryz.func68 (by kernel_rfl) rfl rfl (by kernel_rfl) ?_
 refine goL ?_
 refine ⟨_, CallVC.pr (cloneS_ok true u.set hs) rfl rfl, ?_⟩
 refine goL ?_
 exact LEP.refl _
def mechsL : List Bs := [chW, otpM, spW]
theorem mechs_ok : K true 120 [] (.pv (.lst (strL mechsL))) := by
 refine PC_of_vc (cx_ok true) (mixed true) {} Tryz.func120 (by kernel_rfl) rfl rfl (by kernel_rfl) ?_
 refine goL ?_
 exact LEP.refl _
theorem indexS_ok (zs : List Bs) (s : Bs) (hz : zs.length ≤ 1000000000) : K true 171 [.p (.lst (strL zs)), sv s] (.pv (.int .i64 (if s ∈ zs then ((zs.idxOf s : Nat) : Int) else -1))) := by
 refine PC_of_vc (cx_ok true) (mixed true) {} Tryz.func171 (by kernel_rfl) rfl rfl (by kernel_rfl) ?_
 refine goL ?_
 refine ⟨{ i : Rd zs.length // ∀ z ∈ zs.take i.1, z ≠ s }, fun i => S.of [(0, .p (.lst (strL zs))), (1, sv s), (7, iv ((strL zs).length : Int)), (8, iv (i.1.1 : Int))] [], fun i => zs.length - i.1.1, ⟨Rd.zero _, by simp [Rd.zero]⟩, ?_, ?_⟩
 ·exact Ge.go
 rintro ⟨⟨i, hi⟩, hno⟩
 refine goL ?_
 refine @bool_rec _ _ _ ?_ ?_ <;> intro h1
 ·have hlt : i < zs.length := by have := of_decide_eq_true h1; rw [strL_length] at this; exact Int.ofNat_lt.1 this
  refine goL ?_
  refine ⟨Int.natCast_nonneg _, .str zs[i], by show (strL zs)[i]? = _; simp [strL, hlt], rfl, rfl, ?_⟩
  refine goL ?_
  refine @bool_rec _ _ _ ?_ ?_ <;> intro h2
  ·have h2 : s = zs[i] := by simpa using h2
   have hm : s ∈ zs := h2 ▸ List.getElem_mem hlt
   have hix : zs.idxOf s = i := by
    rw [List.idxOf, List.findIdx_eq hlt]
    refine ⟨by simp [h2], fun j hj => ?_⟩
    have := hno zs[j] (List.mem_take_iff_getElem.2 ⟨j, by have hj : j < i := hj; show j < min i _; omega, rfl⟩)
    simpa using this
   rw [if_pos hm, hix]
   refine goL ?_
   exact LEP.refl _
  ·have h2 : ¬ s = zs[i] := by simpa using h2
   refine goL ?_
   refine ⟨_, wrapN (n := i + 1) rfl (by omega), ?_⟩
   refine goL ?_
   refine ⟨⟨⟨i + 1, hlt⟩, ?_⟩, ?_, by show zs.length - (i + 1) < zs.length - i; omega⟩
   ·intro t ht
    rw [List.take_succ_eq_append_getElem hlt, List.mem_append, List.mem_singleton] at ht
    rcases ht with ht | rfl
    ·exact hno t ht
    ·exact fun e => h2 e.symm
   ·exact Ge.go
 ·have hge : zs.take i = zs := by have := of_decide_eq_false h1; rw [strL_length] at this; have h2 : ¬ ((i : Int) < zs.length) := this; exact List.take_of_length_le (by omega)
  have hm : ¬ s ∈ zs := fun h => hno s (by rw [hge]; exact h) rfl
  rw [if_neg hm]
  refine goL ?_
  exact LEP.refl _
theorem containsS_ok (zs : List Bs) (s : Bs) (hz : zs.length ≤ 1000000000) : K true 121 [.p (.lst (strL zs)), sv s] (.pv (.bool (decide (s ∈ zs)))) := by
 refine PC_of_vc (cx_ok true) (mixed true) {} Tryz.func121 (by kernel_rfl) rfl rfl (by kernel_rfl) ?_
 refine goL ?_
 refine ⟨_, CallVC.pr (indexS_ok zs s hz) rfl rfl, ?_⟩
 refine goL ?_
 refine LEP.of (congrArg PV.bool (decide_eq_decide.2 ?_))
 by_cases h : s ∈ zs
 ·rw [if_pos h]
  exact ⟨fun _ => h, fun _ => Int.natCast_nonneg _⟩
 ·rw [if_neg h]
  exact ⟨fun h => absurd h (by decide), fun h' => absurd h' h⟩
def usN (u : Us) (i : Nat) : Nat := ((mechsL.take i).filter fun m => decide (m ∈ u.set)).length
def usRight (u : Us) : Bool := !decide (u.name = []) && (decide (0 < usN u 3) && (decide (usN u 3 = u.set.length) && (decide (0 ≤ u.fails) && (decide (u.fails ≤ 1099511627776) && tokRight u.tok))))
theorem usN_le (u : Us) (i : Nat) : usN u i ≤ 3 := by
 have h1 := List.length_filter_le (fun m => decide (m ∈ u.set)) (mechsL.take i)
 have h2 : (mechsL.take i).length ≤ 3 := by rw [List.length_take]; exact Nat.min_le_right _ _
 exact Nat.le_trans h1 h2
theorem usN_succ (u : Us) (i : Nat) (h : i < mechsL.length) : usN u (i + 1) = if mechsL[i] ∈ u.set then usN u i + 1 else usN u i := by
 rw [usN, List.take_succ_eq_append_getElem h, List.filter_append, List.length_append]
 by_cases h2 : mechsL[i] ∈ u.set
 ·rw [if_pos h2, List.filter_cons_of_pos (by simpa using h2)]
  rfl
 ·rw [if_neg h2, List.filter_cons_of_neg (by simpa using h2)]
  rfl
theorem usright_ok (u : Us) (hs : u.set.length ≤ 1000000000) : K true 67 [.p u.pv] (.pv (.bool (usRight u))) := by
 have htr := tokright_ok true u.tok
 unfold usRight
 refine PC_of_vc (cx_ok true) (mixed true) {} Tryz.func67 (by kernel_rfl) rfl rfl (by kernel_rfl) ?_
 refine goL ?_
 refine ⟨_, CallVC.pr mechs_ok rfl rfl, ?_⟩
 refine goL ?_
 refine ⟨Rd mechsL.length, fun i => S.of [(1, .ptr 1 0), (3, iv (usN u i.1 : Int)), (6, .p (.lst (strL mechsL))), (7, iv ((strL mechsL).length : Int)), (8, iv (i.1 : Int))] [(1, .var true 31 (.p u.pv))], fun i => mechsL.length - i.1, Rd.zero _, ?_, ?_⟩
 ·exact Ge.go
 rintro ⟨i, hi⟩
 refine goL ?_
 refine @bool_rec _ _ _ ?_ ?_ <;> intro h1
 ·have hlt : i < mechsL.length := by have := of_decide_eq_true h1; rw [strL_length] at this; exact Int.ofNat_lt.1 this
  refine goL ?_
  refine ⟨Int.natCast_nonneg _, .str mechsL[i], by show (strL mechsL)[i]? = _; simp [strL, hlt], rfl, rfl, ?_⟩
  refine goL ?_
  refine ⟨_, CallVC.pr (containsS_ok u.set mechsL[i] hs) rfl rfl, ?_⟩
  refine goL ?_
  have hn := usN_succ u i hlt
  refine @bool_rec _ _ _ ?_ ?_ <;> intro h2
  ·rw [if_pos (of_decide_eq_true h2)] at hn
   refine goL ?_
   refine ⟨_, wrapN (n := usN u (i + 1)) (by rw [hn]; rfl) (by have := usN_le u (i + 1); omega), ?_⟩
   refine goL ?_
   refine ⟨_, wrapN (n := i + 1) rfl (by have : mechsL.length = 3 := rfl; omega), ?_⟩
   refine goL ?_
   refine ⟨⟨i + 1, hlt⟩, ?_, by show mechsL.length - (i + 1) < mechsL.length - i; omega⟩
   exact Ge.go
  ·rw [if_neg (of_decide_eq_false h2)] at hn
   refine goL ?_
   refine ⟨_, wrapN (n := i + 1) rfl (by have : mechsL.length = 3 := rfl; omega), ?_⟩
   refine goL ?_
   refine ⟨⟨i + 1, hlt⟩, ?_, by show mechsL.length - (i + 1) < mechsL.length - i; omega⟩
   refine Ge.of rfl ?_ ?_
   ·conv => whnf
    refine ⟨LE.of rfl, ?_⟩
    conv => whnf
    refine ⟨LE.of (by rw [hn]), ?_⟩
    repeat (conv => whnf); refine ⟨LE.of rfl, ?_⟩
    trivial
   ·repeat (conv => whnf); refine ⟨OLE.of rfl, ?_⟩
    trivial
 ·have hge : i = 3 := by have := of_decide_eq_false h1; rw [strL_length] at this; have h3 : mechsL.length = 3 := rfl; have h2 : ¬ ((i : Int) < mechsL.length) := this; have hi : i ≤ mechsL.length := hi; omega
  subst hge
  have hsm : ((usN u 3 : Nat) : Int) = (u.set.length : Int) ↔ usN u 3 = u.set.length := Int.ofNat_inj
  refine goL ?_
  refine @bool_rec _ _ _ ?_ ?_ <;> intro g1
  ·have g1 : ¬ u.name = [] := of_decide_eq_true g1
   refine goL ?_
   refine @bool_rec _ _ _ ?_ ?_ <;> intro g2
   ·have g2 : 0 < usN u 3 := Int.ofNat_lt.1 (of_decide_eq_true g2)
    refine goL ?_
    refine @bool_rec _ _ _ ?_ ?_ <;> intro g3
    ·have g3 : usN u 3 = u.set.length := hsm.1 (by have := of_decide_eq_true g3; rw [strL_length] at this; exact this)
     refine goL ?_
     refine @bool_rec _ _ _ ?_ ?_ <;> intro g4
     ·have g4 : 0 ≤ u.fails := of_decide_eq_true g4
      refine goL ?_
      refine @bool_rec _ _ _ ?_ ?_ <;> intro g5
      ·have g5 : u.fails ≤ 1099511627776 := of_decide_eq_true g5
       refine goL ?_
       refine ⟨_, CallVC.pr htr rfl rfl, ?_⟩
       refine goL ?_
       exact LEP.of (congrArg PV.bool (by simp [g1, g2, ← g3, g4, g5]))
      ·have g5 : ¬ u.fails ≤ 1099511627776 := of_decide_eq_false g5
       refine goL ?_
       exact LEP.of (congrArg PV.bool (by simp [g5]))
     ·have g4 : ¬ 0 ≤ u.fails := of_decide_eq_false g4
      refine goL ?_
      exact LEP.of (congrArg PV.bool (by simp [g4]))
    ·have g3 : ¬ usN u 3 = u.set.length := fun h => of_decide_eq_false g3 (by rw [strL_length]; exact hsm.2 h)
     refine goL ?_
     exact LEP.of (congrArg PV.bool (by simp [g3]))
   ·have g2 : ¬ 0 < usN u 3 := fun h => of_decide_eq_false g2 (Int.ofNat_lt.2 h)
    refine goL ?_
    exact LEP.of (congrArg PV.bool (by simp [g2]))
  ·have g1 : u.name = [] := by simpa using g1
   refine goL ?_
   exact LEP.of (congrArg PV.bool (by simp [g1]))
end Go.Sl
namespace Go.Sl
open Go Go.Vc Go.Proofs Go.RowKit
def uix (name : Bs) (l : List Us) : Nat := l.findIdx fun u => decide (u.name = name)
theorem uix_at {name : Bs} {l : List Us} {i : Nat} (h : i < l.length) (hno : ∀ u ∈ l.take i, u.name ≠ name) (he : l[i].name = name) : uix name l = i := by
 rw [uix, List.findIdx_eq h]
 refine ⟨by simpa using he, fun j hj => ?_⟩
 have := hno l[j] (List.mem_take_iff_getElem.2 ⟨j, by omega, rfl⟩)
 simpa using this
theorem uix_no {name : Bs} {l : List Us} (hno : ∀ u ∈ l, u.name ≠ name) : uix name l = l.length := by
 rw [uix, List.findIdx_eq_length]
 intro u hu
 simpa using hno u hu
theorem usL_set (l : List Us) (i : Nat) (u : Us) : usL (l.set i u) = (usL l).set i u.pv := List.map_set
abbrev usO (l : List Us) : List (Nat × AO) := [(2013, .row 31 15 (usL l))]
abbrev bsO (l : List Us) : List (Nat × AO) := [(2011, .var true 135 (.mix [.slc 2013])), (2013, .row 31 15 (usL l))]
theorem thecl_ok (u : Us) (name : Bs) : PM (cx true) 170 [(2101, .var false 9 (sv name))] [.p u.pv, .ptr 2101 0] [] (.p (.bool (decide (u.name = name)))) := by
 refine PM_of_vc (cx_ok true) (mixed true) {} Tryz.func170 (by kernel_rfl) rfl rfl (by kernel_rfl) ?_ ?_
 ·rfl
 refine goL ?_
 exact ⟨gI, ⟨rfl, LE.of rfl⟩, trivial, rfl, rfl⟩
theorem indexU_ok (l : List Us) (name : Bs) (hl : l.length ≤ 1000000) : PM (cx true) 169 ((2101, .var false 9 (sv name)) :: usO l) [.slc 2013, .fn 170 [.ptr 2101 0]] (usO l) (iv (if uix name l < l.length then ((uix name l : Nat) : Int) else -1)) := by
 refine PM_of_vc (cx_ok true) (mixed true) { own := fun q => Nat.beq q 100016 } Tryz.func169 (by kernel_rfl) rfl rfl (by kernel_rfl) ?_ ?_
 ·rfl
 refine goL ?_
 refine ⟨{ i : Rd l.length // ∀ u ∈ l.take i.1, u.name ≠ name }, fun i => Vc.S.of [(0, .slc 2013), (1, .fn 170 [.ptr 2101 0]), (7, iv ((usL l).length : Int)), (8, iv (i.1.1 : Int))] ((2101, .var false 9 (sv name)) :: usO l), fun i => l.length - i.1.1, ⟨Rd.zero _, by simp [Rd.zero]⟩, ?_, ?_⟩
 ·exact Ge.go
 rintro ⟨⟨i, hi⟩, hno⟩
 refine goL ?_
 refine @bool_rec _ _ _ ?_ ?_ <;> intro h1
 ·have hlt : i < l.length := by have := of_decide_eq_true h1; rw [usL_len] at this; exact Int.ofNat_lt.1 this
  refine goL ?_
  refine ⟨Int.natCast_nonneg _, by rw [usL_len]; exact hlt, ?_⟩
  refine goL ?_
  refine ⟨_, usL_get hlt, rfl, rfl, rfl, ?_⟩
  refine goL ?_
  refine ⟨_, MCallVC.pr gI (thecl_ok l[i] name) ⟨LE.of rfl, LE.of rfl, trivial⟩ (by (conv => whnf); exact ⟨.inr (.inl rfl), trivial⟩) rfl, ?_⟩
  refine goL ?_
  refine @bool_rec _ _ _ ?_ ?_ <;> intro h2
  ·have h2 : l[i].name = name := of_decide_eq_true h2
   have hix := uix_at hlt hno h2
   refine goL ?_
   exact ⟨gI, ⟨rfl, LE.of (by rw [hix, if_pos hlt]; rfl)⟩, ⟨.inr (.inl rfl), trivial⟩, rfl, rfl⟩
  ·have h2 : ¬ l[i].name = name := of_decide_eq_false h2
   refine goL ?_
   refine ⟨_, wrapN (n := i + 1) rfl (by omega), ?_⟩
   refine goL ?_
   refine ⟨⟨⟨i + 1, hlt⟩, ?_⟩, ?_, by show l.length - (i + 1) < l.length - i; omega⟩
   ·intro t ht
    rw [List.take_succ_eq_append_getElem hlt, List.mem_append, List.mem_singleton] at ht
    rcases ht with ht | rfl
    ·exact hno t ht
    ·exact h2
   ·exact Ge.go
 ·have hge : l.take i = l := by have := of_decide_eq_false h1; rw [usL_len] at this; have h2 : ¬ ((i : Int) < l.length) := this; exact List.take_of_length_le (by omega)
  have hix := uix_no (name := name) (l := l) fun u hu => hno u (by rw [hge]; exact hu)
  refine goL ?_
  exact ⟨gI, ⟨rfl, LE.of (by rw [hix, if_neg (Nat.lt_irrefl _)]; rfl)⟩, ⟨.inr (.inl rfl), trivial⟩, rfl, rfl⟩
theorem the_some (l : List Us) (name : Bs) (hl : l.length ≤ 1000000) (h : uix name l < l.length) : PM (cx true) 119 (bsO l) [.ptr 2011 0, sv name] (bsO l) (.rowE 2013 15 (uix name l)) := by
 have hi := indexU_ok l name hl
 rw [if_pos h] at hi
 refine PM_of_vc (cx_ok true) (mixed true) { own := fun q => Nat.beq q 100011 } Tryz.func119 (by kernel_rfl) rfl rfl (by kernel_rfl) ?_ ?_
 ·rfl
 refine goL ?_
 refine ⟨_, MCallVC.pr (gn [(2101, 3)]) hi ⟨LE.of rfl, LE.of rfl, trivial⟩ (by (conv => whnf); exact ⟨.inr (.inr (.inr ⟨_, _, _, rfl, rfl, LE.refl _⟩)), .inr (.inl rfl), trivial⟩) rfl, ?_⟩
 refine goL ?_
 refine ⟨Int.natCast_nonneg _, by rw [usL_len]; exact h, ?_⟩
 refine goL ?_
 exact ⟨gI, ⟨rfl, LE.of rfl⟩, ⟨.inr (.inl rfl), .inr (.inl rfl), trivial⟩, rfl, rfl⟩
abbrev nilP : PV := .exact (.pointer none)
theorem the_none (l : List Us) (name : Bs) (hl : l.length ≤ 1000000) (h : ¬ uix name l < l.length) : PM (cx true) 119 (bsO l) [.ptr 2011 0, sv name] (bsO l) (.p nilP) := by
 have hi := indexU_ok l name hl
 rw [if_neg h] at hi
 refine PM_of_vc (cx_ok true) (mixed true) { own := fun q => Nat.beq q 100011 } Tryz.func119 (by kernel_rfl) rfl rfl (by kernel_rfl) ?_ ?_
 ·rfl
 refine goL ?_
 refine ⟨_, MCallVC.pr (gn [(2101, 3)]) hi ⟨LE.of rfl, LE.of rfl, trivial⟩ (by (conv => whnf); exact ⟨.inr (.inr (.inr ⟨_, _, _, rfl, rfl, LE.refl _⟩)), .inr (.inl rfl), trivial⟩) rfl, ?_⟩
 refine goL ?_
 exact ⟨gI, ⟨rfl, LE.of rfl⟩, ⟨.inr (.inl rfl), .inr (.inl rfl), trivial⟩, rfl, rfl⟩
def us0 : Us := ⟨[], zeroT, [], zeroT, ⟨0, 0, 0, 0, 0, 0⟩, 0⟩
def getU (name : Bs) (l : List Us) : Us × Bool := if h : uix name l < l.length then (l[uix name l], true) else (us0, false)
abbrev usb (x : Us × Bool) : SV := .tupS [.p x.1.pv, .p (.bool x.2)]
theorem LE_us0 : LE (.p (.agg [.str [], .int .i64 0, .str [], .nilS, .nilS, .int .i64 0, .str [], .nilS, .int .i64 0, .int .i64 0, .int .i64 0, .int .i64 0, .int .i64 0, .int .i64 0, .int .i64 0])) (.p us0.pv) :=
 LE_agg ⟨LEP.refl _, LEP.refl _, LEP.refl _, LEP_nil, LEP_nil, LEP.refl _, LEP.refl _, LEP_nil, LEP.refl _, LEP.refl _, LEP.refl _, LEP.refl _, LEP.refl _, LEP.refl _, LEP.refl _, trivial⟩
theorem get_ok (l : List Us) (name : Bs) (hl : l.length ≤ 1000000) (hs : ∀ u ∈ l, u.set.length ≤ 1000000000) : PM (cx true) 66 (bsO l) [.ptr 2011 0, sv name] (bsO l) (usb (getU name l)) := by
 by_cases h : uix name l < l.length
 ·rw [getU, dif_pos h]
  refine PM_of_vc (cx_ok true) (mixed true) { own := fun q => Nat.beq q 100009 } Tryz.func66 (by kernel_rfl) rfl rfl (by kernel_rfl) ?_ ?_
  ·rfl
  refine goL ?_
  refine ⟨_, MCallVC.pr gI (the_some l name hl h) ⟨LE.of rfl, LE.of rfl, trivial⟩ (by (conv => whnf); exact ⟨.inr (.inl rfl), .inr (.inl rfl), trivial⟩) rfl, ?_⟩
  refine goL ?_
  refine ⟨_, usL_get h, rfl, rfl, rfl, ?_⟩
  refine goL ?_
  refine ⟨_, CallVC.pr (own_ok l[uix name l] (hs _ (List.getElem_mem h))) rfl rfl, ?_⟩
  refine goL ?_
  exact ⟨gI, ⟨rfl, LE.of rfl, rfl, LE.of rfl, trivial⟩, ⟨.inr (.inl rfl), .inr (.inl rfl), trivial⟩, rfl, rfl⟩
 ·rw [getU, dif_neg h]
  refine PM_of_vc (cx_ok true) (mixed true) { own := fun q => Nat.beq q 100009 } Tryz.func66 (by kernel_rfl) rfl rfl (by kernel_rfl) ?_ ?_
  ·rfl
  refine goL ?_
  refine ⟨_, MCallVC.pr gI (the_none l name hl h) ⟨LE.of rfl, LE.of rfl, trivial⟩ (by (conv => whnf); exact ⟨.inr (.inl rfl), .inr (.inl rfl), trivial⟩) rfl, ?_⟩
  refine goL ?_
  exact ⟨gI, ⟨rfl, LE_us0, rfl, LE.of rfl, trivial⟩, ⟨.inr (.inl rfl), .inr (.inl rfl), trivial⟩, rfl, rfl⟩
def lockedU (name : Bs) (l : List Us) : Bool := if h : uix name l < l.length then decide (5 ≤ l[uix name l].fails) else true
theorem locked_ok (l : List Us) (name : Bs) (hl : l.length ≤ 1000000) : PM (cx true) 86 (bsO l) [.ptr 2011 0, sv name] (bsO l) (.p (.bool (lockedU name l))) := by
 by_cases h : uix name l < l.length
 ·rw [lockedU, dif_pos h]
  refine PM_of_vc (cx_ok true) (mixed true) { own := fun q => Nat.beq q 100008 } Tryz.func86 (by kernel_rfl) rfl rfl (by kernel_rfl) ?_ ?_
  ·rfl
  refine goL ?_
  refine ⟨_, MCallVC.pr gI (the_some l name hl h) ⟨LE.of rfl, LE.of rfl, trivial⟩ (by (conv => whnf); exact ⟨.inr (.inl rfl), .inr (.inl rfl), trivial⟩) rfl, ?_⟩
  refine goL ?_
  refine ⟨uix name l, 14, _, rfl, usL_get h, rfl, by decide, ?_⟩
  refine goL ?_
  exact ⟨gI, ⟨rfl, LE.of rfl⟩, ⟨.inr (.inl rfl), .inr (.inl rfl), trivial⟩, rfl, rfl⟩
 ·rw [lockedU, dif_neg h]
  refine PM_of_vc (cx_ok true) (mixed true) { own := fun q => Nat.beq q 100008 } Tryz.func86 (by kernel_rfl) rfl rfl (by kernel_rfl) ?_ ?_
  ·rfl
  refine goL ?_
  refine ⟨_, MCallVC.pr gI (the_none l name hl h) ⟨LE.of rfl, LE.of rfl, trivial⟩ (by (conv => whnf); exact ⟨.inr (.inl rfl), .inr (.inl rfl), trivial⟩) rfl, ?_⟩
  refine goL ?_
  exact ⟨gI, ⟨rfl, LE.of rfl⟩, ⟨.inr (.inl rfl), .inr (.inl rfl), trivial⟩, rfl, rfl⟩
theorem failcl_ok (n : Int) (h0 : -9223372036854775808 ≤ n) (h1 : n < 9223372036854775807) : K true 143 [iv n] (.pv (.int .i64 (n + 1))) := by
 refine PC_of_vc (cx_ok true) (mixed true) {} Tryz.func143 (by kernel_rfl) rfl rfl (by kernel_rfl) ?_
 refine goL ?_
 refine ⟨n + 1, wrapI (k := n + 1) (by omega) (by omega) rfl, ?_⟩
 refine goL ?_
 exact LEP.refl _
theorem succcl_ok (n : Int) : K true 148 [iv n] (.pv (.int .i64 0)) := by
 refine PC_of_vc (cx_ok true) (mixed true) {} Tryz.func148 (by kernel_rfl) rfl rfl (by kernel_rfl) ?_
 refine goL ?_
 exact LEP.refl _
def setU (name : Bs) (l : List Us) (g : Int → Int) : List Us := if h : uix name l < l.length then l.set (uix name l) { l[uix name l] with fails := g l[uix name l].fails } else l
def setE (name : Bs) (l : List Us) : Int := if uix name l < l.length then 0 else 3
theorem set_ok (f : FuncId) (g : Int → Int) (l : List Us) (name : Bs) (hl : l.length ≤ 1000000) (hf : ∀ h : uix name l < l.length, K true f [iv (l[uix name l]).fails] (.pv (.int .i64 (g (l[uix name l]).fails)))) :
  PM (cx true) 142 (bsO l) [.ptr 2011 0, sv name, .fn f []] (bsO (setU name l g)) (iv (setE name l)) := by
 by_cases h : uix name l < l.length
 ·rw [setU, dif_pos h, setE, if_pos h]
  refine PM_of_vc (cx_ok true) (mixed true) { own := fun q => Nat.beq q 100010 } Tryz.func142 (by kernel_rfl) rfl rfl (by kernel_rfl) ?_ ?_
  ·rfl
  refine goL ?_
  refine ⟨_, MCallVC.pr gI (the_some l name hl h) ⟨LE.of rfl, LE.of rfl, trivial⟩ (by (conv => whnf); exact ⟨.inr (.inl rfl), .inr (.inl rfl), trivial⟩) rfl, ?_⟩
  refine goL ?_
  refine ⟨uix name l, 14, _, rfl, usL_get h, rfl, by decide, ?_⟩
  refine goL ?_
  refine ⟨_, CallVC.pr (hf h) rfl rfl, ?_⟩
  refine goL ?_
  refine ⟨uix name l, 14, _, rfl, usL_get h, rfl, rfl, by decide, ?_⟩
  refine goL ?_
  have e : (usL l).set (uix name l) (Us.pv { l[uix name l] with fails := g l[uix name l].fails }) = usL (l.set (uix name l) { l[uix name l] with fails := g l[uix name l].fails }) := (usL_set l _ _).symm
  exact ⟨gI, ⟨rfl, LE.of rfl⟩, ⟨.inr (.inl rfl), .inr (.inl (congrArg (AO.row 31 15) e)), trivial⟩, rfl, rfl⟩
 ·rw [setU, dif_neg h, setE, if_neg h]
  refine PM_of_vc (cx_ok true) (mixed true) { own := fun q => Nat.beq q 100010 } Tryz.func142 (by kernel_rfl) rfl rfl (by kernel_rfl) ?_ ?_
  ·rfl
  refine goL ?_
  refine ⟨_, MCallVC.pr gI (the_none l name hl h) ⟨LE.of rfl, LE.of rfl, trivial⟩ (by (conv => whnf); exact ⟨.inr (.inl rfl), .inr (.inl rfl), trivial⟩) rfl, ?_⟩
  refine goL ?_
  exact ⟨gI, ⟨rfl, LE.of rfl⟩, ⟨.inr (.inl rfl), .inr (.inl rfl), trivial⟩, rfl, rfl⟩
theorem fail_ok (l : List Us) (name : Bs) (hl : l.length ≤ 1000000) (hb : ∀ u ∈ l, 0 ≤ u.fails ∧ u.fails < 9223372036854775807) : PM (cx true) 95 (bsO l) [.ptr 2011 0, sv name] (bsO (setU name l (· + 1))) (iv (setE name l)) := by
 have h := set_ok 143 (· + 1) l name hl fun h => failcl_ok _ (by have := hb _ (List.getElem_mem h); omega) (hb _ (List.getElem_mem h)).2
 refine PM_of_vc (cx_ok true) (mixed true) { own := fun q => Nat.beq q 100007 } Tryz.func95 (by kernel_rfl) rfl rfl (by kernel_rfl) ?_ ?_
 ·rfl
 refine goL ?_
 refine ⟨_, MCallVC.pr gI h ⟨LE.of rfl, LE.of rfl, LE.of rfl, trivial⟩ (by (conv => whnf); exact ⟨.inr (.inl rfl), .inr (.inl rfl), trivial⟩) rfl, ?_⟩
 refine goL ?_
 exact ⟨gI, ⟨rfl, LE.of rfl⟩, ⟨.inr (.inl rfl), .inr (.inl rfl), trivial⟩, rfl, rfl⟩
theorem succeed_ok (l : List Us) (name : Bs) (hl : l.length ≤ 1000000) : PM (cx true) 99 (bsO l) [.ptr 2011 0, sv name] (bsO (setU name l fun _ => 0)) (iv (setE name l)) := by
 have h := set_ok 148 (fun _ => 0) l name hl fun h => succcl_ok _
 refine PM_of_vc (cx_ok true) (mixed true) { own := fun q => Nat.beq q 100007 } Tryz.func99 (by kernel_rfl) rfl rfl (by kernel_rfl) ?_ ?_
 ·rfl
 refine goL ?_
 refine ⟨_, MCallVC.pr gI h ⟨LE.of rfl, LE.of rfl, LE.of rfl, trivial⟩ (by (conv => whnf); exact ⟨.inr (.inl rfl), .inr (.inl rfl), trivial⟩) rfl, ?_⟩
 refine goL ?_
 exact ⟨gI, ⟨rfl, LE.of rfl⟩, ⟨.inr (.inl rfl), .inr (.inl rfl), trivial⟩, rfl, rfl⟩
def codeU (name : Bs) (l : List Us) (hits : List Int) : List Us × Int × Int :=
 if h : uix name l < l.length then
  (if 5 ≤ l[uix name l].fails then (l, 0, 7) else (l.set (uix name l) { l[uix name l] with tok := (acceptT l[uix name l].tok hits).1 }, (acceptT l[uix name l].tok hits).2.1, (acceptT l[uix name l].tok hits).2.2))
 else (l, 0, 3)
theorem code_ok (l : List Us) (name : Bs) (hits : List Int) (hl : l.length ≤ 1000000) (hh : hits.length ≤ 1000000) : PM (cx true) 98 (bsO l) [.ptr 2011 0, sv name, .p (.lst (ints hits))] (bsO (codeU name l hits).1) (.tupS [iv (codeU name l hits).2.1, iv (codeU name l hits).2.2]) := by
 have hlk := locked_ok l name hl
 rw [lockedU] at hlk
 by_cases h : uix name l < l.length
 ·rw [codeU, dif_pos h]
  rw [dif_pos h] at hlk
  by_cases h5 : 5 ≤ l[uix name l].fails
  ·rw [if_pos h5]
   rw [decide_eq_true h5] at hlk
   refine PM_of_vc (cx_ok true) (mixed true) { own := fun q => Nat.beq q 100011 || Nat.beq q 100018 } Tryz.func98 (by kernel_rfl) rfl rfl (by kernel_rfl) ?_ ?_
   ·rfl
   refine goL ?_
   refine ⟨_, MCallVC.pr gI (the_some l name hl h) ⟨LE.of rfl, LE.of rfl, trivial⟩ (by (conv => whnf); exact ⟨.inr (.inl rfl), .inr (.inl rfl), trivial⟩) rfl, ?_⟩
   refine goL ?_
   refine ⟨_, MCallVC.pr gI hlk ⟨LE.of rfl, LE.of rfl, trivial⟩ (by (conv => whnf); exact ⟨.inr (.inl rfl), .inr (.inl rfl), trivial⟩) rfl, ?_⟩
   refine goL ?_
   exact ⟨gI, ⟨rfl, LE.of rfl, rfl, LE.of rfl, trivial⟩, ⟨.inr (.inl rfl), .inr (.inl rfl), trivial⟩, rfl, rfl⟩
  ·rw [if_neg h5]
   rw [decide_eq_false h5] at hlk
   have hac := accept_ok l[uix name l].tok hits hh
   refine PM_of_vc (cx_ok true) (mixed true) { own := fun q => Nat.beq q 100011 || Nat.beq q 100018 } Tryz.func98 (by kernel_rfl) rfl rfl (by kernel_rfl) ?_ ?_
   ·rfl
   refine goL ?_
   refine ⟨_, MCallVC.pr gI (the_some l name hl h) ⟨LE.of rfl, LE.of rfl, trivial⟩ (by (conv => whnf); exact ⟨.inr (.inl rfl), .inr (.inl rfl), trivial⟩) rfl, ?_⟩
   refine goL ?_
   refine ⟨_, MCallVC.pr gI hlk ⟨LE.of rfl, LE.of rfl, trivial⟩ (by (conv => whnf); exact ⟨.inr (.inl rfl), .inr (.inl rfl), trivial⟩) rfl, ?_⟩
   refine goL ?_
   refine ⟨uix name l, 8, _, rfl, usL_get h, rfl, by decide, ?_⟩
   refine goL ?_
   refine ⟨_, CallVC.pr hac rfl rfl, ?_⟩
   refine goL ?_
   refine ⟨uix name l, 8, _, rfl, usL_get h, rfl, rfl, by decide, ?_⟩
   refine goL ?_
   have e : (usL l).set (uix name l) (Us.pv { l[uix name l] with tok := (acceptT l[uix name l].tok hits).1 }) = usL (l.set (uix name l) { l[uix name l] with tok := (acceptT l[uix name l].tok hits).1 }) := (usL_set l _ _).symm
   exact ⟨gI, ⟨rfl, LE.of rfl, rfl, LE.of rfl, trivial⟩, ⟨.inr (.inl rfl), .inr (.inl (congrArg (AO.row 31 15) e)), trivial⟩, rfl, rfl⟩
 ·rw [codeU, dif_neg h]
  refine PM_of_vc (cx_ok true) (mixed true) { own := fun q => Nat.beq q 100011 || Nat.beq q 100018 } Tryz.func98 (by kernel_rfl) rfl rfl (by kernel_rfl) ?_ ?_
  ·rfl
  refine goL ?_
  refine ⟨_, MCallVC.pr gI (the_none l name hl h) ⟨LE.of rfl, LE.of rfl, trivial⟩ (by (conv => whnf); exact ⟨.inr (.inl rfl), .inr (.inl rfl), trivial⟩) rfl, ?_⟩
  refine goL ?_
  exact ⟨gI, ⟨rfl, LE.of rfl, rfl, LE.of rfl, trivial⟩, ⟨.inr (.inl rfl), .inr (.inl rfl), trivial⟩, rfl, rfl⟩
end Go.Sl
namespace Go.Sl
open Go Go.Vc Go.Proofs Go.RowKit
structure GoodU (l : List Us) : Prop where
 few : l.length ≤ 32
 right : ∀ u ∈ l, usRight u = true
 apart : ∀ i (h : i < l.length), ¬ uix l[i].name (l.take i) < (l.take i).length
theorem usRight_set {u : Us} (h : usRight u = true) : u.set.length ≤ 3 := by
 simp only [usRight, Bool.and_eq_true, decide_eq_true_eq] at h
 have := usN_le u 3
 omega
theorem bnew_ok (l : List Us) (hg : GoodU l) : PM (cx true) 29 [] [.p (.lst (usL l))] (bsO l) (.tupS [.ptr 2011 0, iv 0]) := by
 have hl := hg.few
 have hset : ∀ u ∈ l, u.set.length ≤ 1000000000 := fun u hu => by have := usRight_set (hg.right u hu); omega
 refine PM_of_vc (cx_ok true) (mixed true) { own := fun q => Nat.beq q 41 || Nat.beq q 100024, nl := fun r => cond (Nat.beq r 4) [(13, 0, 1500, 31, 15)] [], tr := trT [(10, [0, 0, 2, 6, 14, 0, 32, 96, 254, 511, 1023, 2047], .one 1 (.one 2 (.one 3 (.one 4 (.one 5 (.one 6 (.one 7 (.alt (.one 0 (.one 8 (.one 9 (.one 10 (.one 11 (.fin)))))) (.one 8 (.one 0 (.one 9 (.one 10 (.one 11 (.fin))))))))))))))] } Tryz.func29 (by kernel_rfl) rfl rfl (by kernel_rfl) ?_ ?_
 ·rfl
 refine goL ?_
 refine @bool_rec _ _ _ ?_ ?_ <;> intro h1
 ·exact absurd (of_decide_eq_true h1) (by rw [usL_len]; omega)
 refine goL ?_
 refine ⟨Rd l.length, fun i => S.of [(0, .p (.lst (usL l))), (4, .ptr 13 0), (14, .p (.lst (usL l))), (15, iv ((usL l).length : Int)), (16, iv (i.1 : Int))] [(13, .var true 135 (.mix [.slc 1500])), (1500, .row 31 15 (usL (l.take i.1)))], fun i => l.length - i.1, Rd.zero _, ?_, ?_⟩
 ·exact Ge.go
 rintro ⟨i, hi⟩
 refine goL ?_
 refine @bool_rec _ _ _ ?_ ?_ <;> intro h2
 ·have hlt : i < l.length := by have := of_decide_eq_true h2; rw [usL_len] at this; exact Int.ofNat_lt.1 this
  have hmem := List.getElem_mem hlt
  have htl : (l.take i).length = i := by rw [List.length_take]; omega
  have hget := get_ok (l.take i) l[i].name (by omega) fun u hu => hset u (List.mem_of_mem_take hu)
  rw [getU, dif_neg (hg.apart i hlt)] at hget
  have hrt := usright_ok l[i] (hset _ hmem)
  rw [hg.right _ hmem] at hrt
  refine goL ?_
  refine ⟨Int.natCast_nonneg _, _, usL_get hlt, rfl, rfl, ?_⟩
  refine goL ?_
  refine ⟨_, MCallVC.pr (gn [(2011, 13), (2013, 1500)]) hget ⟨LE.of rfl, LE.of rfl, trivial⟩ (by (conv => whnf); exact ⟨.inr (.inl rfl), .inr (.inl rfl), trivial⟩) rfl, ?_⟩
  refine goL ?_
  refine ⟨_, CallVC.pr hrt rfl rfl, ?_⟩
  refine goL ?_
  refine ⟨_, CallVC.pr (own_ok l[i] (hset _ hmem)) rfl rfl, ?_⟩
  have hsz : ((usL (l.take i)).length + 1) * 192 ≤ 140737488355328 := by rw [usL_len, htl]; omega
  have hrow : usL (l.take i) ++ [(l[i]).pv] = usL (l.take (i + 1)) := by
   rw [List.take_succ_eq_append_getElem hlt, usL, usL, List.map_append]
   rfl
  repeat' ((conv => whnf); first | refine IndepAnd (by kernel_rfl) ?_ | refine TreeAnd (by kernel_rfl) ?_ | refine ⟨rfl, ?_⟩ | refine ⟨by decide, ?_⟩ | refine ⟨trivial, ?_⟩ | refine ⟨⟨rfl, trivial⟩, ?_⟩ | refine ⟨Nat.le_of_ble_eq_true rfl, ?_⟩ | refine ⟨⟨_, rfl, rfl⟩, ?_⟩ | refine ⟨⟨rfl, rfl, trivial⟩, ?_⟩ | refine ⟨⟨rfl, rfl, rfl, trivial⟩, ?_⟩ | refine ⟨⟨rfl, rfl, rfl, rfl, trivial⟩, ?_⟩ | refine ⟨⟨rfl, rfl, rfl, rfl, rfl, trivial⟩, ?_⟩ | refine AltAnd ?_ ?_ | refine ⟨hsz, ?_⟩ | fail)
  all_goals (conv => whnf)
  all_goals refine ⟨_, wrapN (n := i + 1) rfl (by omega), ?_⟩
  all_goals
   refine goL ?_
  all_goals refine ⟨⟨i + 1, hlt⟩, ?_, by show l.length - (i + 1) < l.length - i; omega⟩
  all_goals refine Ge.of rfl (by (repeat (conv => whnf); refine ⟨LE.of rfl, ?_⟩); trivial) ?_
  all_goals (conv => whnf)
  all_goals exact ⟨OLE.of rfl, OLE.of (congrArg (AO.row 31 15) hrow), trivial⟩
 ·have hge : l.take i = l := by have := of_decide_eq_false h2; rw [usL_len] at this; have h2 : ¬ ((i : Int) < l.length) := this; exact List.take_of_length_le (by omega)
  refine goL ?_
  exact ⟨gn [(2011, 13), (2013, 1500)], ⟨rfl, LE.of rfl, rfl, LE.of rfl, trivial⟩, ⟨.inr (.inl rfl), .inr (.inl (congrArg (AO.row 31 15) (congrArg usL hge))), trivial⟩, rfl, rfl⟩
end Go.Sl
