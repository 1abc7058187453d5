/- The statement TopTickets, without a condition: a ticket of one KDC is none of another one's. Part 9: Ig Ih Ii Ij. -/
import Derived.Test.YteicafhbhdliaaaGreatDoorPah
set_option linter.unusedSimpArgs false
set_option linter.unusedVariables false
set_option maxHeartbeats 4000000
namespace Go.Sl
open Go Go.Vc Go.Proofs Go.RowKit
def bodyCk (b : Tm) : Ck := ⟨(cutP (at_ b.kids 1).name [99]).1, (cutP (at_ b.kids 2).name [110]).1, doneT (at_ b.kids 3).kids, at_ b.kids 4, (atoiP (cutP (at_ b.kids 5).name [117]).1).1⟩
def ck0 : Ck := ⟨[], [], [], zeroT, 0⟩
def openCkT (key t : Tm) (now : Int) : Ck × Int :=
 if rightT t = true ∧ t.kind = 4 then
  (if at_ t.kids 0 = key then
   (if (at_ t.kids 1).kids.length = 6 then
    (if sealCkT key (bodyCk (at_ t.kids 1)) = t then (if (bodyCk (at_ t.kids 1)).til < now then (ck0, 5) else (bodyCk (at_ t.kids 1), 0)) else (ck0, 2))
   else (ck0, 2))
  else (ck0, 4))
 else (ck0, 2)
def ckR (x : Ck × Int) : Res := .tup [x.1.pv, .int .i64 x.2]
theorem right4 {t : Tm} (h : rightT t = true) (h4 : t.kind = 4) : t.kids.length = 2 := by
 rw [rightT, Bool.and_eq_true] at h
 have h1 := h.1
 rw [shpD_eq, h4, Bool.and_eq_true, Bool.and_eq_true] at h1
 have h2 := h1.1.2
 rw [Bool.or_eq_true] at h2
 rcases h2 with h2 | h2
 ·exact absurd (of_decide_eq_true h2) (by decide)
 ·have h2 := of_decide_eq_true h2
  have e : Tm.arity 4 = 2 := by decide
  rw [e] at h2
  omega
theorem cutP_len (s p : Bs) : (cutP s p).1.length ≤ s.length := by
 unfold cutP
 split
 ·show (List.drop _ s).length ≤ _
  rw [List.length_drop]
  omega
 ·exact Nat.le_refl _
theorem wts_len (l : List Tm) : l.length ≤ wts l := by
 induction l with
 | nil => exact Nat.le_refl _
 | cons u l ih =>
  rw [wts, List.length_cons, wt_eq]
  omega
theorem wt_atk (t : Tm) (i : Nat) : wt (at_ t.kids i) ≤ wt t := wt_at (fun u hu => wt_kid hu) (wt_pos t) i
theorem bodyCk_ok (b : Tm) (hw : wt b ≤ 1000000000) : (bodyCk b).ok := by
 have hk : ∀ i, wt (at_ b.kids i) ≤ 1000000000 := fun i => Nat.le_trans (wt_atk b i) hw
 have hn : ∀ (i : Nat) (p : Bs), (cutP (at_ b.kids i).name p).1.length ≤ 1000000000 := fun i p => by
  have h1 := cutP_len (at_ b.kids i).name p
  have h2 := wt_name (at_ b.kids i)
  have h3 := hk i
  omega
 refine ⟨hn 1 _, hn 2 _, ?_, ?_, hk 4, (atoiP_bounds _).1, (atoiP_bounds _).2⟩
 ·show (doneT _).length ≤ _
  rw [doneT, List.length_map]
  have h1 := wts_len (at_ b.kids 3).kids
  have h2 := hk 3
  rw [wt_eq] at h2
  omega
 ·intro s hs
  obtain ⟨k, hk2, rfl⟩ := List.mem_map.1 hs
  have h1 := cutP_len k.name [100]
  have h2 := wt_name k
  have h3 := wt_kid hk2
  have h4 := hk 3
  omega
theorem sealCk_fit (key : Tm) (c : Ck) (hk : wt key ≤ 1000000000) (hc : c.ok) : Fit (sealCkT key c) := by
 unfold sealCkT
 split
 ·have hl := itoa_len hc.til0 hc.til1
  refine Fit.two 4 (by simp) (wt_fit _ hk) (Fit.mk (by simp) (by simp) ?_)
  intro t ht
  simp only [List.mem_cons, List.not_mem_nil, or_false] at ht
  have c1 := hc.client
  have c2 := hc.nonce
  have c3 := hc.done
  rcases ht with rfl | rfl | rfl | rfl | rfl | rfl
  ·exact Fit.data 1 (by decide)
  ·exact Fit.data 1 (by rw [List.length_cons]; omega)
  ·exact Fit.data 1 (by rw [List.length_cons]; omega)
  ·refine Fit.mk (by rw [List.length_map]; omega) (by simp) fun u hu => ?_
   obtain ⟨s, hs, rfl⟩ := List.mem_map.1 hu
   have := hc.dones s hs
   exact Fit.data 1 (by rw [List.length_cons]; omega)
  ·exact wt_fit _ hc.secret
  ·exact Fit.data 1 (by rw [List.length_cons]; omega)
 ·exact Fit.zero
def readsL : List PV := [.exact (.func (.func 131) #[] #[]), .exact (.func (.func 132) #[] #[]), .exact (.func (.func 133) #[] #[]), .exact (.func (.func 134) #[] #[]), .exact (.func (.func 135) #[] #[])]
def readO (b : Tm) : Nat → List (Nat × AO)
 | 0 => [(9, .var true 92 (.p (.agg [.str [], .str [], .nilS, .int .i64 0, .str [], .nilS, .int .i64 0])))]
 | 1 => [(9, .var true 92 (.p (.agg [.str (bodyCk b).client, .str [], .nilS, .int .i64 0, .str [], .nilS, .int .i64 0])))]
 | 2 => [(9, .var true 92 (.p (.agg [.str (bodyCk b).client, .str (bodyCk b).nonce, .nilS, .int .i64 0, .str [], .nilS, .int .i64 0])))]
 | 3 => [(9, .var true 92 (.mix [.p (.str (bodyCk b).client), .p (.str (bodyCk b).nonce), .slc 1001, .p (.int .i64 0), .p (.str []), .p .nilS, .p (.int .i64 0)])), (1001, .row 9 1 (strL (bodyCk b).done))]
 | 4 => [(9, .var true 92 (.mix [.p (.str (bodyCk b).client), .p (.str (bodyCk b).nonce), .slc 1001, .p (.int .i64 (bodyCk b).secret.kind), .p (.str (bodyCk b).secret.name), .p (.lst (tmvs (bodyCk b).secret.kids)), .p (.int .i64 0)])), (1001, .row 9 1 (strL (bodyCk b).done))]
 | _ => [(9, .var true 92 (.mix [.p (.str (bodyCk b).client), .p (.str (bodyCk b).nonce), .slc 1001, .p (.int .i64 (bodyCk b).secret.kind), .p (.str (bodyCk b).secret.name), .p (.lst (tmvs (bodyCk b).secret.kids)), .p (.int .i64 (bodyCk b).til)])), (1001, .row 9 1 (strL (bodyCk b).done))]
def readS (key t : Tm) (now : Int) (i : Nat) : Vc.S :=
 Vc.S.of [(2, iv now), (3, .ptr 3 0), (4, .ptr 4 0), (6, .ptr 6 0), (8, .ptr 8 0), (9, .ptr 9 0), (40, .p (.lst readsL)), (41, iv 5), (42, iv (i : Int))]
  ([(3, .var true 26 (tv key)), (4, .var true 26 (tv t)), (6, .var true 92 (.p (.agg [.str [], .str [], .nilS, .int .i64 0, .str [], .nilS, .int .i64 0]))), (8, .var true 203 (tv (at_ t.kids 1)))] ++ readO (at_ t.kids 1) i)
theorem LEP_ck0 : LEP (.agg [.str [], .str [], .nilS, .int .i64 0, .str [], .nilS, .int .i64 0]) ck0.pv :=
 LEP_agg ⟨LEP.refl _, LEP.refl _, LEP_nil, LEP.refl _, LEP.refl _, LEP_nil, LEP.refl _, trivial⟩
theorem openck_ok (key t : Tm) (now : Int) (hk : wt key ≤ 1000000000) (hw : wt t ≤ 1000000000) : K true 84 [tv key, tv t, iv now] (ckR (openCkT key t now)) := by
 have hf := wt_fit t hw
 have hr := right_ok t hf (fun _ => text_big hf hw)
 unfold openCkT
 by_cases h1 : rightT t = true
 ·by_cases h2 : t.kind = 4
  ·have hl2 := right4 h1 h2
   have hw0 : wt (at_ t.kids 0) ≤ 1000000000 := Nat.le_trans (wt_atk t 0) hw
   have hw1 : wt (at_ t.kids 1) ≤ 1000000000 := Nat.le_trans (wt_atk t 1) hw
   rw [if_pos ⟨h1, h2⟩]
   rw [h1] at hr
   by_cases h3 : at_ t.kids 0 = key
   ·rw [if_pos h3]
    by_cases h4 : (at_ t.kids 1).kids.length = 6
    ·rw [if_pos h4]
     have hd3 : (at_ (at_ t.kids 1).kids 3).kids.length ≤ 1000000000 := by
      have h1 := wts_len (at_ (at_ t.kids 1).kids 3).kids
      have h2 := wt_atk (at_ t.kids 1) 3
      rw [wt_eq (at_ (at_ t.kids 1).kids 3)] at h2
      omega
     have hn5 : (at_ (at_ t.kids 1).kids 5).name.length ≤ 281474976710656 := by
      have h1 := wt_name (at_ (at_ t.kids 1).kids 5)
      have h2 := wt_atk (at_ t.kids 1) 5
      omega
     have hc := bodyCk_ok (at_ t.kids 1) hw1
     have hs := sealck_ok key (bodyCk (at_ t.kids 1)) hk hc
     have hsf := sealCk_fit key (bodyCk (at_ t.kids 1)) hk hc
     refine PC_of_vc (cx_ok true) (mixed true) { own := fun q => Nat.beq q 100048, fz := fun r => cond (Nat.beq r 14) [1001] [] } Tryz.func84 (by kernel_rfl) rfl rfl (by kernel_rfl) ?_
     refine goL ?_
     refine ⟨_, CallVC.pr hr rfl rfl, ?_⟩
     refine goL ?_
     refine @bool_rec _ _ _ ?_ ?_ <;> intro h5
     ·exact absurd h2 (of_decide_eq_true h5)
     refine goL ?_
     refine ⟨_, tmvs_at (l := t.kids) (i := 0) (by omega), rfl, rfl, ?_⟩
     refine goL ?_
     refine ⟨_, CallVC.pr (same_ok true (at_ t.kids 0) (wt_fit _ hw0) key) rfl rfl, ?_⟩
     refine goL ?_
     refine @bool_rec _ _ _ ?_ ?_ <;> intro h6
     ·exact absurd h3 (by simpa using h6)
     refine goL ?_
     refine ⟨_, tmvs_at (l := t.kids) (i := 1) (by omega), rfl, rfl, ?_⟩
     refine goL ?_
     refine @bool_rec _ _ _ ?_ ?_ <;> intro h7
     ·exact absurd h4 (by have h7 := of_decide_eq_true h7; rw [tmvs_length] at h7; omega)
     refine goL ?_
     refine ⟨Rd 5, fun i => readS key t now i.1, fun i => 5 - i.1, Rd.zero _, ?_, ?_⟩
     ·exact Ge.go
     rintro ⟨i, hi⟩
     match i, hi with
     | 0, hi =>
      refine goL ?_
      refine ⟨Int.natCast_nonneg _, _, rfl, rfl, rfl, ?_⟩
      refine goL ?_
      refine ⟨_, MCallVC.pr (gn [(2000, 9)]) (ckclient_ok (at_ t.kids 1) [] [] (by omega)) ⟨LE.of rfl, LE.of rfl, trivial⟩ (by (conv => whnf); exact ⟨.inr (.inl rfl), trivial⟩) rfl, ?_⟩
      refine goL ?_
      refine ⟨_, wrapN (n := 1) rfl (by decide), ?_⟩
      refine goL ?_
      refine ⟨⟨1, by decide⟩, ?_, (by decide : 5 - 1 < 5 - 0)⟩
      exact Ge.go
     | 1, hi =>
      refine goL ?_
      refine ⟨Int.natCast_nonneg _, _, rfl, rfl, rfl, ?_⟩
      refine goL ?_
      refine ⟨_, MCallVC.pr (gn [(2000, 9)]) (cknonce_ok (at_ t.kids 1) (bodyCk (at_ t.kids 1)).client [] (by omega)) ⟨LE.of rfl, LE.of rfl, trivial⟩ (by (conv => whnf); exact ⟨.inr (.inl rfl), trivial⟩) rfl, ?_⟩
      refine goL ?_
      refine ⟨_, wrapN (n := 2) rfl (by decide), ?_⟩
      refine goL ?_
      refine ⟨⟨2, by decide⟩, ?_, (by decide : 5 - 2 < 5 - 1)⟩
      exact Ge.go
     | 2, hi =>
      refine goL ?_
      refine ⟨Int.natCast_nonneg _, _, rfl, rfl, rfl, ?_⟩
      refine goL ?_
      refine ⟨_, MCallVC.pr (gn [(2000, 9)]) (ckdone_ok (at_ t.kids 1) (bodyCk (at_ t.kids 1)).client (bodyCk (at_ t.kids 1)).nonce (by omega) hd3) ⟨LE.of rfl, LE.of rfl, trivial⟩ (by (conv => whnf); exact ⟨.inr (.inr (.inl ⟨true, _, _, _, rfl, rfl, LE_mix ⟨LE.refl _, LE.refl _, LE.refl _, LE.refl _, LE.refl _, LE.refl _, LE.refl _, trivial⟩⟩)), trivial⟩) rfl, ?_⟩
      refine goL ?_
      refine ⟨_, wrapN (n := 3) rfl (by decide), ?_⟩
      refine goL ?_
      refine ⟨⟨3, by decide⟩, ?_, (by decide : 5 - 3 < 5 - 2)⟩
      exact Ge.go
     | 3, hi =>
      refine goL ?_
      refine ⟨Int.natCast_nonneg _, _, rfl, rfl, rfl, ?_⟩
      refine goL ?_
      refine ⟨_, MCallVC.pr (gn [(2000, 9)]) (cksecret_ok (at_ t.kids 1) ⟨(bodyCk (at_ t.kids 1)).client, (bodyCk (at_ t.kids 1)).nonce, (bodyCk (at_ t.kids 1)).done, zeroT, 0⟩ (by omega)) ⟨LE.of rfl, LE.of rfl, trivial⟩ (by (conv => whnf); exact ⟨.inr (.inl rfl), .inr (.inl rfl), trivial⟩) rfl, ?_⟩
      refine goL ?_
      refine ⟨_, wrapN (n := 4) rfl (by decide), ?_⟩
      refine goL ?_
      refine ⟨⟨4, by decide⟩, ?_, (by decide : 5 - 4 < 5 - 3)⟩
      exact Ge.go
     | 4, hi =>
      refine goL ?_
      refine ⟨Int.natCast_nonneg _, _, rfl, rfl, rfl, ?_⟩
      refine goL ?_
      refine ⟨_, MCallVC.pr (gn [(2000, 9)]) (cktil_ok (at_ t.kids 1) ⟨(bodyCk (at_ t.kids 1)).client, (bodyCk (at_ t.kids 1)).nonce, (bodyCk (at_ t.kids 1)).done, (bodyCk (at_ t.kids 1)).secret, 0⟩ (by omega) hn5) ⟨LE.of rfl, LE.of rfl, trivial⟩ (by (conv => whnf); exact ⟨.inr (.inl rfl), .inr (.inl rfl), trivial⟩) rfl, ?_⟩
      refine goL ?_
      refine ⟨_, wrapN (n := 5) rfl (by decide), ?_⟩
      refine goL ?_
      refine ⟨⟨5, by decide⟩, ?_, (by decide : 5 - 5 < 5 - 4)⟩
      exact Ge.go
     | 5, hi =>
      have hsm := same_ok true (sealCkT key (bodyCk (at_ t.kids 1))) hsf t
      refine goL ?_
      refine ⟨_, CallVC.pr hs rfl rfl, ?_⟩
      refine goL ?_
      refine ⟨_, CallVC.pr hsm rfl rfl, ?_⟩
      refine goL ?_
      refine @bool_rec _ _ _ ?_ ?_ <;> intro h8
      ·have h8 : ¬ sealCkT key (bodyCk (at_ t.kids 1)) = t := by simpa using h8
       rw [if_neg h8]
       refine goL ?_
       exact ⟨LEP_ck0, LEP.refl _, trivial⟩
      ·have h8 : sealCkT key (bodyCk (at_ t.kids 1)) = t := by simpa using h8
       rw [if_pos h8]
       refine goL ?_
       refine @bool_rec _ _ _ ?_ ?_ <;> intro h9
       ·have h9 : (bodyCk (at_ t.kids 1)).til < now := of_decide_eq_true h9
        rw [if_pos h9]
        refine goL ?_
        exact ⟨LEP_ck0, LEP.refl _, trivial⟩
       ·have h9 : ¬ (bodyCk (at_ t.kids 1)).til < now := of_decide_eq_false h9
        rw [if_neg h9]
        refine goL ?_
        exact ⟨LEP.refl _, LEP.refl _, trivial⟩
     | n + 6, hi => exact absurd hi (by omega)
    ·rw [if_neg h4]
     refine PC_of_vc (cx_ok true) (mixed true) { own := fun q => Nat.beq q 100048, fz := fun r => cond (Nat.beq r 14) [1001] [] } Tryz.func84 (by kernel_rfl) rfl rfl (by kernel_rfl) ?_
     refine goL ?_
     refine ⟨_, CallVC.pr hr rfl rfl, ?_⟩
     refine goL ?_
     refine @bool_rec _ _ _ ?_ ?_ <;> intro h5
     ·exact absurd h2 (of_decide_eq_true h5)
     refine goL ?_
     refine ⟨_, tmvs_at (l := t.kids) (i := 0) (by omega), rfl, rfl, ?_⟩
     refine goL ?_
     refine ⟨_, CallVC.pr (same_ok true (at_ t.kids 0) (wt_fit _ hw0) key) rfl rfl, ?_⟩
     refine goL ?_
     refine @bool_rec _ _ _ ?_ ?_ <;> intro h6
     ·exact absurd h3 (by simpa using h6)
     refine goL ?_
     refine ⟨_, tmvs_at (l := t.kids) (i := 1) (by omega), rfl, rfl, ?_⟩
     refine goL ?_
     refine @bool_rec _ _ _ ?_ ?_ <;> intro h7
     ·refine goL ?_
      exact ⟨LEP_ck0, LEP.refl _, trivial⟩
     ·exact absurd (by have h7 := of_decide_eq_false h7; rw [tmvs_length] at h7; omega) h4
   ·rw [if_neg h3]
    refine PC_of_vc (cx_ok true) (mixed true) { own := fun q => Nat.beq q 100048, fz := fun r => cond (Nat.beq r 14) [1001] [] } Tryz.func84 (by kernel_rfl) rfl rfl (by kernel_rfl) ?_
    refine goL ?_
    refine ⟨_, CallVC.pr hr rfl rfl, ?_⟩
    refine goL ?_
    refine @bool_rec _ _ _ ?_ ?_ <;> intro h5
    ·exact absurd h2 (of_decide_eq_true h5)
    refine goL ?_
    refine ⟨_, tmvs_at (l := t.kids) (i := 0) (by omega), rfl, rfl, ?_⟩
    refine goL ?_
    refine ⟨_, CallVC.pr (same_ok true (at_ t.kids 0) (wt_fit _ hw0) key) rfl rfl, ?_⟩
    refine goL ?_
    refine @bool_rec _ _ _ ?_ ?_ <;> intro h6
    ·refine goL ?_
     exact ⟨LEP_ck0, LEP.refl _, trivial⟩
    ·exact absurd (by simpa using h6) h3
  ·rw [if_neg (fun h => h2 h.2)]
   rw [h1] at hr
   refine PC_of_vc (cx_ok true) (mixed true) { own := fun q => Nat.beq q 100048, fz := fun r => cond (Nat.beq r 14) [1001] [] } Tryz.func84 (by kernel_rfl) rfl rfl (by kernel_rfl) ?_
   refine goL ?_
   refine ⟨_, CallVC.pr hr rfl rfl, ?_⟩
   refine goL ?_
   refine @bool_rec _ _ _ ?_ ?_ <;> intro h3
   ·refine goL ?_
    exact ⟨LEP_ck0, LEP.refl _, trivial⟩
   ·exact absurd (by simpa using h3) h2
 ·have h1 : rightT t = false := by simpa using h1
  rw [if_neg (fun h => by rw [h1] at h; cases h.1)]
  rw [h1] at hr
  refine PC_of_vc (cx_ok true) (mixed true) { own := fun q => Nat.beq q 100048, fz := fun r => cond (Nat.beq r 14) [1001] [] } Tryz.func84 (by kernel_rfl) rfl rfl (by kernel_rfl) ?_
  refine goL ?_
  refine ⟨_, CallVC.pr hr rfl rfl, ?_⟩
  refine goL ?_
  exact ⟨LEP_ck0, LEP.refl _, trivial⟩
end Go.Sl
namespace Go.Sl
open Go Go.Vc Go.Proofs Go.RowKit
abbrev ints (zs : List Int) : List PV := zs.map (.int .i64)
theorem ints_len (zs : List Int) : (ints zs).length = zs.length := List.length_map ..
theorem ints_get {zs : List Int} {i : Nat} (h : i < zs.length) : (ints zs)[((i : Nat) : Int).toNat]? = some (.int .i64 zs[i]) := by
 show (List.map _ zs)[i]? = _
 rw [List.getElem?_map, List.getElem?_eq_getElem h]; rfl
theorem ints_sz (zs : List Int) : allSz (false, 1) (ints zs) := by
 induction zs with
 | nil => trivial
 | cons z zs ih => exact ⟨rfl, ih⟩
abbrev clA (a b : Int) : List (Nat × AO) := [(2101, .var false 3 (.p (.int .i64 a))), (2102, .var false 3 (.p (.int .i64 b)))]
abbrev clB (l : List Tm) (t : Tm) : List (Nat × AO) := [(2101, .var false 24 (.p (.lst (tmvs l)))), (2102, .var false 26 (tv t))]
def idxI (p : Int → Bool) (zs : List Int) : Int := if zs.any p then (((zs.takeWhile fun z => !p z).length : Nat) : Int) else -1
theorem tw_take {p : Int → Bool} {zs : List Int} {i : Nat} (hi : i < zs.length) (h : ∀ z ∈ zs.take i, p z = false) (hp : p zs[i] = true) : (zs.takeWhile fun z => !p z) = zs.take i := by
 induction zs generalizing i with
 | nil => simp at hi
 | cons z zs ih =>
  cases i with
  | zero => simp only [List.getElem_cons_zero] at hp; simp [List.takeWhile, hp]
  | succ i =>
   have h0 := h z (by simp)
   have := ih (i := i) (by simpa using hi) (fun u hu => h u (by simp [hu])) (by simpa using hp)
   rw [List.takeWhile_cons]
   simp [h0, this]
theorem indexA_ok (f : Nat) (a b : Int) (p : Int → Bool) (zs : List Int) (hz : zs.length ≤ 1000000)
  (hp : ∀ z ∈ zs, PM (cx true) f (clA a b) [iv z, .ptr 2101 0, .ptr 2102 0] [] (.p (.bool (p z)))) :
  PM (cx true) 215 (clA a b ++ [(2103, .row 3 1 (ints zs))]) [.slc 2103, .fn f [.ptr 2101 0, .ptr 2102 0]] [(2103, .row 3 1 (ints zs))] (iv (idxI p zs)) := by
 refine PM_of_vc (cx_ok true) (mixed true) { own := fun q => Nat.beq q 100016 } Tryz.func215 (by kernel_rfl) rfl rfl (by kernel_rfl) ?_ ?_
 ·rfl
 refine goL ?_
 refine ⟨{ i : Rd zs.length // ∀ z ∈ zs.take i.1, p z = false }, fun i => Vc.S.of [(0, .slc 2103), (1, .fn f [.ptr 2101 0, .ptr 2102 0]), (7, iv ((ints zs).length : Int)), (8, iv (i.1.1 : Int))] (clA a b ++ [(2103, .row 3 1 (ints zs))]), fun i => zs.length - i.1.1, ⟨Rd.zero _, by simp [Rd.zero]⟩, ?_, ?_⟩
 ·exact Ge.go
 rintro ⟨⟨i, hi⟩, hno⟩
 refine goL ?_
 refine @bool_rec _ _ _ ?_ ?_ <;> intro h1
 ·have hlt : i < zs.length := by have := of_decide_eq_true h1; rw [ints_len] at this; exact Int.ofNat_lt.1 this
  refine goL ?_
  refine ⟨Int.natCast_nonneg _, by rw [ints_len]; exact hlt, ?_⟩
  refine goL ?_
  refine ⟨_, ints_get hlt, rfl, rfl, rfl, ?_⟩
  refine goL ?_
  refine ⟨_, MCallVC.pr gI (hp zs[i] (List.getElem_mem hlt)) ⟨LE.of rfl, LE.of rfl, LE.of rfl, trivial⟩ (by (conv => whnf); exact ⟨.inr (.inl rfl), .inr (.inl rfl), trivial⟩) rfl, ?_⟩
  refine goL ?_
  refine @bool_rec _ _ _ ?_ ?_ <;> intro h2
  ·have hany : zs.any p = true := List.any_eq_true.2 ⟨_, List.getElem_mem hlt, h2⟩
   have hix : idxI p zs = (i : Int) := by
    rw [idxI, if_pos hany, tw_take hlt hno h2, List.length_take, Nat.min_eq_left hi]
   refine goL ?_
   exact ⟨gI, ⟨rfl, LE.of (by rw [hix]; rfl)⟩, ⟨.inr (.inl rfl), trivial⟩, rfl, rfl⟩
  ·refine goL ?_
   refine ⟨_, wrapN (n := i + 1) rfl (by omega), ?_⟩
   refine goL ?_
   refine ⟨⟨⟨i + 1, hlt⟩, ?_⟩, ?_, by show zs.length - (i + 1) < zs.length - i; omega⟩
   ·intro t ht
    rw [List.take_succ_eq_append_getElem hlt, List.mem_append, List.mem_singleton] at ht
    rcases ht with ht | rfl
    ·exact hno t ht
    ·exact h2
   ·exact Ge.go
 ·have hge : zs.take i = zs := by have := of_decide_eq_false h1; rw [ints_len] at this; have h2 : ¬ ((i : Int) < zs.length) := this; exact List.take_of_length_le (by omega)
  have hno' : ∀ z ∈ zs, p z = false := fun z hz => hno z (by rw [hge]; exact hz)
  have hany : zs.any p = false := by
   rw [← Bool.not_eq_true, List.any_eq_true]
   rintro ⟨z, hz, h2⟩
   rw [hno' z hz] at h2
   cases h2
  have hix : idxI p zs = -1 := by rw [idxI, hany]; rfl
  refine goL ?_
  exact ⟨gI, ⟨rfl, LE.of (by rw [hix]; rfl)⟩, ⟨.inr (.inl rfl), trivial⟩, rfl, rfl⟩
theorem indexB_ok (f : Nat) (l : List Tm) (t : Tm) (p : Int → Bool) (zs : List Int) (hz : zs.length ≤ 1000000)
  (hp : ∀ z ∈ zs, PM (cx true) f (clB l t) [iv z, .ptr 2101 0, .ptr 2102 0] [] (.p (.bool (p z)))) :
  PM (cx true) 215 (clB l t ++ [(2103, .row 3 1 (ints zs))]) [.slc 2103, .fn f [.ptr 2101 0, .ptr 2102 0]] [(2103, .row 3 1 (ints zs))] (iv (idxI p zs)) := by
 refine PM_of_vc (cx_ok true) (mixed true) { own := fun q => Nat.beq q 100016 } Tryz.func215 (by kernel_rfl) rfl rfl (by kernel_rfl) ?_ ?_
 ·rfl
 refine goL ?_
 refine ⟨{ i : Rd zs.length // ∀ z ∈ zs.take i.1, p z = false }, fun i => Vc.S.of [(0, .slc 2103), (1, .fn f [.ptr 2101 0, .ptr 2102 0]), (7, iv ((ints zs).length : Int)), (8, iv (i.1.1 : Int))] (clB l t ++ [(2103, .row 3 1 (ints zs))]), fun i => zs.length - i.1.1, ⟨Rd.zero _, by simp [Rd.zero]⟩, ?_, ?_⟩
 ·exact Ge.go
 rintro ⟨⟨i, hi⟩, hno⟩
 refine goL ?_
 refine @bool_rec _ _ _ ?_ ?_ <;> intro h1
 ·have hlt : i < zs.length := by have := of_decide_eq_true h1; rw [ints_len] at this; exact Int.ofNat_lt.1 this
  refine goL ?_
  refine ⟨Int.natCast_nonneg _, by rw [ints_len]; exact hlt, ?_⟩
  refine goL ?_
  refine ⟨_, ints_get hlt, rfl, rfl, rfl, ?_⟩
  refine goL ?_
  refine ⟨_, MCallVC.pr gI (hp zs[i] (List.getElem_mem hlt)) ⟨LE.of rfl, LE.of rfl, LE.of rfl, trivial⟩ (by (conv => whnf); exact ⟨.inr (.inl rfl), .inr (.inl rfl), trivial⟩) rfl, ?_⟩
  refine goL ?_
  refine @bool_rec _ _ _ ?_ ?_ <;> intro h2
  ·have hany : zs.any p = true := List.any_eq_true.2 ⟨_, List.getElem_mem hlt, h2⟩
   have hix : idxI p zs = (i : Int) := by
    rw [idxI, if_pos hany, tw_take hlt hno h2, List.length_take, Nat.min_eq_left hi]
   refine goL ?_
   exact ⟨gI, ⟨rfl, LE.of (by rw [hix]; rfl)⟩, ⟨.inr (.inl rfl), trivial⟩, rfl, rfl⟩
  ·refine goL ?_
   refine ⟨_, wrapN (n := i + 1) rfl (by omega), ?_⟩
   refine goL ?_
   refine ⟨⟨⟨i + 1, hlt⟩, ?_⟩, ?_, by show zs.length - (i + 1) < zs.length - i; omega⟩
   ·intro t ht
    rw [List.take_succ_eq_append_getElem hlt, List.mem_append, List.mem_singleton] at ht
    rcases ht with ht | rfl
    ·exact hno t ht
    ·exact h2
   ·exact Ge.go
 ·have hge : zs.take i = zs := by have := of_decide_eq_false h1; rw [ints_len] at this; have h2 : ¬ ((i : Int) < zs.length) := this; exact List.take_of_length_le (by omega)
  have hno' : ∀ z ∈ zs, p z = false := fun z hz => hno z (by rw [hge]; exact hz)
  have hany : zs.any p = false := by
   rw [← Bool.not_eq_true, List.any_eq_true]
   rintro ⟨z, hz, h2⟩
   rw [hno' z hz] at h2
   cases h2
  have hix : idxI p zs = -1 := by rw [idxI, hany]; rfl
  refine goL ?_
  exact ⟨gI, ⟨rfl, LE.of (by rw [hix]; rfl)⟩, ⟨.inr (.inl rfl), trivial⟩, rfl, rfl⟩
structure Dl (p : Int → Bool) (zs : List Int) where
 i : Nat
 j : Nat
 M : List Int
 hl : M.length = zs.length
 hij : i < j
 hj : j ≤ zs.length
 ht : M.take i = (zs.take j).filter fun z => !p z
 hd : M.drop j = zs.drop j
theorem Dl.get {p : Int → Bool} {zs : List Int} (d : Dl p zs) (h : d.j < zs.length) : d.M[d.j]'(by rw [d.hl]; exact h) = zs[d.j] := by
 have h1 : (d.M.drop d.j)[0]? = (zs.drop d.j)[0]? := by rw [d.hd]
 rw [List.getElem?_drop, List.getElem?_drop, Nat.add_zero, List.getElem?_eq_getElem h, List.getElem?_eq_getElem (by rw [d.hl]; exact h)] at h1
 exact Option.some.inj h1
def Dl.keep {p : Int → Bool} {zs : List Int} (d : Dl p zs) (h : d.j < zs.length) (hp : p zs[d.j] = false) : Dl p zs where
 i := d.i + 1
 j := d.j + 1
 M := d.M.set d.i zs[d.j]
 hl := by rw [List.length_set]; exact d.hl
 hij := Nat.succ_lt_succ d.hij
 hj := h
 ht := by
  have h1 : d.i < (d.M.set d.i zs[d.j]).length := by rw [List.length_set, d.hl]; have := d.hij; omega
  rw [List.take_succ_eq_append_getElem h1, List.getElem_set_self, List.take_set_of_le (Nat.le_refl _), d.ht, List.take_succ_eq_append_getElem h, List.filter_append]
  simp [hp]
 hd := by
  rw [List.drop_set_of_lt (by have := d.hij; omega)]
  have := congrArg (List.drop 1) d.hd
  rwa [List.drop_drop, List.drop_drop] at this
def Dl.skip {p : Int → Bool} {zs : List Int} (d : Dl p zs) (h : d.j < zs.length) (hp : p zs[d.j] = true) : Dl p zs where
 i := d.i
 j := d.j + 1
 M := d.M
 hl := d.hl
 hij := Nat.lt_succ_of_lt d.hij
 hj := h
 ht := by
  rw [d.ht, List.take_succ_eq_append_getElem h, List.filter_append]
  simp [hp]
 hd := by
  have := congrArg (List.drop 1) d.hd
  rwa [List.drop_drop, List.drop_drop] at this
def Dl.start {p : Int → Bool} {zs : List Int} (h : zs.any p = true) : Dl p zs where
 i := (zs.takeWhile fun z => !p z).length
 j := (zs.takeWhile fun z => !p z).length + 1
 M := zs
 hl := rfl
 hij := Nat.lt_succ_self _
 hj := by
  obtain ⟨z, hz, h2⟩ := List.any_eq_true.1 h
  have h3 : (zs.takeWhile fun z => !p z).length ≠ zs.length := by
   intro e
   have h4 : (zs.takeWhile fun z => !p z) = zs := (List.takeWhile_prefix _).eq_of_length e
   have := List.all_eq_true.1 (List.all_takeWhile (p := fun z => !p z) (l := zs)) z (by rw [h4]; exact hz)
   rw [h2] at this
   cases this
  have h5 := (List.takeWhile_prefix (l := zs) (fun z => !p z)).length_le
  omega
 ht := by
  have h1 : ∀ l : List Int, ∃ r, l = (l.takeWhile fun z => !p z) ++ r ∧ ∀ z r', r = z :: r' → p z = true := by
   intro l
   induction l with
   | nil => exact ⟨[], rfl, by intro z r' h; cases h⟩
   | cons u l ih =>
    cases e : p u with
    | true => exact ⟨u :: l, by simp [List.takeWhile, e], by intro z r' h; cases h; exact e⟩
    | false =>
     obtain ⟨r, h1, h2⟩ := ih
     exact ⟨r, by rw [List.takeWhile_cons]; simp only [e, Bool.not_false, if_true, List.cons_append]; rw [← h1], h2⟩
  obtain ⟨r, h2, h3⟩ := h1 zs
  have h4 : ∀ z ∈ (zs.takeWhile fun z => !p z), (!p z) = true := fun z hz => List.all_eq_true.1 (List.all_takeWhile (p := fun z => !p z) (l := zs)) z hz
  generalize hT : (zs.takeWhile fun z => !p z) = T at h2 h4 ⊢
  rw [h2, List.take_append_of_le_length (Nat.le_refl _), List.take_length, List.take_append, List.take_of_length_le (by omega), show T.length + 1 - T.length = 1 by omega, List.filter_append, List.filter_eq_self.2 h4]
  cases r with
  | nil => simp
  | cons u r =>
   have := h3 u r rfl
   simp [this]
 hd := rfl
theorem deleteA_ok (f : Nat) (a b : Int) (p : Int → Bool) (zs : List Int) (hz : zs.length ≤ 1000000)
  (hp : ∀ z ∈ zs, PM (cx true) f (clA a b) [iv z, .ptr 2101 0, .ptr 2102 0] [] (.p (.bool (p z)))) :
  PM (cx true) 182 (clA a b ++ [(1001, .row 3 1 (ints zs))]) [.slc 1001, .fn f [.ptr 2101 0, .ptr 2102 0]] [(1001, .row 3 1 (ints (zs.filter fun z => !p z)))] (.slc 1001) := by
 have hI := indexA_ok f a b p zs hz hp
 cases hany : zs.any p with
 | false =>
  have hix : idxI p zs = -1 := by rw [idxI, hany]; rfl
  have hfil : (zs.filter fun z => !p z) = zs := List.filter_eq_self.2 fun z hz => by
   cases e : p z with
   | false => rfl
   | true => rw [List.any_eq_true.2 ⟨z, hz, e⟩] at hany; cases hany
  rw [hix] at hI
  rw [hfil]
  refine PM_of_vc (cx_ok true) (mixed true) { own := fun q => Nat.beq q 100010 || Nat.beq q 100028 || Nat.beq q 500038 || Nat.beq q 500041 } Tryz.func182 (by kernel_rfl) rfl rfl (by kernel_rfl) ?_ ?_
  ·rfl
  refine goL ?_
  refine ⟨_, MCallVC.pr (gn [(2103, 1001)]) hI ⟨LE.of rfl, LE.of rfl, trivial⟩ (by (conv => whnf); exact ⟨.inr (.inl rfl), .inr (.inl rfl), .inr (.inl rfl), trivial⟩) rfl, ?_⟩
  refine goL ?_
  exact ⟨gI, ⟨rfl, LE.of rfl⟩, ⟨.inr (.inl rfl), trivial⟩, rfl, rfl⟩
 | true =>
  have hix : idxI p zs = (((Dl.start hany).i : Nat) : Int) := by rw [idxI, if_pos hany]; rfl
  have hst := (Dl.start hany).hij
  have hsj := (Dl.start hany).hj
  have hsi : (Dl.start hany).j = (Dl.start hany).i + 1 := rfl
  rw [hix] at hI
  refine PM_of_vc (cx_ok true) (mixed true) { own := fun q => Nat.beq q 100010 || Nat.beq q 100028 || Nat.beq q 500038 || Nat.beq q 500041 } Tryz.func182 (by kernel_rfl) rfl rfl (by kernel_rfl) ?_ ?_
  ·rfl
  refine goL ?_
  refine ⟨_, MCallVC.pr (gn [(2103, 1001)]) hI ⟨LE.of rfl, LE.of rfl, trivial⟩ (by (conv => whnf); exact ⟨.inr (.inl rfl), .inr (.inl rfl), .inr (.inl rfl), trivial⟩) rfl, ?_⟩
  refine goL ?_
  refine ⟨_, wrapN (n := (Dl.start hany).j) (by rw [hsi]; rfl) (by omega), ?_⟩
  refine goL ?_
  refine ⟨Dl p zs, fun d => Vc.S.of [(0, .slc 1001), (1, .fn f [.ptr 2101 0, .ptr 2102 0]), (5, iv (d.i : Int)), (6, iv (d.j : Int))] (clA a b ++ [(1001, .row 3 1 (ints d.M))]), fun d => zs.length - d.j, Dl.start hany, ?_, ?_⟩
  ·exact Ge.go
  intro d
  have dl := d.hl
  have dij := d.hij
  have dj := d.hj
  have hlen : (ints d.M).length = zs.length := by rw [ints_len, dl]
  refine goL ?_
  refine @bool_rec _ _ _ ?_ ?_ <;> intro h2
  ·have hlt : d.j < zs.length := by have := of_decide_eq_true h2; rw [hlen] at this; exact Int.ofNat_lt.1 this
   have hg : (ints d.M)[((d.j : Nat) : Int).toNat]? = some (.int .i64 zs[d.j]) := by
    rw [ints_get (zs := d.M) (by omega), d.get hlt]
   refine goL ?_
   refine ⟨Int.natCast_nonneg _, by rw [hlen]; exact hlt, ?_⟩
   refine goL ?_
   refine ⟨_, hg, rfl, rfl, rfl, ?_⟩
   refine goL ?_
   refine ⟨_, MCallVC.pr gI (hp zs[d.j] (List.getElem_mem hlt)) ⟨LE.of rfl, LE.of rfl, LE.of rfl, trivial⟩ (by (conv => whnf); exact ⟨.inr (.inl rfl), .inr (.inl rfl), trivial⟩) rfl, ?_⟩
   refine goL ?_
   refine @bool_rec _ _ _ ?_ ?_ <;> intro h3
   ·have h3 : p zs[d.j] = false := by have h3 : (!p zs[d.j]) = true := h3; revert h3; cases p zs[d.j] <;> simp
    have hset : (ints d.M).set d.i (.int .i64 zs[d.j]) = ints (d.keep hlt h3).M := by
     show _ = ints (d.M.set d.i zs[d.j])
     rw [ints, ints, List.map_set]
    refine goL ?_
    refine ⟨Int.natCast_nonneg _, by rw [hlen]; omega, ?_⟩
    refine goL ?_
    refine ⟨by rw [hlen]; show d.i < _; omega, rfl, rfl, rfl, ?_⟩
    refine goL ?_
    refine ⟨_, wrapN (n := d.i + 1) rfl (by omega), ?_⟩
    refine goL ?_
    refine ⟨_, wrapN (n := d.j + 1) rfl (by omega), ?_⟩
    refine goL ?_
    refine ⟨d.keep hlt h3, ?_, by show zs.length - (d.j + 1) < zs.length - d.j; omega⟩
    refine Ge.of rfl ?_ ?_
    ·repeat (conv => whnf); refine ⟨LE.of rfl, ?_⟩
     trivial
    ·conv => whnf
     refine ⟨OLE.of rfl, ?_⟩
     conv => whnf
     refine ⟨OLE.of rfl, ?_⟩
     conv => whnf
     refine ⟨OLE.of (congrArg (AO.row 3 1) hset), ?_⟩
     trivial
   ·have h3 : p zs[d.j] = true := by have h3 : (!p zs[d.j]) = false := h3; revert h3; cases p zs[d.j] <;> simp
    refine goL ?_
    refine ⟨_, wrapN (n := d.j + 1) rfl (by omega), ?_⟩
    refine goL ?_
    refine ⟨d.skip hlt h3, ?_, by show zs.length - (d.j + 1) < zs.length - d.j; omega⟩
    exact Ge.go
  ·have hge : d.j = zs.length := by have h2 := of_decide_eq_false h2; rw [hlen] at h2; have h2 : ¬ ((d.j : Int) < zs.length) := h2; omega
   have hfil : d.M.take d.i = zs.filter fun z => !p z := by rw [d.ht, hge, List.take_length]
   have hrow : ((ints d.M).take d.i ++ List.replicate ((ints d.M).length - d.i) (PV.int .i64 0)).take d.i = ints (zs.filter fun z => !p z) := by
    rw [List.take_append_of_le_length (by rw [List.length_take, hlen]; omega), List.take_take, Nat.min_self, ← hfil, ints, ints, List.map_take]
   refine goL ?_
   refine ⟨by rw [hlen]; omega, ?_⟩
   refine goL ?_
   refine ⟨Int.natCast_nonneg _, by rw [hlen]; show d.i < _; omega, ?_⟩
   refine goL ?_
   refine ⟨by rw [hlen]; show d.i < _; omega, ?_⟩
   refine goL ?_
   refine ⟨by rw [List.length_append, List.length_take, List.length_replicate, hlen]; omega, ?_⟩
   refine goL ?_
   refine ⟨Int.natCast_nonneg _, by rw [List.length_append, List.length_take, List.length_replicate, hlen]; show d.i ≤ _; omega, rfl, ?_⟩
   refine goL ?_
   exact ⟨gI, ⟨rfl, LE.of rfl⟩, ⟨.inr (.inl (congrArg (AO.row 3 1) hrow)), trivial⟩, rfl, rfl⟩
theorem deleteB_ok (f : Nat) (l : List Tm) (t : Tm) (p : Int → Bool) (zs : List Int) (hz : zs.length ≤ 1000000)
  (hp : ∀ z ∈ zs, PM (cx true) f (clB l t) [iv z, .ptr 2101 0, .ptr 2102 0] [] (.p (.bool (p z)))) :
  PM (cx true) 182 (clB l t ++ [(1001, .row 3 1 (ints zs))]) [.slc 1001, .fn f [.ptr 2101 0, .ptr 2102 0]] [(1001, .row 3 1 (ints (zs.filter fun z => !p z)))] (.slc 1001) := by
 have hI := indexB_ok f l t p zs hz hp
 cases hany : zs.any p with
 | false =>
  have hix : idxI p zs = -1 := by rw [idxI, hany]; rfl
  have hfil : (zs.filter fun z => !p z) = zs := List.filter_eq_self.2 fun z hz => by
   cases e : p z with
   | false => rfl
   | true => rw [List.any_eq_true.2 ⟨z, hz, e⟩] at hany; cases hany
  rw [hix] at hI
  rw [hfil]
  refine PM_of_vc (cx_ok true) (mixed true) { own := fun q => Nat.beq q 100010 || Nat.beq q 100028 || Nat.beq q 500038 || Nat.beq q 500041 } Tryz.func182 (by kernel_rfl) rfl rfl (by kernel_rfl) ?_ ?_
  ·rfl
  refine goL ?_
  refine ⟨_, MCallVC.pr (gn [(2103, 1001)]) hI ⟨LE.of rfl, LE.of rfl, trivial⟩ (by (conv => whnf); exact ⟨.inr (.inl rfl), .inr (.inl rfl), .inr (.inl rfl), trivial⟩) rfl, ?_⟩
  refine goL ?_
  exact ⟨gI, ⟨rfl, LE.of rfl⟩, ⟨.inr (.inl rfl), trivial⟩, rfl, rfl⟩
 | true =>
  have hix : idxI p zs = (((Dl.start hany).i : Nat) : Int) := by rw [idxI, if_pos hany]; rfl
  have hst := (Dl.start hany).hij
  have hsj := (Dl.start hany).hj
  have hsi : (Dl.start hany).j = (Dl.start hany).i + 1 := rfl
  rw [hix] at hI
  refine PM_of_vc (cx_ok true) (mixed true) { own := fun q => Nat.beq q 100010 || Nat.beq q 100028 || Nat.beq q 500038 || Nat.beq q 500041 } Tryz.func182 (by kernel_rfl) rfl rfl (by kernel_rfl) ?_ ?_
  ·rfl
  refine goL ?_
  refine ⟨_, MCallVC.pr (gn [(2103, 1001)]) hI ⟨LE.of rfl, LE.of rfl, trivial⟩ (by (conv => whnf); exact ⟨.inr (.inl rfl), .inr (.inl rfl), .inr (.inl rfl), trivial⟩) rfl, ?_⟩
  refine goL ?_
  refine ⟨_, wrapN (n := (Dl.start hany).j) (by rw [hsi]; rfl) (by omega), ?_⟩
  refine goL ?_
  refine ⟨Dl p zs, fun d => Vc.S.of [(0, .slc 1001), (1, .fn f [.ptr 2101 0, .ptr 2102 0]), (5, iv (d.i : Int)), (6, iv (d.j : Int))] (clB l t ++ [(1001, .row 3 1 (ints d.M))]), fun d => zs.length - d.j, Dl.start hany, ?_, ?_⟩
  ·exact Ge.go
  intro d
  have dl := d.hl
  have dij := d.hij
  have dj := d.hj
  have hlen : (ints d.M).length = zs.length := by rw [ints_len, dl]
  refine goL ?_
  refine @bool_rec _ _ _ ?_ ?_ <;> intro h2
  ·have hlt : d.j < zs.length := by have := of_decide_eq_true h2; rw [hlen] at this; exact Int.ofNat_lt.1 this
   have hg : (ints d.M)[((d.j : Nat) : Int).toNat]? = some (.int .i64 zs[d.j]) := by
    rw [ints_get (zs := d.M) (by omega), d.get hlt]
   refine goL ?_
   refine ⟨Int.natCast_nonneg _, by rw [hlen]; exact hlt, ?_⟩
   refine goL ?_
   refine ⟨_, hg, rfl, rfl, rfl, ?_⟩
   refine goL ?_
   refine ⟨_, MCallVC.pr gI (hp zs[d.j] (List.getElem_mem hlt)) ⟨LE.of rfl, LE.of rfl, LE.of rfl, trivial⟩ (by (conv => whnf); exact ⟨.inr (.inl rfl), .inr (.inl rfl), trivial⟩) rfl, ?_⟩
   refine goL ?_
   refine @bool_rec _ _ _ ?_ ?_ <;> intro h3
   ·have h3 : p zs[d.j] = false := by have h3 : (!p zs[d.j]) = true := h3; revert h3; cases p zs[d.j] <;> simp
    have hset : (ints d.M).set d.i (.int .i64 zs[d.j]) = ints (d.keep hlt h3).M := by
     show _ = ints (d.M.set d.i zs[d.j])
     rw [ints, ints, List.map_set]
    refine goL ?_
    refine ⟨Int.natCast_nonneg _, by rw [hlen]; omega, ?_⟩
    refine goL ?_
    refine ⟨by rw [hlen]; show d.i < _; omega, rfl, rfl, rfl, ?_⟩
    refine goL ?_
    refine ⟨_, wrapN (n := d.i + 1) rfl (by omega), ?_⟩
    refine goL ?_
    refine ⟨_, wrapN (n := d.j + 1) rfl (by omega), ?_⟩
    refine goL ?_
    refine ⟨d.keep hlt h3, ?_, by show zs.length - (d.j + 1) < zs.length - d.j; omega⟩
    refine Ge.of rfl ?_ ?_
    ·repeat (conv => whnf); refine ⟨LE.of rfl, ?_⟩
     trivial
    ·conv => whnf
     refine ⟨OLE.of rfl, ?_⟩
     conv => whnf
     refine ⟨OLE.of rfl, ?_⟩
     conv => whnf
     refine ⟨OLE.of (congrArg (AO.row 3 1) hset), ?_⟩
     trivial
   ·have h3 : p zs[d.j] = true := by have h3 : (!p zs[d.j]) = false := h3; revert h3; cases p zs[d.j] <;> simp
    refine goL ?_
    refine ⟨_, wrapN (n := d.j + 1) rfl (by omega), ?_⟩
    refine goL ?_
    refine ⟨d.skip hlt h3, ?_, by show zs.length - (d.j + 1) < zs.length - d.j; omega⟩
    exact Ge.go
  ·have hge : d.j = zs.length := by have h2 := of_decide_eq_false h2; rw [hlen] at h2; have h2 : ¬ ((d.j : Int) < zs.length) := h2; omega
   have hfil : d.M.take d.i = zs.filter fun z => !p z := by rw [d.ht, hge, List.take_length]
   have hrow : ((ints d.M).take d.i ++ List.replicate ((ints d.M).length - d.i) (PV.int .i64 0)).take d.i = ints (zs.filter fun z => !p z) := by
    rw [List.take_append_of_le_length (by rw [List.length_take, hlen]; omega), List.take_take, Nat.min_self, ← hfil, ints, ints, List.map_take]
   refine goL ?_
   refine ⟨by rw [hlen]; omega, ?_⟩
   refine goL ?_
   refine ⟨Int.natCast_nonneg _, by rw [hlen]; show d.i < _; omega, ?_⟩
   refine goL ?_
   refine ⟨by rw [hlen]; show d.i < _; omega, ?_⟩
   refine goL ?_
   refine ⟨by rw [List.length_append, List.length_take, List.length_replicate, hlen]; omega, ?_⟩
   refine goL ?_
   refine ⟨Int.natCast_nonneg _, by rw [List.length_append, List.length_take, List.length_replicate, hlen]; show d.i ≤ _; omega, rfl, ?_⟩
   refine goL ?_
   exact ⟨gI, ⟨rfl, LE.of rfl⟩, ⟨.inr (.inl (congrArg (AO.row 3 1) hrow)), trivial⟩, rfl, rfl⟩
end Go.Sl
namespace Go.Sl
open Go Go.Vc Go.Proofs Go.RowKit
theorem cloneI_ok (b : Bool) (zs : List Int) (hz : zs.length ≤ 1000000) : K b 222 [.p (.lst (ints zs))] (.fresh 3 1 (ints zs)) := by
 refine PC_of_vc (cx_ok b) (mixed b) { own := fun q => Nat.beq q 2 || Nat.beq q 5 || Nat.beq q 7, kp := kpT [(2, [0], []), (3, [0], [])] } Tryz.func222 (by kernel_rfl) rfl rfl (by kernel_rfl) ?_
 refine goL ?_
 refine ⟨fun h => ?_, ?_⟩
 ·refine goL ?_
  rw [h]
 ·refine goL ?_
  refine ⟨ints_sz zs, ?_⟩
  refine goL ?_
  refine ⟨by rw [ints_len]; show (0 + zs.length) * 8 ≤ _; omega, ?_⟩
  refine goL ?_
  exact rfl
def minI : List Int → Int
 | [] => 0
 | z :: zs => zs.foldl min z
theorem minI_succ {zs : List Int} {i : Nat} (h0 : 0 < i) (h : i < zs.length) : minI (zs.take (i + 1)) = min (minI (zs.take i)) zs[i] := by
 cases zs with
 | nil => simp at h
 | cons z zs =>
  cases i with
  | zero => omega
  | succ i =>
   have hi : i < zs.length := by simpa using h
   rw [List.take_succ_cons, List.take_succ_cons, minI, minI, List.getElem_cons_succ, List.take_succ_eq_append_getElem hi, List.foldl_append]
   rfl
theorem minI_ok (b : Bool) (zs : List Int) (hz : zs.length ≤ 1000000) (hp : 0 < zs.length) : K b 224 [.p (.lst (ints zs))] (.pv (.int .i64 (minI zs))) := by
 refine PC_of_vc (cx_ok b) (mixed b) {} Tryz.func224 (by kernel_rfl) rfl rfl (by kernel_rfl) ?_
 refine goL ?_
 refine @bool_rec _ _ _ ?_ ?_ <;> intro h1
 ·exact absurd (of_decide_eq_true h1) (by rw [ints_len]; omega)
 refine goL ?_
 refine ⟨_, ints_get (i := 0) hp, rfl, rfl, ?_⟩
 refine goL ?_
 refine ⟨{ i : Nat // 0 < i ∧ i ≤ zs.length }, fun i => Vc.S.of [(0, .p (.lst (ints zs))), (3, iv (minI (zs.take i.1))), (4, iv (i.1 : Int))] [], fun i => zs.length - i.1, ⟨1, by omega, hp⟩, ?_, ?_⟩
 ·have e : zs[0] = minI (zs.take 1) := by
   cases zs with
   | nil => simp at hp
   | cons z zs => rfl
  rw [e]
  exact Ge.go
 rintro ⟨i, h0, hi⟩
 refine goL ?_
 refine @bool_rec _ _ _ ?_ ?_ <;> intro h2
 ·have hlt : i < zs.length := by have := of_decide_eq_true h2; rw [ints_len] at this; exact Int.ofNat_lt.1 this
  have hm := minI_succ h0 hlt
  refine goL ?_
  refine ⟨Int.natCast_nonneg _, _, ints_get hlt, rfl, rfl, ?_⟩
  refine goL ?_
  refine ⟨_, wrapN (n := i + 1) rfl (by omega), ?_⟩
  refine goL ?_
  refine ⟨⟨i + 1, by omega, hlt⟩, ?_, by show zs.length - (i + 1) < zs.length - i; omega⟩
  refine Ge.of rfl ?_ ?_
  ·conv => whnf
   refine ⟨LE.of rfl, ?_⟩
   conv => whnf
   refine ⟨LE.of (congrArg (fun k => SV.p (.int .i64 k)) hm.symm), ?_⟩
   repeat (conv => whnf); refine ⟨LE.of rfl, ?_⟩
   trivial
  ·trivial
 ·have hge : zs.take i = zs := by have := of_decide_eq_false h2; rw [ints_len] at this; have h2 : ¬ ((i : Int) < zs.length) := this; exact List.take_of_length_le (by omega)
  refine goL ?_
  exact LEP.of (by rw [hge])
def inB (n a b : Int) : Bool := decide (a ≤ n) && decide (n ≤ b)
theorem in_ok (b : Bool) (n lo hi : Int) : K b 172 [iv n, iv lo, iv hi] (.pv (.bool (inB n lo hi))) := by
 unfold inB
 refine PC_of_vc (cx_ok b) (mixed b) {} Tryz.func172 (by kernel_rfl) rfl rfl (by kernel_rfl) ?_
 refine goL ?_
 refine @bool_rec _ _ _ ?_ ?_ <;> intro h1
 ·rw [h1]
  refine goL ?_
  exact LEP.refl _
 ·rw [h1]
  refine goL ?_
  exact LEP.refl _
structure Tok where
 counter : Int
 look : Int
 sync : Int
 pending : Int
 fails : Int
 limit : Int
abbrev Tok.pv (t : Tok) : PV := .agg [.int .i64 t.counter, .int .i64 t.look, .int .i64 t.sync, .int .i64 t.pending, .int .i64 t.fails, .int .i64 t.limit]
def tokRight (t : Tok) : Bool := inB t.counter 0 1099511627776 && (inB t.look 0 20 && (inB t.sync 0 50 && (inB t.pending 0 1099511627976 && (decide (0 ≤ t.fails) && inB t.limit 1 100))))
theorem tokright_ok (b : Bool) (t : Tok) : K b 122 [.p t.pv] (.pv (.bool (tokRight t))) := by
 have h1 := in_ok b t.counter 0 1099511627776
 have h2 := in_ok b t.look 0 20
 have h3 := in_ok b t.sync 0 50
 have h4 := in_ok b t.pending 0 1099511627976
 have h5 := in_ok b t.limit 1 100
 unfold tokRight
 revert h1 h2 h3 h4 h5
 generalize inB t.counter 0 1099511627776 = q1
 generalize inB t.look 0 20 = q2
 generalize inB t.sync 0 50 = q3
 generalize inB t.pending 0 1099511627976 = q4
 generalize inB t.limit 1 100 = q5
 intro h1 h2 h3 h4 h5
 refine PC_of_vc (cx_ok b) (mixed b) {} Tryz.func122 (by kernel_rfl) rfl rfl (by kernel_rfl) ?_
 refine goL ?_
 refine ⟨_, CallVC.pr h1 rfl rfl, ?_⟩
 cases q1 with
 | false =>
  refine goL ?_
  exact LEP.refl _
 | true =>
  refine goL ?_
  refine ⟨_, CallVC.pr h2 rfl rfl, ?_⟩
  cases q2 with
  | false =>
   refine goL ?_
   exact LEP.refl _
  | true =>
   refine goL ?_
   refine ⟨_, CallVC.pr h3 rfl rfl, ?_⟩
   cases q3 with
   | false =>
    refine goL ?_
    exact LEP.refl _
   | true =>
    refine goL ?_
    refine ⟨_, CallVC.pr h4 rfl rfl, ?_⟩
    cases q4 with
    | false =>
     refine goL ?_
     exact LEP.refl _
    | true =>
     refine goL ?_
     refine @bool_rec _ _ _ ?_ ?_ <;> intro h6
     ·rw [h6]
      refine goL ?_
      refine ⟨_, CallVC.pr h5 rfl rfl, ?_⟩
      refine goL ?_
      exact LEP.refl _
     ·rw [h6]
      refine goL ?_
      exact LEP.refl _
def hitsIn (hits : List Int) (a b : Int) : List Int := hits.filter fun n => inB n a (min b 1099511627775)
def firstI (hits : List Int) (a b : Int) : Int × Bool := if (hitsIn hits a b).length = 0 then (0, false) else (minI (hitsIn hits a b), true)
theorem firstcl_ok (n lo hi : Int) : PM (cx true) 223 (clA lo hi) [iv n, .ptr 2101 0, .ptr 2102 0] [] (.p (.bool (!inB n lo (min hi 1099511627775)))) := by
 refine PM_of_vc (cx_ok true) (mixed true) {} Tryz.func223 (by kernel_rfl) rfl rfl (by kernel_rfl) ?_ ?_
 ·rfl
 refine goL ?_
 refine ⟨_, CallVC.pr (in_ok true n lo (min hi 1099511627775)) rfl rfl, ?_⟩
 refine goL ?_
 exact ⟨gI, ⟨rfl, LE.of rfl⟩, trivial, rfl, rfl⟩
theorem minI_mem : ∀ {zs : List Int}, 0 < zs.length → minI zs ∈ zs := by
 intro zs h
 cases zs with
 | nil => simp at h
 | cons z zs =>
  have key : ∀ (l : List Int) (m : Int), l.foldl min m = m ∨ l.foldl min m ∈ l := by
   intro l
   induction l with
   | nil => intro m; exact .inl rfl
   | cons u l ih =>
    intro m
    rw [List.foldl_cons]
    rcases ih (min m u) with e | e
    ·rw [e]
     rcases Int.le_total m u with h | h
     ·rw [Int.min_eq_left h]; exact .inl rfl
     ·rw [Int.min_eq_right h]; exact .inr (List.mem_cons_self ..)
    ·exact .inr (List.mem_cons_of_mem _ e)
  rcases key zs z with e | e
  ·rw [minI, e]; exact List.mem_cons_self ..
  ·exact List.mem_cons_of_mem _ e
theorem firstI_bounds {hits : List Int} {lo hi : Int} (h : (firstI hits lo hi).2 = true) : lo ≤ (firstI hits lo hi).1 ∧ (firstI hits lo hi).1 ≤ hi ∧ (firstI hits lo hi).1 ≤ 1099511627775 := by
 unfold firstI at h ⊢
 split
 ·rename_i e
  rw [if_pos e] at h
  cases h
 ·rename_i e
  have hm : minI (hitsIn hits lo hi) ∈ hitsIn hits lo hi := minI_mem (by omega)
  have := (List.mem_filter.1 hm).2
  rw [inB, Bool.and_eq_true] at this
  have h1 := of_decide_eq_true this.1
  have h2 := of_decide_eq_true this.2
  show lo ≤ minI (hitsIn hits lo hi) ∧ minI (hitsIn hits lo hi) ≤ hi ∧ minI (hitsIn hits lo hi) ≤ _
  omega
theorem wfirst_ok (hits : List Int) (lo hi : Int) (hz : hits.length ≤ 1000000) : K true 195 [.p (.lst (ints hits)), iv lo, iv hi] (ibR (firstI hits lo hi)) := by
 have hd := deleteA_ok 223 lo hi (fun n => !inB n lo (min hi 1099511627775)) hits hz fun z _ => firstcl_ok z lo hi
 have hf : (hits.filter fun z => !(fun n => !inB n lo (min hi 1099511627775)) z) = hitsIn hits lo hi := by
  unfold hitsIn
  congr 1
  funext z
  simp
 rw [hf] at hd
 have hl : (hitsIn hits lo hi).length ≤ 1000000 := Nat.le_trans (List.length_filter_le _ _) hz
 unfold firstI
 refine PC_of_vc (cx_ok true) (mixed true) { own := fun q => Nat.beq q 10 || Nat.beq q 100012 } Tryz.func195 (by kernel_rfl) rfl rfl (by kernel_rfl) ?_
 refine goL ?_
 refine ⟨_, CallVC.pr (cloneI_ok true hits hz) rfl rfl, ?_⟩
 refine goL ?_
 refine ⟨_, MCallVC.pr (gn [(2101, 4), (2102, 5), (1001, 10)]) hd ⟨LE.of rfl, LE.of rfl, trivial⟩ (by (conv => whnf); exact ⟨.inr (.inr (.inr ⟨_, _, _, rfl, rfl, LE.refl _⟩)), .inr (.inr (.inr ⟨_, _, _, rfl, rfl, LE.refl _⟩)), .inr (.inl rfl), trivial⟩) rfl, ?_⟩
 refine goL ?_
 refine @bool_rec _ _ _ ?_ ?_ <;> intro h1
 ·have h1 : (hitsIn hits lo hi).length = 0 := by have := of_decide_eq_true h1; rw [ints_len] at this; omega
  rw [if_pos h1]
  refine goL ?_
  exact ⟨LEP.refl _, LEP.refl _, trivial⟩
 ·have h1 : ¬ (hitsIn hits lo hi).length = 0 := by have := of_decide_eq_false h1; rw [ints_len] at this; omega
  rw [if_neg h1]
  refine goL ?_
  refine ⟨_, CallVC.pr (minI_ok true (hitsIn hits lo hi) hl (by omega)) rfl rfl, ?_⟩
  refine goL ?_
  exact ⟨LEP.refl _, LEP.refl _, trivial⟩
end Go.Sl
namespace Go.Sl
open Go Go.Vc Go.Proofs Go.RowKit
def acceptF (t : Tok) (hits : List Int) : Int × Bool :=
 if (firstI hits t.counter (t.counter + t.look)).2 = false ∧ t.counter + t.look < t.pending then firstI hits t.pending t.pending else firstI hits t.counter (t.counter + t.look)
def acceptT (t : Tok) (hits : List Int) : Tok × Int × Int :=
 if tokRight t = false then (t, 0, 1) else
 if t.limit ≤ t.fails then (t, 0, 7) else
 if (acceptF t hits).2 = true then (⟨(acceptF t hits).1 + 1, t.look, t.sync, 0, 0, t.limit⟩, (acceptF t hits).1, 0) else
 if (firstI hits (t.counter + t.look + 1) (t.counter + t.look + t.sync)).2 = true then (⟨t.counter, t.look, t.sync, (firstI hits (t.counter + t.look + 1) (t.counter + t.look + t.sync)).1 + 1, t.fails + 1, t.limit⟩, 0, 8) else
 (⟨t.counter, t.look, t.sync, 0, t.fails + 1, t.limit⟩, 0, 6)
def accR (x : Tok × Int × Int) : Res := .tup [x.1.pv, .int .i64 x.2.1, .int .i64 x.2.2]
theorem tokRight_spec {t : Tok} (h : tokRight t = true) : 0 ≤ t.counter ∧ t.counter ≤ 1099511627776 ∧ 0 ≤ t.look ∧ t.look ≤ 20 ∧ 0 ≤ t.sync ∧ t.sync ≤ 50 ∧ 0 ≤ t.pending ∧ t.pending ≤ 1099511627976 ∧ 0 ≤ t.fails ∧ 1 ≤ t.limit ∧ t.limit ≤ 100 := by
 simp only [tokRight, inB, Bool.and_eq_true, decide_eq_true_eq] at h
 omega
theorem accept_ok (t : Tok) (hits : List Int) (hz : hits.length ≤ 1000000) : K true 147 [.p t.pv, .p (.lst (ints hits))] (accR (acceptT t hits)) := by
 have hr := tokright_ok true t
 have hf1 := wfirst_ok hits t.counter (t.counter + t.look) hz
 have hb1 := @firstI_bounds hits t.counter (t.counter + t.look)
 have hf2 := wfirst_ok hits t.pending t.pending hz
 have hb2 := @firstI_bounds hits t.pending t.pending
 have hf3 := wfirst_ok hits (t.counter + t.look + 1) (t.counter + t.look + t.sync) hz
 have hb3 := @firstI_bounds hits (t.counter + t.look + 1) (t.counter + t.look + t.sync)
 have hsp := @tokRight_spec t
 unfold acceptT acceptF
 revert hr hf1 hf2 hf3 hb1 hb2 hb3 hsp
 generalize tokRight t = q
 generalize firstI hits t.counter (t.counter + t.look) = f1
 generalize firstI hits t.pending t.pending = f2
 generalize firstI hits (t.counter + t.look + 1) (t.counter + t.look + t.sync) = f3
 obtain ⟨c1, q1⟩ := f1
 obtain ⟨c2, q2⟩ := f2
 obtain ⟨c3, q3⟩ := f3
 obtain ⟨counter, look, sync, pending, fails, limit⟩ := t
 intro hr hf1 hb1 hf2 hb2 hf3 hb3 hsp
 simp only at hf1 hf2 hf3 hb1 hb2 hb3 hsp
 obtain ⟨X, hX⟩ : ∃ X, X = (if q = false then ((⟨counter, look, sync, pending, fails, limit⟩ : Tok), (0 : Int), (1 : Int)) else if limit ≤ fails then (⟨counter, look, sync, pending, fails, limit⟩, 0, 7) else
  if (if q1 = false ∧ counter + look < pending then (c2, q2) else (c1, q1)).2 = true then (⟨(if q1 = false ∧ counter + look < pending then (c2, q2) else (c1, q1)).1 + 1, look, sync, 0, 0, limit⟩, (if q1 = false ∧ counter + look < pending then (c2, q2) else (c1, q1)).1, 0) else
  if q3 = true then (⟨counter, look, sync, c3 + 1, fails + 1, limit⟩, 0, 8) else (⟨counter, look, sync, 0, fails + 1, limit⟩, 0, 6)) := ⟨_, rfl⟩
 show K true _ _ (accR (if q = false then _ else if limit ≤ fails then _ else if (if q1 = false ∧ counter + look < pending then (c2, q2) else (c1, q1)).2 = true then _ else if q3 = true then _ else _))
 rw [← hX]
 cases q with
 | false =>
  refine PC_of_vc (cx_ok true) (mixed true) {} Tryz.func147 (by kernel_rfl) rfl rfl (by kernel_rfl) ?_
  refine goL ?_
  refine ⟨_, CallVC.pr hr rfl rfl, ?_⟩
  have hX : X = ((⟨counter, look, sync, pending, fails, limit⟩ : Tok), (0 : Int), (1 : Int)) := by rw [hX]; simp []
  subst hX
  refine goL ?_
  exact ⟨LEP.refl _, LEP.refl _, LEP.refl _, trivial⟩
 | true =>
  have hsp := hsp rfl
  refine PC_of_vc (cx_ok true) (mixed true) {} Tryz.func147 (by kernel_rfl) rfl rfl (by kernel_rfl) ?_
  refine goL ?_
  refine ⟨_, CallVC.pr hr rfl rfl, ?_⟩
  refine goL ?_
  refine @bool_rec _ _ _ ?_ ?_ <;> intro h2
  ·have h1 : limit ≤ fails := of_decide_eq_true h2
   have hX : X = ((⟨counter, look, sync, pending, fails, limit⟩ : Tok), (0 : Int), (7 : Int)) := by rw [hX]; simp [h1]
   subst hX
   refine goL ?_
   exact ⟨LEP.refl _, LEP.refl _, LEP.refl _, trivial⟩
  ·have h1 : ¬ limit ≤ fails := of_decide_eq_false h2
   refine goL ?_
   refine ⟨counter + look, wrapI (k := counter + look) (by omega) (by omega) rfl, ?_⟩
   refine goL ?_
   refine ⟨_, CallVC.pr hf1 rfl rfl, ?_⟩
   cases q1 with
   | true =>
    have hb1 := hb1 rfl
    refine goL ?_
    refine ⟨c1 + 1, wrapI (k := c1 + 1) (by omega) (by omega) rfl, ?_⟩
    have hX : X = ((⟨c1 + 1, look, sync, 0, 0, limit⟩ : Tok), c1, (0 : Int)) := by rw [hX]; simp [h1]
    subst hX
    refine goL ?_
    exact ⟨LEP.refl _, LEP.refl _, LEP.refl _, trivial⟩
   | false =>
    refine goL ?_
    refine @bool_rec _ _ _ ?_ ?_ <;> intro h3
    ·have h3 : counter + look < pending := of_decide_eq_true h3
     refine goL ?_
     refine ⟨_, CallVC.pr hf2 rfl rfl, ?_⟩
     cases q2 with
     | true =>
      have hb2 := hb2 rfl
      refine goL ?_
      refine ⟨c2 + 1, wrapI (k := c2 + 1) (by omega) (by omega) rfl, ?_⟩
      have hX : X = ((⟨c2 + 1, look, sync, 0, 0, limit⟩ : Tok), c2, (0 : Int)) := by rw [hX]; simp [h1, h3]
      subst hX
      refine goL ?_
      exact ⟨LEP.refl _, LEP.refl _, LEP.refl _, trivial⟩
     | false =>
      refine goL ?_
      refine ⟨fails + 1, wrapI (k := fails + 1) (by omega) (by omega) rfl, ?_⟩
      refine goL ?_
      refine ⟨counter + look + 1, wrapI (k := counter + look + 1) (by omega) (by omega) rfl, ?_⟩
      refine goL ?_
      refine ⟨counter + look + sync, wrapI (k := counter + look + sync) (by omega) (by omega) rfl, ?_⟩
      refine goL ?_
      refine ⟨_, CallVC.pr hf3 rfl rfl, ?_⟩
      cases q3 with
      | true =>
       have hb3 := hb3 rfl
       refine goL ?_
       refine ⟨c3 + 1, wrapI (k := c3 + 1) (by omega) (by omega) rfl, ?_⟩
       have hX : X = ((⟨counter, look, sync, c3 + 1, fails + 1, limit⟩ : Tok), (0 : Int), (8 : Int)) := by rw [hX]; simp [h1, h3]
       subst hX
       refine goL ?_
       exact ⟨LEP.refl _, LEP.refl _, LEP.refl _, trivial⟩
      | false =>
       have hX : X = ((⟨counter, look, sync, 0, fails + 1, limit⟩ : Tok), (0 : Int), (6 : Int)) := by rw [hX]; simp [h1, h3]
       subst hX
       refine goL ?_
       exact ⟨LEP.refl _, LEP.refl _, LEP.refl _, trivial⟩
    ·have h3 : ¬ counter + look < pending := of_decide_eq_false h3
     refine goL ?_
     refine ⟨fails + 1, wrapI (k := fails + 1) (by omega) (by omega) rfl, ?_⟩
     refine goL ?_
     refine ⟨counter + look + 1, wrapI (k := counter + look + 1) (by omega) (by omega) rfl, ?_⟩
     refine goL ?_
     refine ⟨counter + look + sync, wrapI (k := counter + look + sync) (by omega) (by omega) rfl, ?_⟩
     refine goL ?_
     refine ⟨_, CallVC.pr hf3 rfl rfl, ?_⟩
     cases q3 with
     | true =>
      have hb3 := hb3 rfl
      refine goL ?_
      refine ⟨c3 + 1, wrapI (k := c3 + 1) (by omega) (by omega) rfl, ?_⟩
      have hX : X = ((⟨counter, look, sync, c3 + 1, fails + 1, limit⟩ : Tok), (0 : Int), (8 : Int)) := by rw [hX]; simp [h1, h3]
      subst hX
      refine goL ?_
      exact ⟨LEP.refl _, LEP.refl _, LEP.refl _, trivial⟩
     | false =>
      have hX : X = ((⟨counter, look, sync, 0, fails + 1, limit⟩ : Tok), (0 : Int), (6 : Int)) := by rw [hX]; simp [h1, h3]
      subst hX
      refine goL ?_
      exact ⟨LEP.refl _, LEP.refl _, LEP.refl _, trivial⟩
end Go.Sl
