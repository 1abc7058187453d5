/- The statement TopTickets, without a condition: a ticket of one KDC is none of another one's. Part 13: Ix Iy Iz Hc Ma. -/
import Derived.Test.YteicafhbhdliaaaGreatDoorPal
set_option linter.unusedSimpArgs false
set_option linter.unusedVariables false
set_option maxHeartbeats 4000000
namespace Go.Sl
open Go Go.Vc Go.Proofs Go.RowKit
theorem openedT_spec {x : Tm} {e : Int} {tag : Bs} {n : Nat} (h : (openedT x e tag n).2 = 0) : (openedT x e tag n).1.length = n ∧ ∀ u ∈ (openedT x e tag n).1, wt u ≤ wt x := by
 unfold openedT at h ⊢
 split at h
 ·rename_i he; exact absurd h he
 ·rename_i he
  rw [if_neg he]
  split at h
  ·cases h
  ·rename_i l el
   simp only [el]
   exact ⟨unpackT_len el, wt_unpack el⟩
theorem wt_ansOf (k : Tm) (n : Bs) (t : Tm) : wt (ansOfT k n t).1 ≤ wt t := by
 unfold ansOfT
 split
 ·exact wt_pos t
 ·split
  ·exact wt_pos t
  ·exact wt_at (wt_sealed _ _ _ _ _) (wt_pos t) 1
def endsT (c : Cln) (ticket enc fin : Tm) : Cln × Int :=
 if c.done = false then (c, 11) else
 if (openedT (ansOfT c.ak c.nonce fin).1 (ansOfT c.ak c.nonce fin).2 finishW 2).2 ≠ 0 then (c, (openedT (ansOfT c.ak c.nonce fin).1 (ansOfT c.ak c.nonce fin).2 finishW 2).2) else
 if at_ (openedT (ansOfT c.ak c.nonce fin).1 (ansOfT c.ak c.nonce fin).2 finishW 2).1 1 ≠ hashT ticket then (c, 6) else
 let u := unsealT (joinT (at_ (openedT (ansOfT c.ak c.nonce fin).1 (ansOfT c.ak c.nonce fin).2 finishW 2).1 0) c.base strW repW) 3 enc
 if (openedT u.1 u.2 encW 3).2 ≠ 0 then (c, (openedT u.1 u.2 encW 3).2) else
 if at_ (openedT u.1 u.2 encW 3).1 1 ≠ wordT c.nonce ∨ at_ (openedT u.1 u.2 encW 3).1 2 ≠ hashT ticket then (c, 6) else
 ({ c with sess := at_ (openedT u.1 u.2 encW 3).1 0, ended := true, on := false }, 0)
attribute [local irreducible] intBin
theorem ends_ok (c : Cln) (ticket enc fin : Tm) (hn : c.nonce.length ≤ 1000000000) (h1 : wt enc ≤ 1000000000) (h2 : wt fin ≤ 1000000000) :
  PM (cx true) 162 (clO c) [.ptr 2020 0, tv ticket, tv enc, tv fin] (clO (endsT c ticket enc fin).1) (iv (endsT c ticket enc fin).2) := by
 obtain ⟨X, hX⟩ : ∃ X, X = endsT c ticket enc fin := ⟨_, rfl⟩
 rw [← hX]
 unfold endsT at hX
 have ha := ansof_ok true c.ak fin c.nonce (by omega) (wt_fit _ h2)
 have w1 := wt_ansOf c.ak c.nonce fin
 revert ha w1 hX
 generalize ansOfT c.ak c.nonce fin = a
 obtain ⟨x1, e1⟩ := a
 intro hX ha w1
 simp only at hX w1
 have hf := opened_ok x1 e1 finishW 2 (by decide) (wt_fit _ (by omega))
 have sf := @openedT_spec x1 e1 finishW 2
 revert hf sf hX
 generalize openedT x1 e1 finishW 2 = f
 obtain ⟨f, e2⟩ := f
 intro hX hf sf
 simp only at hX sf
 have hu := unseal_ok true (joinT (at_ f 0) c.base strW repW) enc 3 (by decide) (by decide) (wt_fit _ h1)
 have w2 := @wt_unseal (joinT (at_ f 0) c.base strW repW) 3 enc
 revert hu w2 hX
 generalize unsealT (joinT (at_ f 0) c.base strW repW) 3 enc = u
 obtain ⟨x2, e3⟩ := u
 intro hX hu w2
 simp only at hX w2
 have hl := opened_ok x2 e3 encW 3 (by decide) (wt_fit _ (by omega))
 have sl := @openedT_spec x2 e3 encW 3
 revert hl sl hX
 generalize openedT x2 e3 encW 3 = l
 obtain ⟨l, e4⟩ := l
 intro hX hl sl
 simp only at hX sl
 obtain ⟨on, done, ended, nonce, body, wrap, ak, base, sess, name, pw, seed, ctr, tick, host, key, marks⟩ := c
 simp only at *
 refine PM_of_vc (cx_ok true) (mixed true) { ps := psT [(3, [9]), (10, [9])] } Tryz.func162 (by kernel_rfl) rfl rfl (by kernel_rfl) ?_ ?_
 ·rfl
 cases done with
 | false =>
  rw [if_pos rfl] at hX
  subst hX
  refine goL ?_
  exact ⟨gI, ⟨rfl, LE.of rfl⟩, ⟨.inr (.inl rfl), .inr (.inl rfl), trivial⟩, rfl, rfl⟩
 | true =>
 rw [if_neg (by decide)] at hX
 refine goL ?_
 refine ⟨_, CallVC.pr ha rfl rfl, ?_⟩
 refine goL ?_
 refine ⟨_, CallVC.pr hf rfl rfl, ?_⟩
 refine goL ?_
 refine ⟨_, CallVC.pr (hash_ok true ticket) rfl rfl, ?_⟩
 refine goL ?_
 refine neq_v fun r hr => ?_
 cases r with
 | true =>
  have g : ¬ e2 = 0 := of_decide_eq_true hr
  rw [if_pos g] at hX
  subst hX
  refine goL ?_
  exact ⟨gI, ⟨rfl, LE.of rfl⟩, ⟨.inr (.inl rfl), .inr (.inl rfl), trivial⟩, rfl, rfl⟩
 | false =>
 have g : e2 = 0 := by simpa using hr
 subst g
 rw [if_neg (by decide)] at hX
 obtain ⟨hfl, hfw⟩ := sf rfl
 have hfw' : ∀ i, wt (at_ f i) ≤ 1000000000 := fun i => wt_at (fun u hu => Nat.le_trans (hfw u hu) (by omega)) (by decide) i
 refine goL ?_
 refine ⟨_, tmvs_at (l := f) (i := 1) (by omega), rfl, rfl, ?_⟩
 refine goL ?_
 have hs1 := same_ok true (at_ f 1) (wt_fit _ (hfw' 1)) (hashT ticket)
 by_cases g1 : at_ f 1 = hashT ticket
 ·rw [if_neg (fun h => h g1)] at hX
  rw [decide_eq_true g1] at hs1
  refine ⟨_, CallVC.pr hs1 rfl rfl, ?_⟩
  refine goL ?_
  refine ⟨_, tmvs_at (l := f) (i := 0) (by omega), rfl, rfl, ?_⟩
  refine goL ?_
  refine ⟨_, CallVC.pr (reply_ok true (at_ f 0) base) rfl rfl, ?_⟩
  refine goL ?_
  refine ⟨_, CallVC.pr hu rfl rfl, ?_⟩
  refine goL ?_
  refine ⟨_, CallVC.pr hl rfl rfl, ?_⟩
  refine goL ?_
  refine neq_v fun r hr2 => ?_
  cases r with
  | true =>
   have g : ¬ e4 = 0 := of_decide_eq_true hr2
   rw [if_pos g] at hX
   subst hX
   refine goL ?_
   exact ⟨gI, ⟨rfl, LE.of rfl⟩, ⟨.inr (.inl rfl), .inr (.inl rfl), trivial⟩, rfl, rfl⟩
  | false =>
  have g : e4 = 0 := by simpa using hr2
  subst g
  rw [if_neg (by decide)] at hX
  obtain ⟨hll, hlw⟩ := sl rfl
  have hlw' : ∀ i, wt (at_ l i) ≤ 1000000000 := fun i => wt_at (fun u hu => Nat.le_trans (hlw u hu) (by omega)) (by decide) i
  refine goL ?_
  refine ⟨_, tmvs_at (l := l) (i := 1) (by omega), rfl, rfl, ?_⟩
  refine goL ?_
  refine ⟨_, CallVC.pr (word_ok true nonce (by omega)) rfl rfl, ?_⟩
  refine goL ?_
  have hs2 := same_ok true (at_ l 1) (wt_fit _ (hlw' 1)) (wordT nonce)
  by_cases g2 : at_ l 1 = wordT nonce
  ·rw [decide_eq_true g2] at hs2
   refine ⟨_, CallVC.pr hs2 rfl rfl, ?_⟩
   refine goL ?_
   refine ⟨_, tmvs_at (l := l) (i := 2) (by omega), rfl, rfl, ?_⟩
   refine goL ?_
   have hs3 := same_ok true (at_ l 2) (wt_fit _ (hlw' 2)) (hashT ticket)
   by_cases g3 : at_ l 2 = hashT ticket
   ·rw [decide_eq_true g3] at hs3
    rw [if_neg (fun h => h.elim (fun h => h g2) fun h => h g3)] at hX
    subst hX
    refine ⟨_, CallVC.pr hs3 rfl rfl, ?_⟩
    refine goL ?_
    refine ⟨_, tmvs_at (l := l) (i := 0) (by omega), rfl, rfl, ?_⟩
    refine goL ?_
    exact ⟨gI, ⟨rfl, LE.of rfl⟩, ⟨.inr (.inl rfl), .inr (.inl rfl), trivial⟩, rfl, rfl⟩
   ·rw [decide_eq_false g3] at hs3
    rw [if_pos (.inr g3)] at hX
    subst hX
    refine ⟨_, CallVC.pr hs3 rfl rfl, ?_⟩
    refine goL ?_
    exact ⟨gI, ⟨rfl, LE.of rfl⟩, ⟨.inr (.inl rfl), .inr (.inl rfl), trivial⟩, rfl, rfl⟩
  ·rw [decide_eq_false g2] at hs2
   rw [if_pos (.inl g2)] at hX
   subst hX
   refine ⟨_, CallVC.pr hs2 rfl rfl, ?_⟩
   refine goL ?_
   exact ⟨gI, ⟨rfl, LE.of rfl⟩, ⟨.inr (.inl rfl), .inr (.inl rfl), trivial⟩, rfl, rfl⟩
 ·rw [if_pos g1] at hX
  subst hX
  rw [decide_eq_false g1] at hs1
  refine ⟨_, CallVC.pr hs1 rfl rfl, ?_⟩
  refine goL ?_
  exact ⟨gI, ⟨rfl, LE.of rfl⟩, ⟨.inr (.inl rfl), .inr (.inl rfl), trivial⟩, rfl, rfl⟩
end Go.Sl
namespace Go.Sl
open Go Go.Vc Go.Proofs Go.RowKit
def doesT (c : Cln) (offer : Tm) (now : Int) (x : Tm) : Cln × Tm × Tm × Int :=
 if tagT offer = chW then (c, challengeT c.ak c.key c.body now, c.key, 0) else
 if tagT offer = otpM then ((if (answerOtpT c.ak offer (numT c.seed otpW c.ctr)).2 = 0 then { c with ctr := c.ctr + 1 } else c), (answerOtpT c.ak offer (numT c.seed otpW c.ctr)).1, numT c.ak useW 46, (answerOtpT c.ak offer (numT c.seed otpW c.ctr)).2) else
 if tagT offer = spW then (c, (answerSpakeT c.key c.body offer x).1, (answerSpakeT c.key c.body offer x).2.1, (answerSpakeT c.key c.body offer x).2.2) else
 (c, zeroT, zeroT, 2)
abbrev doV (x : Cln × Tm × Tm × Int) : SV := .tupS [tv x.2.1, tv x.2.2.1, iv x.2.2.2]
theorem does_ok (c : Cln) (offer : Tm) (now : Int) (x : Tm) (hw : wt offer ≤ 1000000000) (hx : wt x ≤ 1000000000) (h0 : 0 ≤ c.ctr) (h1 : c.ctr ≤ 1000000000000) (n0 : -1000000000000 ≤ now) (n1 : now ≤ 1000000000000) :
  PM (cx true) 165 (clO c) [.ptr 2020 0, tv offer, iv now, tv x] (clO (doesT c offer now x).1) (doV (doesT c offer now x)) := by
 have ht := tag_ok true offer
 unfold doesT
 by_cases g1 : tagT offer = chW
 ·rw [if_pos g1]
  refine PM_of_vc (cx_ok true) (mixed true) { ps := psT [(3, [8, 9]), (5, [8]), (8, [8, 9]), (11, [8, 9])] } Tryz.func165 (by kernel_rfl) rfl rfl (by kernel_rfl) ?_ ?_
  ·rfl
  refine goL ?_
  refine ⟨_, CallVC.pr ht rfl rfl, ?_⟩
  refine goL ?_
  refine @bool_rec _ _ _ ?_ ?_ <;> intro hr
  rotate_left
  ·exact absurd g1 (of_decide_eq_false hr)
  refine goL ?_
  refine ⟨_, CallVC.pr (challenge_ok true c.ak c.key c.body now (by omega) (by omega)) rfl rfl, ?_⟩
  refine goL ?_
  exact ⟨gI, ⟨rfl, LE.of rfl, rfl, LE.of rfl, rfl, LE.of rfl, trivial⟩, ⟨.inr (.inl rfl), .inr (.inl rfl), trivial⟩, rfl, rfl⟩
 ·rw [if_neg g1]
  by_cases g2 : tagT offer = otpM
  ·rw [if_pos g2]
   have ha := answerotp_ok true c.ak offer (numT c.seed otpW c.ctr) (wt_fit _ hw)
   revert ha
   generalize answerOtpT c.ak offer (numT c.seed otpW c.ctr) = a
   obtain ⟨a, e⟩ := a
   intro ha
   by_cases he : e = 0
   ·subst he
    simp only
    rw [if_pos trivial]
    refine PM_of_vc (cx_ok true) (mixed true) { ps := psT [(3, [8, 9]), (5, [8]), (8, [8, 9]), (11, [8, 9])] } Tryz.func165 (by kernel_rfl) rfl rfl (by kernel_rfl) ?_ ?_
    ·rfl
    refine goL ?_
    refine ⟨_, CallVC.pr ht rfl rfl, ?_⟩
    refine goL ?_
    refine @bool_rec _ _ _ ?_ ?_ <;> intro hr
    ·exact absurd (of_decide_eq_true hr) g1
    refine goL ?_
    refine @bool_rec _ _ _ ?_ ?_ <;> intro hr
    rotate_left
    ·exact absurd g2 (of_decide_eq_false hr)
    refine goL ?_
    refine ⟨_, CallVC.pr (keyotp_ok true c.seed c.ctr (by omega) (by omega)) rfl rfl, ?_⟩
    refine goL ?_
    refine ⟨_, CallVC.pr ha rfl rfl, ?_⟩
    refine goL ?_
    refine ⟨c.ctr + 1, wrapI (k := c.ctr + 1) (by omega) (by omega) rfl, ?_⟩
    refine goL ?_
    refine ⟨_, CallVC.pr (use_ok true c.ak 46 (by decide) (by decide)) rfl rfl, ?_⟩
    refine goL ?_
    exact ⟨gI, ⟨rfl, LE.of rfl, rfl, LE.of rfl, rfl, LE.of rfl, trivial⟩, ⟨.inr (.inl rfl), .inr (.inl rfl), trivial⟩, rfl, rfl⟩
   ·simp only
    rw [if_neg he]
    refine PM_of_vc (cx_ok true) (mixed true) { ps := psT [(3, [8, 9]), (5, [8]), (8, [8, 9]), (11, [8, 9])] } Tryz.func165 (by kernel_rfl) rfl rfl (by kernel_rfl) ?_ ?_
    ·rfl
    refine goL ?_
    refine ⟨_, CallVC.pr ht rfl rfl, ?_⟩
    refine goL ?_
    refine @bool_rec _ _ _ ?_ ?_ <;> intro hr
    ·exact absurd (of_decide_eq_true hr) g1
    refine goL ?_
    refine @bool_rec _ _ _ ?_ ?_ <;> intro hr
    rotate_left
    ·exact absurd g2 (of_decide_eq_false hr)
    refine goL ?_
    refine ⟨_, CallVC.pr (keyotp_ok true c.seed c.ctr (by omega) (by omega)) rfl rfl, ?_⟩
    refine goL ?_
    refine ⟨_, CallVC.pr ha rfl rfl, ?_⟩
    refine goL ?_
    refine @bool_rec _ _ _ ?_ ?_ <;> intro hr
    ·exact absurd (of_decide_eq_true hr) he
    refine goL ?_
    refine ⟨_, CallVC.pr (use_ok true c.ak 46 (by decide) (by decide)) rfl rfl, ?_⟩
    refine goL ?_
    exact ⟨gI, ⟨rfl, LE.of rfl, rfl, LE.of rfl, rfl, LE.of rfl, trivial⟩, ⟨.inr (.inl rfl), .inr (.inl rfl), trivial⟩, rfl, rfl⟩
  ·rw [if_neg g2]
   by_cases g3 : tagT offer = spW
   ·rw [if_pos g3]
    have ha := answerspake_ok c.key c.body offer x hw hx
    revert ha
    generalize answerSpakeT c.key c.body offer x = a
    obtain ⟨a, b, e⟩ := a
    intro ha
    refine PM_of_vc (cx_ok true) (mixed true) { ps := psT [(3, [8, 9]), (5, [8]), (8, [8, 9]), (11, [8, 9])] } Tryz.func165 (by kernel_rfl) rfl rfl (by kernel_rfl) ?_ ?_
    ·rfl
    refine goL ?_
    refine ⟨_, CallVC.pr ht rfl rfl, ?_⟩
    refine goL ?_
    refine @bool_rec _ _ _ ?_ ?_ <;> intro hr
    ·exact absurd (of_decide_eq_true hr) g1
    refine goL ?_
    refine @bool_rec _ _ _ ?_ ?_ <;> intro hr
    ·exact absurd (of_decide_eq_true hr) g2
    refine goL ?_
    refine @bool_rec _ _ _ ?_ ?_ <;> intro hr
    rotate_left
    ·exact absurd g3 (of_decide_eq_false hr)
    refine goL ?_
    refine ⟨_, CallVC.pr ha rfl rfl, ?_⟩
    refine goL ?_
    exact ⟨gI, ⟨rfl, LE.of rfl, rfl, LE.of rfl, rfl, LE.of rfl, trivial⟩, ⟨.inr (.inl rfl), .inr (.inl rfl), trivial⟩, rfl, rfl⟩
   ·rw [if_neg g3]
    refine PM_of_vc (cx_ok true) (mixed true) { ps := psT [(3, [8, 9]), (5, [8]), (8, [8, 9]), (11, [8, 9])] } Tryz.func165 (by kernel_rfl) rfl rfl (by kernel_rfl) ?_ ?_
    ·rfl
    refine goL ?_
    refine ⟨_, CallVC.pr ht rfl rfl, ?_⟩
    refine goL ?_
    refine @bool_rec _ _ _ ?_ ?_ <;> intro hr
    ·exact absurd (of_decide_eq_true hr) g1
    refine goL ?_
    refine @bool_rec _ _ _ ?_ ?_ <;> intro hr
    ·exact absurd (of_decide_eq_true hr) g2
    refine goL ?_
    refine @bool_rec _ _ _ ?_ ?_ <;> intro hr
    ·exact absurd (of_decide_eq_true hr) g3
    refine goL ?_
    exact ⟨gI, ⟨rfl, LE_agg ⟨LEP.refl _, LEP.refl _, LEP_nil, trivial⟩, rfl, LE_agg ⟨LEP.refl _, LEP.refl _, LEP_nil, trivial⟩, rfl, LE.of rfl, trivial⟩, ⟨.inr (.inl rfl), .inr (.inl rfl), trivial⟩, rfl, rfl⟩
end Go.Sl
namespace Go.Sl
open Go Go.Vc Go.Proofs Go.RowKit
def moreC (c : Cln) (d : Cln × Tm × Tm × Int) (l : List Tm) : Cln := { d.1 with base := d.2.2.1, done := true, marks := d.1.marks ++ [(tagT (at_ l 0), d.1.nonce)] }
def takeT (c : Cln) (t : Tm) (now : Int) (x : Tm) : Cln × Tm × Int :=
 if c.on = false then (c, noneT, 11) else
 if (refOfT t).2 = true then ({ c with on := false }, noneT, (refOfT t).1) else
 match unpackT asrepW 3 t with
 | some l => ((endsT c (at_ l 0) (at_ l 1) (at_ l 2)).1, noneT, (endsT c (at_ l 0) (at_ l 1) (at_ l 2)).2)
 | none =>
  if (openedT (ansOfT c.ak c.nonce t).1 (ansOfT c.ak c.nonce t).2 moreW 2).2 ≠ 0 then (c, noneT, (openedT (ansOfT c.ak c.nonce t).1 (ansOfT c.ak c.nonce t).2 moreW 2).2) else
  let l := (openedT (ansOfT c.ak c.nonce t).1 (ansOfT c.ak c.nonce t).2 moreW 2).1
  let d := doesT c (at_ l 0) now x
  if d.2.2.2 ≠ 0 then (d.1, noneT, d.2.2.2) else
  (moreC c d l, saysT (moreC c d l) d.2.1 (at_ l 1), 0)
abbrev tkV (x : Cln × Tm × Int) : SV := .tupS [tv x.2.1, iv x.2.2]
theorem doesT_same (c : Cln) (offer : Tm) (now : Int) (x : Tm) : (doesT c offer now x).1.marks = c.marks ∧ (doesT c offer now x).1.nonce = c.nonce ∧ (doesT c offer now x).1.on = c.on := by
 unfold doesT
 split
 ·exact ⟨rfl, rfl, rfl⟩
 split
 ·simp only
  split <;> exact ⟨rfl, rfl, rfl⟩
 split <;> exact ⟨rfl, rfl, rfl⟩
set_option maxHeartbeats 2000000 in
theorem take_ok (c : Cln) (t : Tm) (now : Int) (x : Tm) (hw : wt t ≤ 1000000000) (hx : wt x ≤ 1000000000) (hn : c.nonce.length ≤ 1000000000) (h0 : 0 ≤ c.ctr) (h1 : c.ctr ≤ 1000000000000) (hm : c.marks.length ≤ 1000000) (n0 : -1000000000000 ≤ now) (n1 : now ≤ 1000000000000) :
  PM (cx true) 115 (clO c) [.ptr 2020 0, tv t, iv now, tv x] (clO (takeT c t now x).1) (tkV (takeT c t now x)) := by
 obtain ⟨X, hX⟩ : ∃ X, X = takeT c t now x := ⟨_, rfl⟩
 rw [← hX]
 unfold takeT at hX
 have hr := refof_ok true t (wt_fit _ hw) (fun l hl => by have h1 := wt_name (at_ l 0); have h2 := wt_at (wt_unpack hl) (wt_pos t) 0; omega)
 revert hr hX
 generalize refOfT t = r
 obtain ⟨e1, q1⟩ := r
 intro hX hr
 simp only at hX
 have hu := unpack_ok true asrepW 3 t (by decide) (wt_fit _ hw)
 by_cases hon : c.on = false
 ·rw [if_pos hon] at hX
  subst hX
  obtain ⟨on, done, ended, nonce, body, wrap, ak, base, sess, name, pw, seed, ctr, tick, host, key, marks⟩ := c
  simp only at hon
  subst hon
  refine PM_of_vc (cx_ok true) (mixed true) {} Tryz.func115 (by kernel_rfl) rfl rfl (by kernel_rfl) ?_ ?_
  ·rfl
  refine goL ?_
  refine ⟨_, CallVC.pr (mnone_ok true) rfl rfl, ?_⟩
  refine goL ?_
  exact ⟨gI, ⟨rfl, LE.of rfl, rfl, LE.of rfl, trivial⟩, ⟨.inr (.inl rfl), .inr (.inl rfl), trivial⟩, rfl, rfl⟩
 rw [if_neg hon] at hX
 have hon : c.on = true := by simpa using hon
 cases q1 with
 | true =>
  rw [if_pos rfl] at hX
  subst hX
  obtain ⟨on, done, ended, nonce, body, wrap, ak, base, sess, name, pw, seed, ctr, tick, host, key, marks⟩ := c
  simp only at hon
  subst hon
  refine PM_of_vc (cx_ok true) (mixed true) {} Tryz.func115 (by kernel_rfl) rfl rfl (by kernel_rfl) ?_ ?_
  ·rfl
  refine goL ?_
  refine ⟨_, CallVC.pr hr rfl rfl, ?_⟩
  refine goL ?_
  refine ⟨_, CallVC.pr (mnone_ok true) rfl rfl, ?_⟩
  refine goL ?_
  exact ⟨gI, ⟨rfl, LE.of rfl, rfl, LE.of rfl, trivial⟩, ⟨.inr (.inl rfl), .inr (.inl rfl), trivial⟩, rfl, rfl⟩
 | false =>
 rw [if_neg (by decide)] at hX
 cases eu : unpackT asrepW 3 t with
 | some l =>
  rw [eu] at hX hu
  simp only at hX
  have hl := unpackT_len eu
  have hlw : ∀ i, wt (at_ l i) ≤ 1000000000 := fun i => wt_at (fun u hu => Nat.le_trans (wt_unpack eu u hu) hw) (by decide) i
  have he := ends_ok c (at_ l 0) (at_ l 1) (at_ l 2) hn (hlw 1) (hlw 2)
  revert he hX
  generalize endsT c (at_ l 0) (at_ l 1) (at_ l 2) = z
  obtain ⟨c2, e2⟩ := z
  intro hX he
  subst hX
  obtain ⟨on, done, ended, nonce, body, wrap, ak, base, sess, name, pw, seed, ctr, tick, host, key, marks⟩ := c
  simp only at hon
  subst hon
  refine PM_of_vc (cx_ok true) (mixed true) { own := fun q => Nat.beq q 100057 } Tryz.func115 (by kernel_rfl) rfl rfl (by kernel_rfl) ?_ ?_
  ·rfl
  refine goL ?_
  refine ⟨_, CallVC.pr hr rfl rfl, ?_⟩
  refine goL ?_
  refine ⟨_, CallVC.pr hu rfl rfl, ?_⟩
  refine goL ?_
  refine ⟨_, CallVC.pr (mnone_ok true) rfl rfl, ?_⟩
  refine goL ?_
  refine ⟨_, tmvs_at (l := l) (i := 0) (by omega), rfl, rfl, ?_⟩
  refine goL ?_
  refine ⟨_, tmvs_at (l := l) (i := 1) (by omega), rfl, rfl, ?_⟩
  refine goL ?_
  refine ⟨_, tmvs_at (l := l) (i := 2) (by omega), rfl, rfl, ?_⟩
  refine goL ?_
  refine ⟨_, MCallVC.pr gI he ⟨LE.of rfl, LE.of rfl, LE.of rfl, LE.of rfl, trivial⟩ (by (conv => whnf); exact ⟨.inr (.inl rfl), .inr (.inl rfl), trivial⟩) rfl, ?_⟩
  refine goL ?_
  exact ⟨gI, ⟨rfl, LE.of rfl, rfl, LE.of rfl, trivial⟩, ⟨.inr (.inl rfl), .inr (.inl rfl), trivial⟩, rfl, rfl⟩
 | none =>
 rw [eu] at hX hu
 simp only at hX
 have ha := ansof_ok true c.ak t c.nonce (by omega) (wt_fit _ hw)
 have w1 := wt_ansOf c.ak c.nonce t
 revert ha w1 hX
 generalize ansOfT c.ak c.nonce t = a
 obtain ⟨x1, e1'⟩ := a
 intro hX ha w1
 simp only at hX w1
 have hf := opened_ok x1 e1' moreW 2 (by decide) (wt_fit _ (by omega))
 have sf := @openedT_spec x1 e1' moreW 2
 revert hf sf hX
 generalize openedT x1 e1' moreW 2 = f
 obtain ⟨f, e2⟩ := f
 intro hX hf sf
 simp only at hX sf
 by_cases g : e2 = 0
 ·subst g
  rw [if_neg (by decide)] at hX
  obtain ⟨hfl, hfw⟩ := sf rfl
  have hfw' : ∀ i, wt (at_ f i) ≤ 1000000000 := fun i => wt_at (fun u hu => Nat.le_trans (hfw u hu) (by omega)) (by decide) i
  have hd := does_ok c (at_ f 0) now x (hfw' 0) hx h0 h1 n0 n1
  obtain ⟨m1, m2, m3⟩ := doesT_same c (at_ f 0) now x
  have htg := tag_ok true (at_ f 0)
  revert hd m1 m2 m3 hX
  generalize doesT c (at_ f 0) now x = d
  obtain ⟨c2, pd, bs, e3⟩ := d
  intro hX hd m1 m2 m3
  simp only at hX m1 m2 m3
  have hon' : c = { c with on := true } := by
   cases c
   simp only at hon
   subst hon
   rfl
  by_cases g3 : e3 = 0
  ·subst g3
   rw [if_neg (by decide)] at hX
   have hsz : ((mkL c2.marks).length + 1) * 32 ≤ 140737488355328 := by rw [mkL_len, m1]; omega
   have hsy := says_ok (moreC c (c2, pd, bs, 0) f) pd (at_ f 1)
   subst hX
   obtain ⟨on, done, ended, nonce, body, wrap, ak, base, sess, name, pw, seed, ctr, tick, host, key, marks⟩ := c
   simp only at hon
   subst hon
   refine PM_of_vc (cx_ok true) (mixed true) { own := fun q => Nat.beq q 100090 || Nat.beq q 123 || Nat.beq q 100133, ps := psT [(10, [14]), (14, [17, 18])], kp := kpT [(14, [0, 2, 7, 8, 9, 15, 16], [7, 8, 2020, 1020]), (15, [0, 8, 9, 15, 16, 17, 18], [8, 17, 18, 2020, 1020]), (18, [0, 8, 9, 16, 17], [8, 17, 2020, 1020]), (19, [0, 8, 9, 16, 17], [8, 17, 2020, 1020])], tr := trT [(14, [0, 0, 2, 6, 0, 0, 63, 127, 255, 255, 255, 0, 0, 6655, 15359, 32767], .one 0 (.one 1 (.one 2 (.one 3 (.one 4 (.one 5 (.alt (.one 6 (.one 7 (.one 8 (.one 9 (.one 10 (.one 11 (.one 12 (.one 13 (.one 14 (.one 15 (.fin))))))))))) (.alt (.one 11 (.alt (.one 6 (.one 7 (.one 8 (.one 9 (.one 10 (.one 12 (.one 13 (.one 14 (.one 15 (.fin)))))))))) (.one 12 (.one 6 (.one 7 (.one 8 (.one 9 (.one 10 (.one 13 (.one 14 (.one 15 (.fin)))))))))))) (.one 12 (.alt (.one 6 (.one 7 (.one 8 (.one 9 (.one 10 (.one 11 (.one 13 (.one 14 (.one 15 (.fin)))))))))) (.one 11 (.one 6 (.one 7 (.one 8 (.one 9 (.one 10 (.one 13 (.one 14 (.one 15 (.fin)))))))))))))))))))), (18, [0, 0, 2, 6, 14, 0, 32, 96, 224, 0, 512, 1536, 3584, 7680, 16352, 32736, 65534, 131071, 262143, 524287], .one 1 (.one 2 (.one 3 (.one 4 (.one 5 (.one 6 (.one 7 (.one 8 (.one 9 (.one 10 (.one 11 (.one 12 (.one 13 (.one 14 (.one 15 (.alt (.one 0 (.one 16 (.one 17 (.one 18 (.one 19 (.fin)))))) (.one 16 (.one 0 (.one 17 (.one 18 (.one 19 (.fin))))))))))))))))))))))] } Tryz.func115 (by kernel_rfl) rfl rfl (by kernel_rfl) ?_ ?_
   ·rfl
   refine goL ?_
   refine ⟨_, CallVC.pr hr rfl rfl, ?_⟩
   refine goL ?_
   refine ⟨_, CallVC.pr hu rfl rfl, ?_⟩
   refine goL ?_
   refine ⟨_, CallVC.pr ha rfl rfl, ?_⟩
   refine goL ?_
   refine ⟨_, CallVC.pr hf rfl rfl, ?_⟩
   refine goL ?_
   refine ⟨_, tmvs_at (l := f) (i := 0) (by omega), rfl, rfl, ?_⟩
   repeat' ((conv => whnf); first | refine IndepAnd (by kernel_rfl) ?_ | refine TreeAnd (by kernel_rfl) ?_ | refine ⟨rfl, ?_⟩ | refine ⟨by decide, ?_⟩ | refine ⟨trivial, ?_⟩ | refine ⟨⟨rfl, trivial⟩, ?_⟩ | refine ⟨Nat.le_of_ble_eq_true rfl, ?_⟩ | refine ⟨⟨_, rfl, rfl⟩, ?_⟩ | refine ⟨⟨rfl, rfl, trivial⟩, ?_⟩ | refine ⟨⟨rfl, rfl, rfl, trivial⟩, ?_⟩ | refine ⟨⟨rfl, rfl, rfl, rfl, trivial⟩, ?_⟩ | refine ⟨⟨rfl, rfl, rfl, rfl, rfl, trivial⟩, ?_⟩ | refine AltAnd ?_ ?_ | refine ⟨_, MCallVC.pr gI hd ⟨LE.of rfl, LE.of rfl, LE.of rfl, LE.of rfl, trivial⟩ (by (conv => whnf); exact ⟨.inr (.inl rfl), .inr (.inl rfl), trivial⟩) rfl, ?_⟩ | fail)
   all_goals (conv => whnf)
   all_goals refine ⟨_, tmvs_at (l := f) (i := 0) (by omega), rfl, rfl, ?_⟩
   all_goals
    refine goL ?_
   all_goals refine ⟨_, CallVC.pr htg rfl rfl, ?_⟩
   repeat' ((conv => whnf); first | refine IndepAnd (by kernel_rfl) ?_ | refine TreeAnd (by kernel_rfl) ?_ | refine ⟨rfl, ?_⟩ | refine ⟨by decide, ?_⟩ | refine ⟨trivial, ?_⟩ | refine ⟨⟨rfl, trivial⟩, ?_⟩ | refine ⟨Nat.le_of_ble_eq_true rfl, ?_⟩ | refine ⟨⟨_, rfl, rfl⟩, ?_⟩ | refine ⟨⟨rfl, rfl, trivial⟩, ?_⟩ | refine ⟨⟨rfl, rfl, rfl, trivial⟩, ?_⟩ | refine ⟨⟨rfl, rfl, rfl, rfl, trivial⟩, ?_⟩ | refine ⟨⟨rfl, rfl, rfl, rfl, rfl, trivial⟩, ?_⟩ | refine AltAnd ?_ ?_ | refine ⟨hsz, ?_⟩ | fail)
   all_goals (conv => whnf)
   all_goals refine ⟨_, tmvs_at (l := f) (i := 1) (by omega), rfl, rfl, ?_⟩
   all_goals
    refine goL ?_
   all_goals refine ⟨_, MCallVC.pr gI hsy ⟨LE.of rfl, LE.of rfl, LE.of rfl, trivial⟩ (by (conv => whnf); exact ⟨.inr (.inl rfl), .inr (.inl (congrArg (AO.row 227 2) (mkL_app c2.marks (tagT (at_ f 0), c2.nonce)))), trivial⟩) rfl, ?_⟩
   all_goals
    refine goL ?_
   all_goals exact ⟨gI, ⟨rfl, LE.of rfl, rfl, LE.of rfl, trivial⟩, ⟨.inr (.inl rfl), .inr (.inl rfl), trivial⟩, rfl, rfl⟩
  ·rw [if_pos g3] at hX
   subst hX
   obtain ⟨on, done, ended, nonce, body, wrap, ak, base, sess, name, pw, seed, ctr, tick, host, key, marks⟩ := c
   simp only at hon
   subst hon
   refine PM_of_vc (cx_ok true) (mixed true) { own := fun q => Nat.beq q 100090 || Nat.beq q 123 || Nat.beq q 100133, ps := psT [(10, [14]), (14, [17, 18])], kp := kpT [(14, [0, 2, 7, 8, 9, 15, 16], [7, 8, 2020, 1020]), (15, [0, 8, 9, 15, 16, 17, 18], [8, 17, 18, 2020, 1020]), (18, [0, 8, 9, 16, 17], [8, 17, 2020, 1020]), (19, [0, 8, 9, 16, 17], [8, 17, 2020, 1020])], tr := trT [(14, [0, 0, 2, 6, 0, 0, 63, 127, 255, 255, 255, 0, 0, 6655, 15359, 32767], .one 0 (.one 1 (.one 2 (.one 3 (.one 4 (.one 5 (.alt (.one 6 (.one 7 (.one 8 (.one 9 (.one 10 (.one 11 (.one 12 (.one 13 (.one 14 (.one 15 (.fin))))))))))) (.alt (.one 11 (.alt (.one 6 (.one 7 (.one 8 (.one 9 (.one 10 (.one 12 (.one 13 (.one 14 (.one 15 (.fin)))))))))) (.one 12 (.one 6 (.one 7 (.one 8 (.one 9 (.one 10 (.one 13 (.one 14 (.one 15 (.fin)))))))))))) (.one 12 (.alt (.one 6 (.one 7 (.one 8 (.one 9 (.one 10 (.one 11 (.one 13 (.one 14 (.one 15 (.fin)))))))))) (.one 11 (.one 6 (.one 7 (.one 8 (.one 9 (.one 10 (.one 13 (.one 14 (.one 15 (.fin)))))))))))))))))))), (18, [0, 0, 2, 6, 14, 0, 32, 96, 224, 0, 512, 1536, 3584, 7680, 16352, 32736, 65534, 131071, 262143, 524287], .one 1 (.one 2 (.one 3 (.one 4 (.one 5 (.one 6 (.one 7 (.one 8 (.one 9 (.one 10 (.one 11 (.one 12 (.one 13 (.one 14 (.one 15 (.alt (.one 0 (.one 16 (.one 17 (.one 18 (.one 19 (.fin)))))) (.one 16 (.one 0 (.one 17 (.one 18 (.one 19 (.fin))))))))))))))))))))))] } Tryz.func115 (by kernel_rfl) rfl rfl (by kernel_rfl) ?_ ?_
   ·rfl
   refine goL ?_
   refine ⟨_, CallVC.pr hr rfl rfl, ?_⟩
   refine goL ?_
   refine ⟨_, CallVC.pr hu rfl rfl, ?_⟩
   refine goL ?_
   refine ⟨_, CallVC.pr ha rfl rfl, ?_⟩
   refine goL ?_
   refine ⟨_, CallVC.pr hf rfl rfl, ?_⟩
   refine goL ?_
   refine ⟨_, tmvs_at (l := f) (i := 0) (by omega), rfl, rfl, ?_⟩
   repeat' ((conv => whnf); first | refine IndepAnd (by kernel_rfl) ?_ | refine TreeAnd (by kernel_rfl) ?_ | refine ⟨rfl, ?_⟩ | refine ⟨by decide, ?_⟩ | refine ⟨trivial, ?_⟩ | refine ⟨⟨rfl, trivial⟩, ?_⟩ | refine ⟨Nat.le_of_ble_eq_true rfl, ?_⟩ | refine ⟨⟨_, rfl, rfl⟩, ?_⟩ | refine ⟨⟨rfl, rfl, trivial⟩, ?_⟩ | refine ⟨⟨rfl, rfl, rfl, trivial⟩, ?_⟩ | refine ⟨⟨rfl, rfl, rfl, rfl, trivial⟩, ?_⟩ | refine ⟨⟨rfl, rfl, rfl, rfl, rfl, trivial⟩, ?_⟩ | refine AltAnd ?_ ?_ | refine ⟨_, MCallVC.pr gI hd ⟨LE.of rfl, LE.of rfl, LE.of rfl, LE.of rfl, trivial⟩ (by (conv => whnf); exact ⟨.inr (.inl rfl), .inr (.inl rfl), trivial⟩) rfl, ?_⟩ | fail)
   all_goals (conv => whnf)
   all_goals refine @bool_rec _ _ _ ?_ ?_ <;> intro h3
   all_goals first | exact absurd (by simpa using h3) g3 | skip
   all_goals
    refine goL ?_
   all_goals refine ⟨_, CallVC.pr (mnone_ok true) rfl rfl, ?_⟩
   all_goals
    refine goL ?_
   all_goals exact ⟨gI, ⟨rfl, LE.of rfl, rfl, LE.of rfl, trivial⟩, ⟨.inr (.inl rfl), .inr (.inl rfl), trivial⟩, rfl, rfl⟩
 ·rw [if_pos g] at hX
  subst hX
  obtain ⟨on, done, ended, nonce, body, wrap, ak, base, sess, name, pw, seed, ctr, tick, host, key, marks⟩ := c
  simp only at hon
  subst hon
  refine PM_of_vc (cx_ok true) (mixed true) { ps := psT [(10, [14])] } Tryz.func115 (by kernel_rfl) rfl rfl (by kernel_rfl) ?_ ?_
  ·rfl
  refine goL ?_
  refine ⟨_, CallVC.pr hr rfl rfl, ?_⟩
  refine goL ?_
  refine ⟨_, CallVC.pr hu rfl rfl, ?_⟩
  refine goL ?_
  refine ⟨_, CallVC.pr ha rfl rfl, ?_⟩
  refine goL ?_
  refine ⟨_, CallVC.pr hf rfl rfl, ?_⟩
  refine goL ?_
  refine @bool_rec _ _ _ ?_ ?_ <;> intro h3
  ·refine goL ?_
   refine ⟨_, CallVC.pr (mnone_ok true) rfl rfl, ?_⟩
   refine goL ?_
   exact ⟨gI, ⟨rfl, LE.of rfl, rfl, LE.of rfl, trivial⟩, ⟨.inr (.inl rfl), .inr (.inl rfl), trivial⟩, rfl, rfl⟩
  ·exact absurd (by simpa using h3) g
end Go.Sl
namespace Go.Sl
open Go Go.Vc Go.Proofs Go.RowKit
abbrev pubT (t : Tm) : Tm := .mk 8 [] [t]
end Go.Sl
namespace Go.Sl
open Go Go.Vc Go.Proofs Go.RowKit
def gdT (t : Tm) : Prop := txtT t ≠ [] ∧ canT t = t
theorem shp_mk (t : Tm) : t.shp = true ↔ (Tm.known t.kind = true ∧ (Tm.named t.kind == !t.name.isEmpty) = true ∧ (Tm.arity t.kind < 0 ∨ (t.kids.length : Int) = Tm.arity t.kind)) ∧ ∀ u ∈ t.kids, u.shp = true := by
 obtain ⟨k, n, l⟩ := t
 simp only [Tm.shp, Tm.kind, Tm.name, Tm.kids, Bool.and_eq_true, Bool.or_eq_true, decide_eq_true_eq, Tm.shps_iff, and_assoc]
theorem depth_kid' {t u : Tm} (h : u ∈ t.kids) : u.depth < t.depth := by
 rw [depth_mk t]; have := Tm.depth_mem h; omega
inductive Cl (B : Tm → Prop) : Tm → Prop where
 | base {t : Tm} : B t → gdT t → Cl B t
 | data {t : Tm} : gdT t → t.kind = 1 → Cl B t
 | comp {t : Tm} : gdT t → t.kind ≠ 1 → t.kind ≠ 2 → t.kind ≠ 9 → (∀ u ∈ t.kids, Cl B u) → Cl B t
 | sh1 {t x y : Tm} : gdT t → t.kind = 9 → t.kids = [x, y] → Cl B x → Cl B (pubT y) → Cl B t
 | sh2 {t x y : Tm} : gdT t → t.kind = 9 → t.kids = [x, y] → Cl B y → Cl B (pubT x) → Cl B t
 | pair {t u : Tm} : Cl B t → t.kind = 3 → u ∈ t.kids → Cl B u
 | enc {t x y : Tm} : Cl B t → t.kind = 4 → t.kids = [x, y] → Cl B x → Cl B y
 | mask {t x y : Tm} : Cl B t → t.kind = 10 → t.kids = [x, y] → Cl B y → Cl B x
def Fr (l : List Tm) (t : Tm) : Prop := ∃ v ∈ l, canT v = t
open Classical in
noncomputable def knT (l : List Tm) (t : Tm) : Bool := decide (Cl (Fr l) (canT t))
end Go.Sl
