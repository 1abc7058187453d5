/- The statement TopTickets, without a condition: a ticket of one KDC is none of another one's. Part 12: It Iu Iv Iw. -/
import Derived.Test.YteicafhbhdliaaaGreatDoorPak
set_option linter.unusedSimpArgs false
set_option linter.unusedVariables false
set_option maxHeartbeats 4000000
namespace Go.Sl
open Go Go.Vc Go.Proofs Go.RowKit
def ticketW : Bs := [116, 105, 99, 107, 101, 116]
def encW : Bs := [101, 110, 99]
def finishW : Bs := [102, 105, 110, 105, 115, 104]
def asrepW : Bs := [97, 115, 45, 114, 101, 112]
def tkT (k : Kd) (t : Ta) : Tm := sealT k.key 3 (packT ticketW [wordT t.ck.client, drawT (k.drawn + 1), wordsT t.ck.done, wordT (Lib.itoa t.now)])
def ticketK (k : Kd) (t : Ta) : Kd := { k with drawn := k.drawn + 1 + 1, us := setU t.ck.client k.us fun _ => 0, iss := k.iss ++ [⟨t.ck.client, t.ck.nonce, t.ck.done, drawT (k.drawn + 1)⟩] }
def ticketR (k : Kd) (t : Ta) (base : Tm) : Tm :=
 packT asrepW [tkT k t, sealT (joinT (drawT (k.drawn + 1 + 1)) base strW repW) 3 (packT encW [drawT (k.drawn + 1), wordT t.ck.nonce, hashT (tkT k t)]), ansT t.ak t.ck.nonce (packT finishW [drawT (k.drawn + 1 + 1), hashT (tkT k t)])]
theorem tmvs4' (a b c d : Tm) : [TV a, TV b, TV c, TV d] = tmvs [a, b, c, d] := (tmvs_eq [a, b, c, d]).symm
theorem isL_app (l : List Is) (x : Is) : isL l ++ [x.pv] = isL (l ++ [x]) := by
 rw [isL, isL, List.map_append]
 rfl
theorem kticket_ok (k : Kd) (t : Ta) (base : Tm) (hu : k.us.length ≤ 1000000) (d0 : 0 ≤ k.drawn) (d1 : k.drawn ≤ 100000000000) (hi : k.iss.length ≤ 100000) (hck : t.ck.ok) (hd : t.ck.done.length ≤ 3) (hn0 : -1000000000000 ≤ t.now) (hn1 : t.now ≤ 1000000000000) :
  PM (cx true) 45 (kdO k) [.ptr 2010 0, .p t.pv, tv base] (kdO (ticketK k t)) (.p (TV (ticketR k t base))) := by
 have hdr := draw_ok k d0 (by omega)
 have hdr2 := draw_ok { k with drawn := k.drawn + 1 } (by show 0 ≤ k.drawn + 1; omega) (by show k.drawn + 1 < _; omega)
 have hsu := succeed_ok k.us t.ck.client hu
 have hcl : t.ck.client.length ≤ 9223372036854775800 := by have := hck.client; omega
 have hnl : t.ck.nonce.length ≤ 9223372036854775800 := by have := hck.nonce; omega
 have hiss : ((isL k.iss).length + 1) * 104 ≤ 140737488355328 := by rw [isL_len]; omega
 unfold ticketK
 refine PM_of_vc (cx_ok true) (mixed true) { own := fun q => Nat.beq q 100013 || Nat.beq q 100015 || Nat.beq q 100023 || Nat.beq q 42, ps := psT [(4, [9]), (6, [11])], tr := trT [(3, [0, 0, 2, 6, 14, 0, 32, 96, 0, 256, 768, 0, 2048, 6144, 14336, 0, 65504, 131040, 262142, 524287, 1048575, 2097151], .one 1 (.one 2 (.one 3 (.one 4 (.one 5 (.one 6 (.one 7 (.one 8 (.one 9 (.one 10 (.one 11 (.one 12 (.one 13 (.one 14 (.one 15 (.one 16 (.one 17 (.alt (.one 0 (.one 18 (.one 19 (.one 20 (.one 21 (.fin)))))) (.one 18 (.one 0 (.one 19 (.one 20 (.one 21 (.fin))))))))))))))))))))))))] } Tryz.func45 (by kernel_rfl) rfl rfl (by kernel_rfl) ?_ ?_
 ·rfl
 refine goL ?_
 refine ⟨_, MCallVC.pr gI hdr ⟨LE.of rfl, trivial⟩ (by (conv => whnf); exact ⟨.inr (.inl rfl), .inr (.inl rfl), .inr (.inl rfl), .inr (.inl rfl), .inr (.inl rfl), .inr (.inl rfl), trivial⟩) rfl, ?_⟩
 refine goL ?_
 refine ⟨_, MCallVC.pr gI hdr2 ⟨LE.of rfl, trivial⟩ (by (conv => whnf); exact ⟨.inr (.inl rfl), .inr (.inl rfl), .inr (.inl rfl), .inr (.inl rfl), .inr (.inl rfl), .inr (.inl rfl), trivial⟩) rfl, ?_⟩
 refine goL ?_
 refine ⟨_, MCallVC.pr gI hsu ⟨LE.of rfl, LE.of rfl, trivial⟩ (by (conv => whnf); exact ⟨.inr (.inl rfl), .inr (.inl rfl), trivial⟩) rfl, ?_⟩
 refine goL ?_
 refine ⟨_, CallVC.pr (cloneS_ok true t.ck.done (by omega)) rfl rfl, ?_⟩
 refine goL ?_
 repeat' ((conv => whnf); first | refine IndepAnd (by kernel_rfl) ?_ | refine TreeAnd (by kernel_rfl) ?_ | refine ⟨rfl, ?_⟩ | refine ⟨by decide, ?_⟩ | refine ⟨trivial, ?_⟩ | refine ⟨⟨rfl, trivial⟩, ?_⟩ | refine ⟨Nat.le_of_ble_eq_true rfl, ?_⟩ | refine ⟨⟨_, rfl, rfl⟩, ?_⟩ | refine ⟨⟨rfl, rfl, trivial⟩, ?_⟩ | refine ⟨⟨rfl, rfl, rfl, trivial⟩, ?_⟩ | refine ⟨⟨rfl, rfl, rfl, rfl, trivial⟩, ?_⟩ | refine ⟨⟨rfl, rfl, rfl, rfl, rfl, trivial⟩, ?_⟩ | refine AltAnd ?_ ?_ | refine ⟨hiss, ?_⟩ | fail)
 all_goals (conv => whnf)
 all_goals refine ⟨_, CallVC.pr (word_ok true t.ck.client hcl) rfl rfl, ?_⟩
 all_goals
  refine goL ?_
 all_goals refine ⟨_, CallVC.pr (words_ok true t.ck.done (by omega) fun s hs => by have := hck.dones s hs; omega) rfl rfl, ?_⟩
 all_goals
  refine goL ?_
 all_goals refine ⟨_, CallVC.pr (number15m_ok true t.now (by omega) (by omega)) rfl rfl, ?_⟩
 all_goals
  refine goL ?_
 all_goals refine ⟨_, CallVC.pr (pack_ok true ticketW _ [_, _, _, _] (tmvs4' _ _ _ _) (by simp)) rfl rfl, ?_⟩
 all_goals
  refine goL ?_
 all_goals refine ⟨_, CallVC.pr (seal_ok true k.key _ 3 (by decide) (by decide)) rfl rfl, ?_⟩
 all_goals
  refine goL ?_
 all_goals refine ⟨_, CallVC.pr (hash_ok true _) rfl rfl, ?_⟩
 all_goals
  refine goL ?_
 all_goals refine ⟨_, CallVC.pr (reply_ok true _ _) rfl rfl, ?_⟩
 all_goals
  refine goL ?_
 all_goals refine ⟨_, CallVC.pr (word_ok true t.ck.nonce hnl) rfl rfl, ?_⟩
 all_goals
  refine goL ?_
 all_goals refine ⟨_, CallVC.pr (pack_ok true encW _ [_, _, _] (tmvs3 _ _ _) (by simp)) rfl rfl, ?_⟩
 all_goals
  refine goL ?_
 all_goals refine ⟨_, CallVC.pr (seal_ok true _ _ 3 (by decide) (by decide)) rfl rfl, ?_⟩
 all_goals
  refine goL ?_
 all_goals refine ⟨_, CallVC.pr (pack_ok true finishW _ [_, _] (tmvs2 _ _) (by simp)) rfl rfl, ?_⟩
 all_goals
  refine goL ?_
 all_goals refine ⟨_, CallVC.pr (ans_ok true t.ak t.ck.nonce _ hnl) rfl rfl, ?_⟩
 all_goals
  refine goL ?_
 all_goals refine ⟨_, CallVC.pr (pack_ok true asrepW _ [_, _, _] (tmvs3 _ _ _) (by simp)) rfl rfl, ?_⟩
 all_goals
  refine goL ?_
 all_goals exact ⟨gI, ⟨rfl, LE.of rfl⟩, ⟨.inr (.inl rfl), .inr (.inl rfl), .inr (.inl rfl), .inr (.inl rfl), .inr (.inl rfl), .inr (.inl (congrArg (AO.row 113 6) (isL_app k.iss ⟨t.ck.client, t.ck.nonce, t.ck.done, drawT (k.drawn + 1)⟩))), trivial⟩, rfl, rfl⟩
end Go.Sl
namespace Go.Sl
open Go Go.Vc Go.Proofs Go.RowKit
def ta0 : Ta := ⟨ck0, zeroT, zeroT, zeroT, us0, 0⟩
def opensT (k : Kd) (m : Tm) (now : Int) : Ta × Int :=
 if (askOfT m).2.2.2 = false then (ta0, 2) else
 if (bodyOfT (askOfT m).1).2.2 = false then (ta0, 2) else
 if (openT k.key (askOfT m).2.1).2 ≠ 0 then (ta0, (openT k.key (askOfT m).2.1).2) else
 if (reqOfT (openT k.key (askOfT m).2.1).1 (askOfT m).1 (askOfT m).2.2.1).2.2 ≠ 0 then (ta0, (reqOfT (openT k.key (askOfT m).2.1).1 (askOfT m).1 (askOfT m).2.2.1).2.2) else
 if (getU (bodyOfT (askOfT m).1).1 k.us).2 = false then (ta0, 3) else
 if isNoneB (reqOfT (openT k.key (askOfT m).2.1).1 (askOfT m).1 (askOfT m).2.2.1).2.1 = true then
  (⟨⟨(bodyOfT (askOfT m).1).1, (bodyOfT (askOfT m).1).2.1, [], noneT, 0⟩, (openT k.key (askOfT m).2.1).1, (askOfT m).1, (reqOfT (openT k.key (askOfT m).2.1).1 (askOfT m).1 (askOfT m).2.2.1).1, (getU (bodyOfT (askOfT m).1).1 k.us).1, now⟩, if lockedU (bodyOfT (askOfT m).1).1 k.us = true then 7 else 0)
 else
  (⟨(openCkT k.cookies (reqOfT (openT k.key (askOfT m).2.1).1 (askOfT m).1 (askOfT m).2.2.1).2.1 now).1, (openT k.key (askOfT m).2.1).1, (askOfT m).1, (reqOfT (openT k.key (askOfT m).2.1).1 (askOfT m).1 (askOfT m).2.2.1).1, (getU (bodyOfT (askOfT m).1).1 k.us).1, now⟩,
   let c := openCkT k.cookies (reqOfT (openT k.key (askOfT m).2.1).1 (askOfT m).1 (askOfT m).2.2.1).2.1 now
   if c.2 ≠ 0 then c.2 else
   if c.1.client ≠ (bodyOfT (askOfT m).1).1 ∨ c.1.nonce ≠ (bodyOfT (askOfT m).1).2.1 ∨ (getU (bodyOfT (askOfT m).1).1 k.us).1.set.length ≤ c.1.done.length ∨ c.1.done ≠ (getU (bodyOfT (askOfT m).1).1 k.us).1.set.take c.1.done.length then 11 else
   if lockedU (bodyOfT (askOfT m).1).1 k.us = true then 7 else 0)
abbrev taV (x : Ta × Int) : SV := .tupS [.p x.1.pv, iv x.2]
theorem wt_askOf (m : Tm) : wt (askOfT m).1 ≤ wt m ∧ wt (askOfT m).2.1 ≤ wt m ∧ wt (askOfT m).2.2.1 ≤ wt m := by
 unfold askOfT
 cases e : unpackT askW 3 m with
 | none => exact ⟨wt_pos m, wt_pos m, wt_pos m⟩
 | some l =>
  have h := wt_unpack e
  exact ⟨wt_at h (wt_pos m) 0, wt_at h (wt_pos m) 1, wt_at h (wt_pos m) 2⟩
theorem wt_sealed (k : Tm) (n : Int) (t : Tm) (tag : Bs) (c : Nat) : ∀ u ∈ (sealedT k n t tag c).1, wt u ≤ wt t := by
 unfold sealedT
 intro u hu
 split at hu
 ·cases hu
 ·split at hu
  ·cases hu
  ·rename_i l e
   exact Nat.le_trans (wt_unpack e u hu) wt_unseal
theorem wt_reqOf (k x t : Tm) : wt (reqOfT k x t).1 ≤ wt t ∧ wt (reqOfT k x t).2.1 ≤ wt t := by
 unfold reqOfT
 split
 ·exact ⟨wt_pos t, wt_pos t⟩
 ·split
  ·exact ⟨wt_pos t, wt_pos t⟩
  ·exact ⟨wt_at (wt_sealed _ _ _ _ _) (wt_pos t) 1, wt_at (wt_sealed _ _ _ _ _) (wt_pos t) 2⟩
theorem LE_ta0 : LE (.p (.agg [.str [], .str [], .nilS, .int .i64 0, .str [], .nilS, .int .i64 0, .int .i64 0, .str [], .nilS, .int .i64 0, .str [], .nilS, .int .i64 0, .str [], .nilS,
 .str [], .int .i64 0, .str [], .nilS, .nilS, .int .i64 0, .str [], .nilS, .int .i64 0, .int .i64 0, .int .i64 0, .int .i64 0, .int .i64 0, .int .i64 0, .int .i64 0, .int .i64 0])) (.p ta0.pv) :=
 LE_agg ⟨LEP.refl _, LEP.refl _, LEP_nil, LEP.refl _, LEP.refl _, LEP_nil, LEP.refl _, LEP.refl _, LEP.refl _, LEP_nil, LEP.refl _, LEP.refl _, LEP_nil, LEP.refl _, LEP.refl _, LEP_nil,
  LEP.refl _, LEP.refl _, LEP.refl _, LEP_nil, LEP_nil, LEP.refl _, LEP.refl _, LEP_nil, LEP.refl _, LEP.refl _, LEP.refl _, LEP.refl _, LEP.refl _, LEP.refl _, LEP.refl _, LEP.refl _, trivial⟩
theorem LE_tan {c n a2 b2 c2 u1 u3 u6 s2 : Bs} {k1 k2 k3 k4 k5 k6 z1 z2 z3 z4 z5 z6 z7 z8 z9 : Int} {l2 l3 l4 l5 l6 l7 l8 : List PV} : LE (.p (.agg [.str c, .str n, .nilS, .int .i64 k1, .str a2, .lst l2, .int .i64 k2, .int .i64 k3, .str b2, .lst l3, .int .i64 k4, .str c2, .lst l4, .int .i64 k5, .str u1, .lst l5,
 .str u3, .int .i64 k6, .str u6, .lst l6, .lst l7, .int .i64 z1, .str s2, .lst l8, .int .i64 z2, .int .i64 z3, .int .i64 z4, .int .i64 z5, .int .i64 z6, .int .i64 z7, .int .i64 z8, .int .i64 z9]))
 (.p (.agg [.str c, .str n, .lst [], .int .i64 k1, .str a2, .lst l2, .int .i64 k2, .int .i64 k3, .str b2, .lst l3, .int .i64 k4, .str c2, .lst l4, .int .i64 k5, .str u1, .lst l5,
 .str u3, .int .i64 k6, .str u6, .lst l6, .lst l7, .int .i64 z1, .str s2, .lst l8, .int .i64 z2, .int .i64 z3, .int .i64 z4, .int .i64 z5, .int .i64 z6, .int .i64 z7, .int .i64 z8, .int .i64 z9])) :=
 LE_agg ⟨LEP.refl _, LEP.refl _, LEP_nil, LEP.refl _, LEP.refl _, LEP.refl _, LEP.refl _, LEP.refl _, LEP.refl _, LEP.refl _, LEP.refl _, LEP.refl _, LEP.refl _, LEP.refl _, LEP.refl _, LEP.refl _,
  LEP.refl _, LEP.refl _, LEP.refl _, LEP.refl _, LEP.refl _, LEP.refl _, LEP.refl _, LEP.refl _, LEP.refl _, LEP.refl _, LEP.refl _, LEP.refl _, LEP.refl _, LEP.refl _, LEP.refl _, LEP.refl _, trivial⟩
theorem openCkT_ok (key t : Tm) (now : Int) (hw : wt t ≤ 1000000000) : (openCkT key t now).1.ok := by
 have h0 : Ck.ok ck0 := ⟨by decide, by decide, by decide, fun s hs => (by cases hs), by decide, by decide, by decide⟩
 unfold openCkT
 split
 ·split
  ·split
   ·split
    ·split
     ·exact h0
     ·exact bodyCk_ok _ (Nat.le_trans (wt_atk t 1) hw)
    ·exact h0
   ·exact h0
  ·exact h0
 ·exact h0
theorem openCkT_done (key t : Tm) (now : Int) (hw : wt t ≤ 1000000000) : (openCkT key t now).1.done.length ≤ 1000000000 := (openCkT_ok key t now hw).done
theorem neq_var {a b : Int} {k : PV → Prop} (h : ∀ r, decide (a ≠ b) = r → k (.bool r)) : intBin .neq .i64 a b k := h _ rfl
theorem eql_var {a b : Int} {k : PV → Prop} (h : ∀ r, decide (a = b) = r → k (.bool r)) : intBin .eql .i64 a b k := h _ rfl
theorem geq_var {a b : Int} {k : PV → Prop} (h : ∀ r, decide (b ≤ a) = r → k (.bool r)) : intBin .geq .i64 a b k := h _ rfl
theorem sneq_var {a b : Bs} {k : PV → Prop} (h : ∀ r, decide (a ≠ b) = r → k (.bool r)) : strBin .neq a b k := h _ rfl
attribute [local irreducible] intBin strBin
theorem opens_ok (k : Kd) (m : Tm) (now : Int) (hk : KdOk k) (hm : wt m ≤ 1000000000) : PM (cx true) 39 (kdO k) [.ptr 2010 0, tv m, iv now] (kdO k) (taV (opensT k m now)) := by
 have hl : k.us.length ≤ 1000000 := by have := hk.few; omega
 have hsets : ∀ u ∈ k.us, u.set.length ≤ 1000000000 := fun u hu => by have := hk.sets u hu; omega
 obtain ⟨X, hX⟩ : ∃ X, X = opensT k m now := ⟨_, rfl⟩
 rw [← hX]
 unfold opensT at hX
 have h1 := askof_ok true m (wt_fit m hm)
 obtain ⟨w1, w2, w3⟩ := wt_askOf m
 revert h1 w1 w2 w3 hX
 generalize askOfT m = a
 obtain ⟨body, wrap, sealed, q1⟩ := a
 intro hX h1 w1 w2 w3
 simp only at hX w1 w2 w3
 have h2 := bodyof_ok true body (wt_fit _ (by omega))
 have h3 := open_ok true k.key wrap (wt_fit _ (by omega))
 revert h2 h3 hX
 generalize bodyOfT body = y
 obtain ⟨cl, nn, q2⟩ := y
 generalize openT k.key wrap = z
 obtain ⟨ak, e3⟩ := z
 intro hX h2 h3
 simp only at hX
 have h4 := reqof_ok true ak body sealed (wt_fit _ (by omega))
 obtain ⟨w4, w5⟩ := wt_reqOf ak body sealed
 have h5 := get_ok k.us cl hl hsets
 have h6 := locked_ok k.us cl hl
 revert h4 h5 h6 w4 w5 hX
 generalize reqOfT ak body sealed = r
 obtain ⟨pd, kept, e4⟩ := r
 generalize getU cl k.us = g
 obtain ⟨u, q5⟩ := g
 generalize lockedU cl k.us = lk
 intro hX h4 w4 w5 h5 h6
 simp only at hX w4 w5
 have h7 := isnone_ok true kept (wt_fit _ (by omega))
 have h8 := openck_ok k.cookies kept now hk.cookies (by omega)
 have hdl := openCkT_done k.cookies kept now (by omega)
 rw [isNoneB] at hX
 revert h7 h8 hdl hX
 generalize (unpackT noneW 0 kept).isSome = q7
 generalize openCkT k.cookies kept now = c
 obtain ⟨ck, e8⟩ := c
 intro hX h7 h8 hdl
 simp only at hX hdl
 refine PM_of_vc (cx_ok true) (mixed true) { own := fun q => Nat.beq q 100068 || Nat.beq q 100144, ps := psT [(7, [14])], kp := kpT [(18, [0, 2, 6, 7, 12, 13, 16, 17], [6, 16, 17, 2010, 2011, 2013, 2012, 2014, 1010]), (19, [0, 2, 6, 7, 12, 13, 17], [6, 17, 2010, 2011, 2013, 2012, 2014, 1010]), (21, [0, 6, 7, 12, 13, 17], [6, 17, 2010, 2011, 2013, 2012, 2014, 1010]), (23, [0, 6, 7, 12], [6, 2010, 2011, 2013, 2012, 2014, 1010])], tr := trT [(18, [0, 1, 3, 7, 0, 0, 63, 127, 255, 255, 511, 1535, 4095], .one 0 (.one 1 (.one 2 (.one 3 (.one 4 (.one 5 (.one 6 (.one 7 (.one 8 (.one 10 (.alt (.one 9 (.one 11 (.one 12 (.fin)))) (.one 11 (.one 9 (.one 12 (.fin)))))))))))))))] } Tryz.func39 (by kernel_rfl) rfl rfl (by kernel_rfl) ?_ ?_
 ·rfl
 refine goL ?_
 refine ⟨_, CallVC.pr h1 rfl rfl, ?_⟩
 cases q1 with
 | false =>
  have hX : X = (ta0, 2) := by rw [hX]; simp
  subst hX
  refine goL ?_
  exact ⟨gI, ⟨rfl, LE_ta0, rfl, LE.of rfl, trivial⟩, ⟨.inr (.inl rfl), .inr (.inl rfl), .inr (.inl rfl), .inr (.inl rfl), .inr (.inl rfl), .inr (.inl rfl), trivial⟩, rfl, rfl⟩
 | true =>
 refine goL ?_
 refine ⟨_, CallVC.pr h2 rfl rfl, ?_⟩
 cases q2 with
 | false =>
  have hX : X = (ta0, 2) := by rw [hX]; simp
  subst hX
  refine goL ?_
  exact ⟨gI, ⟨rfl, LE_ta0, rfl, LE.of rfl, trivial⟩, ⟨.inr (.inl rfl), .inr (.inl rfl), .inr (.inl rfl), .inr (.inl rfl), .inr (.inl rfl), .inr (.inl rfl), trivial⟩, rfl, rfl⟩
 | true =>
 refine goL ?_
 refine ⟨_, CallVC.pr h3 rfl rfl, ?_⟩
 refine goL ?_
 refine neq_var fun r hr => ?_
 cases r with
 | true =>
  have g1 : ¬ e3 = 0 := of_decide_eq_true hr
  have hX : X = (ta0, e3) := by rw [hX]; simp [g1]
  subst hX
  refine goL ?_
  exact ⟨gI, ⟨rfl, LE_ta0, rfl, LE.of rfl, trivial⟩, ⟨.inr (.inl rfl), .inr (.inl rfl), .inr (.inl rfl), .inr (.inl rfl), .inr (.inl rfl), .inr (.inl rfl), trivial⟩, rfl, rfl⟩
 | false =>
 have g1 : e3 = 0 := by simpa using hr
 subst g1
 refine goL ?_
 refine ⟨_, CallVC.pr h4 rfl rfl, ?_⟩
 refine goL ?_
 refine neq_var fun r hr => ?_
 cases r with
 | true =>
  have g1 : ¬ e4 = 0 := of_decide_eq_true hr
  have hX : X = (ta0, e4) := by rw [hX]; simp [g1]
  subst hX
  refine goL ?_
  exact ⟨gI, ⟨rfl, LE_ta0, rfl, LE.of rfl, trivial⟩, ⟨.inr (.inl rfl), .inr (.inl rfl), .inr (.inl rfl), .inr (.inl rfl), .inr (.inl rfl), .inr (.inl rfl), trivial⟩, rfl, rfl⟩
 | false =>
 have g1 : e4 = 0 := by simpa using hr
 subst g1
 refine goL ?_
 refine ⟨_, MCallVC.pr gI h5 ⟨LE.of rfl, LE.of rfl, trivial⟩ (by (conv => whnf); exact ⟨.inr (.inl rfl), .inr (.inl rfl), trivial⟩) rfl, ?_⟩
 cases q5 with
 | false =>
  have hX : X = (ta0, 3) := by rw [hX]; simp
  subst hX
  refine goL ?_
  exact ⟨gI, ⟨rfl, LE_ta0, rfl, LE.of rfl, trivial⟩, ⟨.inr (.inl rfl), .inr (.inl rfl), .inr (.inl rfl), .inr (.inl rfl), .inr (.inl rfl), .inr (.inl rfl), trivial⟩, rfl, rfl⟩
 | true =>
 refine goL ?_
 refine ⟨_, CallVC.pr (mnone_ok true) rfl rfl, ?_⟩
 refine goL ?_
 refine ⟨_, CallVC.pr h7 rfl rfl, ?_⟩
 cases q7 with
 | true =>
  have hX : X = (⟨⟨cl, nn, [], noneT, 0⟩, ak, body, pd, u, now⟩, if lk = true then 7 else 0) := by rw [hX]; simp
  subst hX
  refine goL ?_
  refine ⟨_, MCallVC.pr gI h6 ⟨LE.of rfl, LE.of rfl, trivial⟩ (by (conv => whnf); exact ⟨.inr (.inl rfl), .inr (.inl rfl), trivial⟩) rfl, ?_⟩
  cases lk with
  | true =>
   refine goL ?_
   exact ⟨gI, ⟨rfl, LE_tan, rfl, LE.of rfl, trivial⟩, ⟨.inr (.inl rfl), .inr (.inl rfl), .inr (.inl rfl), .inr (.inl rfl), .inr (.inl rfl), .inr (.inl rfl), trivial⟩, rfl, rfl⟩
  | false =>
   refine goL ?_
   exact ⟨gI, ⟨rfl, LE_tan, rfl, LE.of rfl, trivial⟩, ⟨.inr (.inl rfl), .inr (.inl rfl), .inr (.inl rfl), .inr (.inl rfl), .inr (.inl rfl), .inr (.inl rfl), trivial⟩, rfl, rfl⟩
 | false =>
 refine goL ?_
 refine ⟨_, CallVC.pr h8 rfl rfl, ?_⟩
 refine goL ?_
 refine AltAnd ?_ ?_
 all_goals
  refine goL ?_
 ·refine neq_var fun r hr => ?_
  cases r with
  | true =>
   have g2 : ¬ e8 = 0 := of_decide_eq_true hr
   have hX : X = (⟨ck, ak, body, pd, u, now⟩, e8) := by rw [hX]; simp [g2]
   subst hX
   refine goL ?_
   exact ⟨gI, ⟨rfl, LE.of rfl, rfl, LE.of rfl, trivial⟩, ⟨.inr (.inl rfl), .inr (.inl rfl), .inr (.inl rfl), .inr (.inl rfl), .inr (.inl rfl), .inr (.inl rfl), trivial⟩, rfl, rfl⟩
  | false =>
  have g2 : e8 = 0 := by simpa using hr
  subst g2
  refine goL ?_
  refine sneq_var fun r hr2 => ?_
  cases r with
  | true =>
   have g3 : ¬ ck.client = cl := of_decide_eq_true hr2
   have hX : X = (⟨ck, ak, body, pd, u, now⟩, 11) := by rw [hX]; simp [g3]
   subst hX
   refine goL ?_
   exact ⟨gI, ⟨rfl, LE.of rfl, rfl, LE.of rfl, trivial⟩, ⟨.inr (.inl rfl), .inr (.inl rfl), .inr (.inl rfl), .inr (.inl rfl), .inr (.inl rfl), .inr (.inl rfl), trivial⟩, rfl, rfl⟩
  | false =>
  have g3 : ck.client = cl := by simpa using hr2
  refine goL ?_
  refine sneq_var fun r hr3 => ?_
  cases r with
  | true =>
   have g4 : ¬ ck.nonce = nn := of_decide_eq_true hr3
   have hX : X = (⟨ck, ak, body, pd, u, now⟩, 11) := by rw [hX]; simp [g4]
   subst hX
   refine goL ?_
   exact ⟨gI, ⟨rfl, LE.of rfl, rfl, LE.of rfl, trivial⟩, ⟨.inr (.inl rfl), .inr (.inl rfl), .inr (.inl rfl), .inr (.inl rfl), .inr (.inl rfl), .inr (.inl rfl), trivial⟩, rfl, rfl⟩
  | false =>
  have g4 : ck.nonce = nn := by simpa using hr3
  refine goL ?_
  refine geq_var fun r hr4 => ?_
  cases r with
  | true =>
   have g5 : u.set.length ≤ ck.done.length := by have := of_decide_eq_true hr4; rw [strL_length, strL_length] at this; exact Int.ofNat_le.1 this
   have hX : X = (⟨ck, ak, body, pd, u, now⟩, 11) := by rw [hX]; simp [g5]
   subst hX
   refine goL ?_
   exact ⟨gI, ⟨rfl, LE.of rfl, rfl, LE.of rfl, trivial⟩, ⟨.inr (.inl rfl), .inr (.inl rfl), .inr (.inl rfl), .inr (.inl rfl), .inr (.inl rfl), .inr (.inl rfl), trivial⟩, rfl, rfl⟩
  | false =>
  have g5 : ¬ u.set.length ≤ ck.done.length := by have := of_decide_eq_false hr4; rw [strL_length, strL_length] at this; exact fun h => this (Int.ofNat_le.2 h)
  refine goL ?_
  refine ⟨⟨_, rfl, strL_sz _⟩, ?_⟩
  refine goL ?_
  refine ⟨Int.natCast_nonneg _, ?_⟩
  refine goL ?_
  refine ⟨by show ((strL ck.done).length : Int).toNat ≤ (strL u.set).length; rw [strL_length, strL_length, Int.toNat_natCast]; omega, Nat.le_refl _, ?_⟩
  refine goL ?_
  have hsl : cut (strL u.set) 0 ((strL ck.done).length : Int).toNat = strL (u.set.take ck.done.length) := by
   rw [strL_length, Int.toNat_natCast, cut, strL, strL, List.map_take]
   rfl
  have heq := equalS_ok ck.done (u.set.take ck.done.length) hdl
  by_cases g6 : ck.done = u.set.take ck.done.length
  ·rw [decide_eq_true g6] at heq
   refine ⟨_, CallVC.le heq ⟨LE.refl _, LE.of (congrArg (fun l => SV.p (.lst l)) hsl), trivial⟩ rfl rfl, ?_⟩
   refine goL ?_
   refine ⟨_, MCallVC.pr gI h6 ⟨LE.of rfl, LE.of rfl, trivial⟩ (by (conv => whnf); exact ⟨.inr (.inl rfl), .inr (.inl rfl), trivial⟩) rfl, ?_⟩
   cases lk with
   | true =>
    have hX : X = (⟨ck, ak, body, pd, u, now⟩, 7) := by rw [hX]; simp [g3, g4, g5, ← g6]
    subst hX
    refine goL ?_
    exact ⟨gI, ⟨rfl, LE.of rfl, rfl, LE.of rfl, trivial⟩, ⟨.inr (.inl rfl), .inr (.inl rfl), .inr (.inl rfl), .inr (.inl rfl), .inr (.inl rfl), .inr (.inl rfl), trivial⟩, rfl, rfl⟩
   | false =>
    have hX : X = (⟨ck, ak, body, pd, u, now⟩, 0) := by rw [hX]; simp [g3, g4, g5, ← g6]
    subst hX
    refine goL ?_
    exact ⟨gI, ⟨rfl, LE.of rfl, rfl, LE.of rfl, trivial⟩, ⟨.inr (.inl rfl), .inr (.inl rfl), .inr (.inl rfl), .inr (.inl rfl), .inr (.inl rfl), .inr (.inl rfl), trivial⟩, rfl, rfl⟩
  ·rw [decide_eq_false g6] at heq
   refine ⟨_, CallVC.le heq ⟨LE.refl _, LE.of (congrArg (fun l => SV.p (.lst l)) hsl), trivial⟩ rfl rfl, ?_⟩
   have hX : X = (⟨ck, ak, body, pd, u, now⟩, 11) := by rw [hX]; simp [g6]
   subst hX
   refine goL ?_
   exact ⟨gI, ⟨rfl, LE.of rfl, rfl, LE.of rfl, trivial⟩, ⟨.inr (.inl rfl), .inr (.inl rfl), .inr (.inl rfl), .inr (.inl rfl), .inr (.inl rfl), .inr (.inl rfl), trivial⟩, rfl, rfl⟩
 ·refine neq_var fun r hr => ?_
  cases r with
  | true =>
   have g2 : ¬ e8 = 0 := of_decide_eq_true hr
   have hX : X = (⟨ck, ak, body, pd, u, now⟩, e8) := by rw [hX]; simp [g2]
   subst hX
   refine goL ?_
   exact ⟨gI, ⟨rfl, LE.of rfl, rfl, LE.of rfl, trivial⟩, ⟨.inr (.inl rfl), .inr (.inl rfl), .inr (.inl rfl), .inr (.inl rfl), .inr (.inl rfl), .inr (.inl rfl), trivial⟩, rfl, rfl⟩
  | false =>
  have g2 : e8 = 0 := by simpa using hr
  subst g2
  refine goL ?_
  refine sneq_var fun r hr2 => ?_
  cases r with
  | true =>
   have g3 : ¬ ck.client = cl := of_decide_eq_true hr2
   have hX : X = (⟨ck, ak, body, pd, u, now⟩, 11) := by rw [hX]; simp [g3]
   subst hX
   refine goL ?_
   exact ⟨gI, ⟨rfl, LE.of rfl, rfl, LE.of rfl, trivial⟩, ⟨.inr (.inl rfl), .inr (.inl rfl), .inr (.inl rfl), .inr (.inl rfl), .inr (.inl rfl), .inr (.inl rfl), trivial⟩, rfl, rfl⟩
  | false =>
  have g3 : ck.client = cl := by simpa using hr2
  refine goL ?_
  refine sneq_var fun r hr3 => ?_
  cases r with
  | true =>
   have g4 : ¬ ck.nonce = nn := of_decide_eq_true hr3
   have hX : X = (⟨ck, ak, body, pd, u, now⟩, 11) := by rw [hX]; simp [g4]
   subst hX
   refine goL ?_
   exact ⟨gI, ⟨rfl, LE.of rfl, rfl, LE.of rfl, trivial⟩, ⟨.inr (.inl rfl), .inr (.inl rfl), .inr (.inl rfl), .inr (.inl rfl), .inr (.inl rfl), .inr (.inl rfl), trivial⟩, rfl, rfl⟩
  | false =>
  have g4 : ck.nonce = nn := by simpa using hr3
  refine goL ?_
  refine geq_var fun r hr4 => ?_
  cases r with
  | true =>
   have g5 : u.set.length ≤ ck.done.length := by have := of_decide_eq_true hr4; rw [strL_length, strL_length] at this; exact Int.ofNat_le.1 this
   have hX : X = (⟨ck, ak, body, pd, u, now⟩, 11) := by rw [hX]; simp [g5]
   subst hX
   refine goL ?_
   exact ⟨gI, ⟨rfl, LE.of rfl, rfl, LE.of rfl, trivial⟩, ⟨.inr (.inl rfl), .inr (.inl rfl), .inr (.inl rfl), .inr (.inl rfl), .inr (.inl rfl), .inr (.inl rfl), trivial⟩, rfl, rfl⟩
  | false =>
  have g5 : ¬ u.set.length ≤ ck.done.length := by have := of_decide_eq_false hr4; rw [strL_length, strL_length] at this; exact fun h => this (Int.ofNat_le.2 h)
  refine goL ?_
  refine ⟨⟨_, rfl, strL_sz _⟩, ?_⟩
  refine goL ?_
  refine ⟨Int.natCast_nonneg _, ?_⟩
  refine goL ?_
  refine ⟨by show ((strL ck.done).length : Int).toNat ≤ (strL u.set).length; rw [strL_length, strL_length, Int.toNat_natCast]; omega, Nat.le_refl _, ?_⟩
  refine goL ?_
  have hsl : cut (strL u.set) 0 ((strL ck.done).length : Int).toNat = strL (u.set.take ck.done.length) := by
   rw [strL_length, Int.toNat_natCast, cut, strL, strL, List.map_take]
   rfl
  have heq := equalS_ok ck.done (u.set.take ck.done.length) hdl
  by_cases g6 : ck.done = u.set.take ck.done.length
  ·rw [decide_eq_true g6] at heq
   refine ⟨_, CallVC.le heq ⟨LE.refl _, LE.of (congrArg (fun l => SV.p (.lst l)) hsl), trivial⟩ rfl rfl, ?_⟩
   refine goL ?_
   refine ⟨_, MCallVC.pr gI h6 ⟨LE.of rfl, LE.of rfl, trivial⟩ (by (conv => whnf); exact ⟨.inr (.inl rfl), .inr (.inl rfl), trivial⟩) rfl, ?_⟩
   cases lk with
   | true =>
    have hX : X = (⟨ck, ak, body, pd, u, now⟩, 7) := by rw [hX]; simp [g3, g4, g5, ← g6]
    subst hX
    refine goL ?_
    exact ⟨gI, ⟨rfl, LE.of rfl, rfl, LE.of rfl, trivial⟩, ⟨.inr (.inl rfl), .inr (.inl rfl), .inr (.inl rfl), .inr (.inl rfl), .inr (.inl rfl), .inr (.inl rfl), trivial⟩, rfl, rfl⟩
   | false =>
    have hX : X = (⟨ck, ak, body, pd, u, now⟩, 0) := by rw [hX]; simp [g3, g4, g5, ← g6]
    subst hX
    refine goL ?_
    exact ⟨gI, ⟨rfl, LE.of rfl, rfl, LE.of rfl, trivial⟩, ⟨.inr (.inl rfl), .inr (.inl rfl), .inr (.inl rfl), .inr (.inl rfl), .inr (.inl rfl), .inr (.inl rfl), trivial⟩, rfl, rfl⟩
  ·rw [decide_eq_false g6] at heq
   refine ⟨_, CallVC.le heq ⟨LE.refl _, LE.of (congrArg (fun l => SV.p (.lst l)) hsl), trivial⟩ rfl rfl, ?_⟩
   have hX : X = (⟨ck, ak, body, pd, u, now⟩, 11) := by rw [hX]; simp [g6]
   subst hX
   refine goL ?_
   exact ⟨gI, ⟨rfl, LE.of rfl, rfl, LE.of rfl, trivial⟩, ⟨.inr (.inl rfl), .inr (.inl rfl), .inr (.inl rfl), .inr (.inl rfl), .inr (.inl rfl), .inr (.inl rfl), trivial⟩, rfl, rfl⟩
end Go.Sl
namespace Go.Sl
open Go Go.Vc Go.Proofs Go.RowKit
theorem getU_mem {name : Bs} {l : List Us} (h : (getU name l).2 = true) : (getU name l).1 ∈ l := by
 unfold getU at h ⊢
 split
 ·exact List.getElem_mem _
 ·rename_i e
  rw [dif_neg e] at h
  cases h
theorem wordOfT_le (t : Tm) : (wordOfT t).1.length ≤ wt t := Nat.le_trans (wordOfT_len t) (wt_name t)
theorem bodyOfT_len (t : Tm) : (bodyOfT t).1.length ≤ wt t ∧ (bodyOfT t).2.1.length ≤ wt t := by
 unfold bodyOfT
 cases e : unpackT bodyW 2 t with
 | none => exact ⟨Nat.zero_le _, Nat.zero_le _⟩
 | some l =>
  have h := fun i => wt_at (wt_unpack e) (wt_pos t) i
  simp only
  split
  ·exact ⟨Nat.le_trans (wordOfT_le _) (h 0), Nat.le_trans (wordOfT_le _) (h 1)⟩
  ·exact ⟨Nat.zero_le _, Nat.zero_le _⟩
theorem opensT_ok (k : Kd) (m : Tm) (now : Int) (hk : KdOk k) (hm : wt m ≤ 1000000000) (hn0 : -1000000000000 ≤ now) (hn1 : now ≤ 1000000000000) (h : (opensT k m now).2 = 0) : TaOk (opensT k m now).1 := by
 obtain ⟨w1, w2, w3⟩ := wt_askOf m
 obtain ⟨w4, w5⟩ := wt_reqOf (openT k.key (askOfT m).2.1).1 (askOfT m).1 (askOfT m).2.2.1
 obtain ⟨w6, w7⟩ := bodyOfT_len (askOfT m).1
 unfold opensT at h ⊢
 split at h
 ·cases h
 rename_i c1
 rw [if_neg c1]
 split at h
 ·cases h
 rename_i c2
 rw [if_neg c2]
 split at h
 ·rename_i c3; exact absurd h c3
 rename_i c3
 rw [if_neg c3]
 split at h
 ·rename_i c4; exact absurd h c4
 rename_i c4
 rw [if_neg c4]
 split at h
 ·cases h
 rename_i c5
 rw [if_neg c5]
 have hu := getU_mem (name := (bodyOfT (askOfT m).1).1) (l := k.us) (by simpa using c5)
 have hs := hk.sets _ hu
 split at h
 ·rename_i c6
  rw [if_pos c6]
  exact ⟨⟨by show (bodyOfT (askOfT m).1).1.length ≤ _; omega, by show (bodyOfT (askOfT m).1).2.1.length ≤ _; omega, Nat.zero_le _, (fun s hs => by cases hs), (by show wt noneT ≤ _; decide), (by show _ ≤ (0 : Int); decide), by show (0 : Int) ≤ _; decide⟩, hs.1, hs.2, hk.words _ hu, by show wt (reqOfT _ _ _).1 ≤ _; omega, hn0, hn1⟩
 ·rename_i c6
  rw [if_neg c6]
  simp only at h
  split at h
  ·rename_i c7; exact absurd h c7
  split at h
  ·cases h
  rename_i c8
  simp only [not_or] at c8
  exact ⟨openCkT_ok _ _ _ (by omega), by have := c8.2.2.1; show (openCkT _ _ _).1.done.length < (getU _ _).1.set.length; omega, hs.2, hk.words _ hu, by show wt (reqOfT _ _ _).1 ≤ _; omega, hn0, hn1⟩
def doneTa (t : Ta) : Ta := { t with ck := { t.ck with done := t.ck.done ++ [nextT t] } }
def requestT (k : Kd) (m : Tm) (now : Int) : Kd × Tm :=
 if (opensT k m now).2 ≠ 0 then (k, refT (opensT k m now).2) else
 if isNoneB (opensT k m now).1.pd = true then offerT k (opensT k m now).1 else
 if (takesT k (opensT k m now).1).2.2.2 ≠ 0 then ((takesT k (opensT k m now).1).1, refT (takesT k (opensT k m now).1).2.2.2) else
 if (doneTa (opensT k m now).1).ck.done.length = (doneTa (opensT k m now).1).u.set.length then (ticketK (takesT k (opensT k m now).1).1 (doneTa (opensT k m now).1), ticketR (takesT k (opensT k m now).1).1 (doneTa (opensT k m now).1) (takesT k (opensT k m now).1).2.1) else
 offerT (takesT k (opensT k m now).1).1 (doneTa (opensT k m now).1)
theorem setU_len (n : Bs) (l : List Us) (g : Int → Int) : (setU n l g).length = l.length := by
 unfold setU
 split
 ·exact List.length_set
 ·rfl
theorem codeU_len (n : Bs) (l : List Us) (h : List Int) : (codeU n l h).1.length = l.length := by
 unfold codeU
 split
 ·split
  ·rfl
  ·exact List.length_set
 ·rfl
theorem takesT_same (k : Kd) (t : Ta) : (takesT k t).1.key = k.key ∧ (takesT k t).1.cookies = k.cookies ∧ (takesT k t).1.drawn = k.drawn ∧ (takesT k t).1.iss = k.iss ∧ (takesT k t).1.us.length = k.us.length := by
 unfold takesT
 split
 ·exact ⟨rfl, rfl, rfl, rfl, rfl⟩
 split
 ·exact ⟨rfl, rfl, rfl, rfl, setU_len t.ck.client k.us (· + 1)⟩
 split
 ·exact ⟨rfl, rfl, rfl, rfl, rfl⟩
 split
 ·exact ⟨rfl, rfl, rfl, rfl, rfl⟩
 split
 ·exact ⟨rfl, rfl, rfl, rfl, codeU_len t.ck.client k.us (provesT t).2.1⟩
 ·exact ⟨rfl, rfl, rfl, rfl, rfl⟩
theorem strL_app1 (l : List Bs) (s : Bs) : strL l ++ [.str s] = strL (l ++ [s]) := by
 rw [strL, strL, List.map_append]
 rfl
theorem nextT_mem {t : Ta} (h : t.ck.done.length < t.u.set.length) : nextT t ∈ t.u.set := by
 rw [nextT, List.getD_eq_getElem?_getD, List.getElem?_eq_getElem h]
 exact List.getElem_mem h
theorem doneTa_ok {t : Ta} (ht : TaOk t) : (doneTa t).ck.ok := by
 have hd := ht.done
 have hs := ht.set
 refine ⟨ht.ck.client, ht.ck.nonce, ?_, fun s h => ?_, ht.ck.secret, ht.ck.til0, ht.ck.til1⟩
 ·show (t.ck.done ++ [nextT t]).length ≤ _
  rw [List.length_append, List.length_singleton]
  omega
 ·rcases List.mem_append.1 (show s ∈ t.ck.done ++ [nextT t] from h) with h | h
  ·exact ht.ck.dones s h
  ·rw [List.mem_singleton] at h
   subst h
   exact ht.words _ (nextT_mem ht.done)
theorem LE_done (t : Ta) : LE (.p (.agg [.str t.ck.client, .str t.ck.nonce, .lst (strL t.ck.done ++ [.str (nextT t)]), .int .i64 t.ck.secret.kind, .str t.ck.secret.name, .lst (tmvs t.ck.secret.kids), .int .i64 t.ck.til,
 .int .i64 t.ak.kind, .str t.ak.name, .lst (tmvs t.ak.kids), .int .i64 t.body.kind, .str t.body.name, .lst (tmvs t.body.kids), .int .i64 t.pd.kind, .str t.pd.name, .lst (tmvs t.pd.kids),
 .str t.u.name, .int .i64 t.u.key.kind, .str t.u.key.name, .lst (tmvs t.u.key.kids), .lst (strL t.u.set), .int .i64 t.u.seed.kind, .str t.u.seed.name, .lst (tmvs t.u.seed.kids), .int .i64 t.u.tok.counter, .int .i64 t.u.tok.look, .int .i64 t.u.tok.sync, .int .i64 t.u.tok.pending, .int .i64 t.u.tok.fails, .int .i64 t.u.tok.limit, .int .i64 t.u.fails, .int .i64 t.now])) (.p (doneTa t).pv) :=
 LE_agg ⟨LEP.refl _, LEP.refl _, LEP.of (congrArg PV.lst (strL_app1 _ _)), LEP.refl _, LEP.refl _, LEP.refl _, LEP.refl _, LEP.refl _, LEP.refl _, LEP.refl _, LEP.refl _, LEP.refl _, LEP.refl _, LEP.refl _, LEP.refl _, LEP.refl _,
  LEP.refl _, LEP.refl _, LEP.refl _, LEP.refl _, LEP.refl _, LEP.refl _, LEP.refl _, LEP.refl _, LEP.refl _, LEP.refl _, LEP.refl _, LEP.refl _, LEP.refl _, LEP.refl _, LEP.refl _, LEP.refl _, trivial⟩
abbrev SmallE (e : Int) : Prop := 0 ≤ e ∧ e ≤ 12
theorem SmD {e : Int} (h : decide (0 ≤ e) = true) (h' : decide (e ≤ 12) = true) : SmallE e := ⟨of_decide_eq_true h, of_decide_eq_true h'⟩
theorem unsealT_err (k : Tm) (n : Int) (t : Tm) : SmallE (unsealT k n t).2 := by
 unfold unsealT
 split
 ·split <;> exact SmD rfl rfl
 ·exact SmD rfl rfl
theorem sealedT_err (k : Tm) (n : Int) (t : Tm) (tag : Bs) (m : Nat) : SmallE (sealedT k n t tag m).2 := by
 unfold sealedT
 split
 ·exact unsealT_err _ _ _
 ·split <;> exact SmD rfl rfl
theorem openT_err (k t : Tm) : SmallE (openT k t).2 := by
 unfold openT
 split
 ·exact SmD rfl rfl
 ·split
  ·exact sealedT_err _ _ _ _ _
  ·split
   ·exact sealedT_err _ _ _ _ _
   ·exact SmD rfl rfl
theorem reqOfT_err (k x t : Tm) : SmallE (reqOfT k x t).2.2 := by
 unfold reqOfT
 split
 ·exact sealedT_err _ _ _ _ _
 ·split <;> exact SmD rfl rfl
theorem openCkT_err (k t : Tm) (now : Int) : SmallE (openCkT k t now).2 := by
 unfold openCkT
 split
 ·split
  ·split
   ·split
    ·split <;> exact SmD rfl rfl
    ·exact SmD rfl rfl
   ·exact SmD rfl rfl
  ·exact SmD rfl rfl
 ·exact SmD rfl rfl
theorem opensT_err (k : Kd) (m : Tm) (now : Int) : SmallE (opensT k m now).2 := by
 unfold opensT
 split
 ·exact SmD rfl rfl
 split
 ·exact SmD rfl rfl
 split
 ·exact openT_err _ _
 split
 ·exact reqOfT_err _ _ _
 split
 ·exact SmD rfl rfl
 split
 ·simp only
  split <;> exact SmD rfl rfl
 ·simp only
  split
  ·exact openCkT_err _ _ _
  ·split
   ·exact SmD rfl rfl
   ·split <;> exact SmD rfl rfl
theorem hitsT_err (ak nonce p seed : Tm) (t : Tok) : SmallE (hitsT ak nonce p seed t).2 := by
 unfold hitsT
 split
 ·exact SmD rfl rfl
 ·split
  ·split
   ·exact SmD rfl rfl
   ·split
    ·split <;> exact SmD rfl rfl
    ·exact SmD rfl rfl
  ·exact unsealT_err _ _ _
theorem exponentT_err (t u : Tm) : SmallE (exponentT t u).2 := by
 unfold exponentT
 split
 ·split
  ·split <;> exact SmD rfl rfl
  ·exact SmD rfl rfl
 ·exact SmD rfl rfl
theorem checkSpakeT_err (u b y p : Tm) : SmallE (checkSpakeT u b y p).2 := by
 unfold checkSpakeT
 split
 ·exact SmD rfl rfl
 ·split
  ·exact exponentT_err _ _
  ·split <;> exact SmD rfl rfl
theorem checkChalT_err (ak u b p : Tm) (now : Int) : SmallE (checkChalT ak u b p now) := by
 unfold checkChalT
 split
 ·exact SmD rfl rfl
 ·split
  ·exact SmD rfl rfl
  ·split
   ·exact unsealT_err _ _ _
   ·split
    ·exact SmD rfl rfl
    ·split
     ·exact SmD rfl rfl
     ·split
      ·exact SmD rfl rfl
      ·split <;> exact SmD rfl rfl
theorem provesT_err (t : Ta) : SmallE (provesT t).2.2 := by
 unfold provesT
 split
 ·exact hitsT_err _ _ _ _ _
 ·split
  ·exact checkSpakeT_err _ _ _ _
  ·exact checkChalT_err _ _ _ _ _
theorem seenT_err (r : Int) (c : Ca) (id : Bs) (til now : Int) : SmallE (seenT r c id til now).2 := by
 unfold seenT
 split
 ·exact SmD rfl rfl
 ·split
  ·exact SmD rfl rfl
  ·split <;> exact SmD rfl rfl
theorem acceptT_err (t : Tok) (h : List Int) : SmallE (acceptT t h).2.2 := by
 unfold acceptT
 split
 ·exact SmD rfl rfl
 ·split
  ·exact SmD rfl rfl
  ·split
   ·exact SmD rfl rfl
   ·split <;> exact SmD rfl rfl
theorem codeU_err (n : Bs) (l : List Us) (h : List Int) : SmallE (codeU n l h).2.2 := by
 unfold codeU
 split
 ·split
  ·exact SmD rfl rfl
  ·exact acceptT_err _ _
 ·exact SmD rfl rfl
theorem takesT_err (k : Kd) (t : Ta) : SmallE (takesT k t).2.2.2 := by
 unfold takesT
 split
 ·exact SmD rfl rfl
 split
 ·exact SmD rfl rfl
 split
 ·exact provesT_err _
 split
 ·exact seenT_err _ _ _ _ _
 split
 ·exact codeU_err _ _ _
 ·exact SmD rfl rfl
attribute [local irreducible] intBin
theorem neq_v {a b : Int} {k : PV → Prop} (h : ∀ r, decide (a ≠ b) = r → k (.bool r)) : intBin .neq .i64 a b k := neq_var h
theorem eql_v {a b : Int} {k : PV → Prop} (h : ∀ r, decide (a = b) = r → k (.bool r)) : intBin .eql .i64 a b k := eql_var h
theorem request_ok (k : Kd) (m : Tm) (now : Int) (hk : KdOk k) (hm : wt m ≤ 1000000000) (hn0 : -1000000000000 ≤ now) (hn1 : now ≤ 1000000000000) :
  PM (cx true) 11 (kdO k) [.ptr 2010 0, tv m, iv now] (kdO (requestT k m now).1) (.p (TV (requestT k m now).2)) := by
 have ho := opens_ok k m now hk hm
 have hot := opensT_ok k m now hk hm hn0 hn1
 have d1 := hk.d1
 have hoe := opensT_err k m now
 unfold requestT
 revert ho hot hoe
 generalize opensT k m now = y
 obtain ⟨t, e⟩ := y
 intro ho hot hoe
 simp only at hoe ⊢
 by_cases he : e = 0
 ·subst he
  rw [if_neg (by decide)]
  have ht := hot rfl
  have hnn := isnone_ok true t.pd (wt_fit _ ht.pd)
  by_cases hnp : isNoneB t.pd = true
  ·rw [if_pos hnp]
   rw [show (unpackT noneW 0 t.pd).isSome = true from hnp] at hnn
   have hf := offer_ok k t ht.done ht.ck hk.cookies hk.d0 (by omega) ht.n0 ht.n1
   refine PM_of_vc (cx_ok true) (mixed true) { own := fun q => Nat.beq q 100014 || Nat.beq q 100026 } Tryz.func11 (by kernel_rfl) rfl rfl (by kernel_rfl) ?_ ?_
   ·rfl
   refine goL ?_
   refine ⟨_, MCallVC.pr gI ho ⟨LE.of rfl, LE.of rfl, LE.of rfl, trivial⟩ (by (conv => whnf); exact ⟨.inr (.inl rfl), .inr (.inl rfl), .inr (.inl rfl), .inr (.inl rfl), .inr (.inl rfl), .inr (.inl rfl), trivial⟩) rfl, ?_⟩
   refine goL ?_
   refine neq_v fun r hr => ?_
   cases r with
   | true => exact absurd rfl (of_decide_eq_true hr)
   | false =>
   refine goL ?_
   refine ⟨_, CallVC.pr hnn rfl rfl, ?_⟩
   refine goL ?_
   refine ⟨_, MCallVC.pr gI hf ⟨LE.of rfl, LE.of rfl, trivial⟩ (by (conv => whnf); exact ⟨.inr (.inl rfl), .inr (.inl rfl), .inr (.inl rfl), .inr (.inl rfl), .inr (.inl rfl), .inr (.inl rfl), trivial⟩) rfl, ?_⟩
   refine goL ?_
   exact ⟨gI, ⟨rfl, LE.of rfl⟩, ⟨.inr (.inl rfl), .inr (.inl rfl), .inr (.inl rfl), .inr (.inl rfl), .inr (.inl rfl), .inr (.inl rfl), trivial⟩, rfl, rfl⟩
  ·rw [if_neg hnp]
   have hnp' : isNoneB t.pd = false := by simpa using hnp
   rw [show (unpackT noneW 0 t.pd).isSome = false from hnp'] at hnn
   have htk := takes_ok k t hk ht
   have hte := takesT_err k t
   obtain ⟨s1, s2, s3, s4, s5⟩ := takesT_same k t
   revert htk hte s1 s2 s3 s4 s5
   generalize takesT k t = z
   obtain ⟨k2, b, h, e2⟩ := z
   intro htk hte s1 s2 s3 s4 s5
   simp only at hte s1 s2 s3 s4 s5 ⊢
   have hts : t.u.set.length ≤ 3 := ht.set
   have htd : t.ck.done.length < t.u.set.length := ht.done
   by_cases h2 : e2 = 0
   ·subst h2
    rw [if_neg (by decide)]
    have hd2 : (doneTa t).u.set.length = t.u.set.length := rfl
    have hd1 : (doneTa t).ck.done.length = t.ck.done.length + 1 := by
     show (t.ck.done ++ [nextT t]).length = _
     rw [List.length_append, List.length_singleton]
    by_cases h3 : (doneTa t).ck.done.length = (doneTa t).u.set.length
    ·rw [if_pos h3]
     have hkt := kticket_ok k2 (doneTa t) b (by rw [s5]; have := hk.few; omega) (by rw [s3]; exact hk.d0) (by rw [s3]; exact hk.d1) (by rw [s4]; exact hk.iss) (doneTa_ok ht) (by omega) ht.n0 ht.n1
     refine PM_of_vc (cx_ok true) (mixed true) { own := fun q => Nat.beq q 100014 || Nat.beq q 100030 || Nat.beq q 40 || Nat.beq q 44 || Nat.beq q 100060 || Nat.beq q 100063, fz := fun r => cond (Nat.beq r 10) [40] [] } Tryz.func11 (by kernel_rfl) rfl rfl (by kernel_rfl) ?_ ?_
     ·rfl
     refine goL ?_
     refine ⟨_, MCallVC.pr gI ho ⟨LE.of rfl, LE.of rfl, LE.of rfl, trivial⟩ (by (conv => whnf); exact ⟨.inr (.inl rfl), .inr (.inl rfl), .inr (.inl rfl), .inr (.inl rfl), .inr (.inl rfl), .inr (.inl rfl), trivial⟩) rfl, ?_⟩
     refine goL ?_
     refine neq_v fun r hr => ?_
     cases r with
     | true => exact absurd rfl (of_decide_eq_true hr)
     | false =>
     refine goL ?_
     refine ⟨_, CallVC.pr hnn rfl rfl, ?_⟩
     refine goL ?_
     refine ⟨_, MCallVC.pr gI htk ⟨LE.of rfl, LE.of rfl, trivial⟩ (by (conv => whnf); exact ⟨.inr (.inl rfl), .inr (.inl rfl), .inr (.inl rfl), .inr (.inl rfl), .inr (.inl rfl), .inr (.inl rfl), trivial⟩) rfl, ?_⟩
     refine goL ?_
     refine neq_v fun r hr2 => ?_
     cases r with
     | true => exact absurd rfl (of_decide_eq_true hr2)
     | false =>
     refine goL ?_
     refine ⟨_, CallVC.pr (cloneS_ok true t.ck.done (by have := ht.ck.done; omega)) rfl rfl, ?_⟩
     refine goL ?_
     refine ⟨_, CallVC.pr (next_ok t ht.done) rfl rfl, ?_⟩
     refine goL ?_
     refine ⟨by show ((strL t.ck.done).length + 1) * 16 ≤ _; rw [strL_length]; omega, ?_⟩
     refine goL ?_
     refine eql_v fun r hr3 => ?_
     have hr3 : r = decide ((doneTa t).ck.done.length = (doneTa t).u.set.length) := by
      rw [← hr3]
      refine decide_eq_decide.2 ?_
      show ((strL t.ck.done ++ [PV.str (nextT t)]).length : Int) = ((strL t.u.set).length : Int) ↔ (t.ck.done ++ [nextT t]).length = t.u.set.length
      rw [strL_app1, strL_length, strL_length, Int.ofNat_inj]
     rw [decide_eq_true h3] at hr3
     subst hr3
     refine goL ?_
     refine ⟨_, MCallVC.pr gI hkt ⟨LE.of rfl, LE_done t, LE.of rfl, trivial⟩ (by (conv => whnf); exact ⟨.inr (.inl rfl), .inr (.inl rfl), .inr (.inl rfl), .inr (.inl rfl), .inr (.inl rfl), .inr (.inl rfl), trivial⟩) rfl, ?_⟩
     refine goL ?_
     exact ⟨gI, ⟨rfl, LE.of rfl⟩, ⟨.inr (.inl rfl), .inr (.inl rfl), .inr (.inl rfl), .inr (.inl rfl), .inr (.inl rfl), .inr (.inl rfl), trivial⟩, rfl, rfl⟩
    ·rw [if_neg h3]
     have hof := offer_ok k2 (doneTa t) (by show (doneTa t).ck.done.length < t.u.set.length; have h3 : ¬ (doneTa t).ck.done.length = t.u.set.length := h3; omega) (doneTa_ok ht) (by rw [s2]; exact hk.cookies) (by rw [s3]; exact hk.d0) (by rw [s3]; omega) ht.n0 ht.n1
     refine PM_of_vc (cx_ok true) (mixed true) { own := fun q => Nat.beq q 100014 || Nat.beq q 100030 || Nat.beq q 40 || Nat.beq q 44 || Nat.beq q 100060 || Nat.beq q 100063, fz := fun r => cond (Nat.beq r 10) [40] [] } Tryz.func11 (by kernel_rfl) rfl rfl (by kernel_rfl) ?_ ?_
     ·rfl
     refine goL ?_
     refine ⟨_, MCallVC.pr gI ho ⟨LE.of rfl, LE.of rfl, LE.of rfl, trivial⟩ (by (conv => whnf); exact ⟨.inr (.inl rfl), .inr (.inl rfl), .inr (.inl rfl), .inr (.inl rfl), .inr (.inl rfl), .inr (.inl rfl), trivial⟩) rfl, ?_⟩
     refine goL ?_
     refine neq_v fun r hr => ?_
     cases r with
     | true => exact absurd rfl (of_decide_eq_true hr)
     | false =>
     refine goL ?_
     refine ⟨_, CallVC.pr hnn rfl rfl, ?_⟩
     refine goL ?_
     refine ⟨_, MCallVC.pr gI htk ⟨LE.of rfl, LE.of rfl, trivial⟩ (by (conv => whnf); exact ⟨.inr (.inl rfl), .inr (.inl rfl), .inr (.inl rfl), .inr (.inl rfl), .inr (.inl rfl), .inr (.inl rfl), trivial⟩) rfl, ?_⟩
     refine goL ?_
     refine neq_v fun r hr2 => ?_
     cases r with
     | true => exact absurd rfl (of_decide_eq_true hr2)
     | false =>
     refine goL ?_
     refine ⟨_, CallVC.pr (cloneS_ok true t.ck.done (by have := ht.ck.done; omega)) rfl rfl, ?_⟩
     refine goL ?_
     refine ⟨_, CallVC.pr (next_ok t ht.done) rfl rfl, ?_⟩
     refine goL ?_
     refine ⟨by show ((strL t.ck.done).length + 1) * 16 ≤ _; rw [strL_length]; omega, ?_⟩
     refine goL ?_
     refine eql_v fun r hr3 => ?_
     have hr3 : r = decide ((doneTa t).ck.done.length = (doneTa t).u.set.length) := by
      rw [← hr3]
      refine decide_eq_decide.2 ?_
      show ((strL t.ck.done ++ [PV.str (nextT t)]).length : Int) = ((strL t.u.set).length : Int) ↔ (t.ck.done ++ [nextT t]).length = t.u.set.length
      rw [strL_app1, strL_length, strL_length, Int.ofNat_inj]
     rw [decide_eq_false h3] at hr3
     subst hr3
     refine goL ?_
     refine ⟨_, MCallVC.pr gI hof ⟨LE.of rfl, LE_done t, trivial⟩ (by (conv => whnf); exact ⟨.inr (.inl rfl), .inr (.inl rfl), .inr (.inl rfl), .inr (.inl rfl), .inr (.inl rfl), .inr (.inl rfl), trivial⟩) rfl, ?_⟩
     refine goL ?_
     exact ⟨gI, ⟨rfl, LE.of rfl⟩, ⟨.inr (.inl rfl), .inr (.inl rfl), .inr (.inl rfl), .inr (.inl rfl), .inr (.inl rfl), .inr (.inl rfl), trivial⟩, rfl, rfl⟩
   ·rw [if_pos h2]
    refine PM_of_vc (cx_ok true) (mixed true) { own := fun q => Nat.beq q 100014 || Nat.beq q 100030 || Nat.beq q 40 || Nat.beq q 44 || Nat.beq q 100060 || Nat.beq q 100063, fz := fun r => cond (Nat.beq r 10) [40] [] } Tryz.func11 (by kernel_rfl) rfl rfl (by kernel_rfl) ?_ ?_
    ·rfl
    refine goL ?_
    refine ⟨_, MCallVC.pr gI ho ⟨LE.of rfl, LE.of rfl, LE.of rfl, trivial⟩ (by (conv => whnf); exact ⟨.inr (.inl rfl), .inr (.inl rfl), .inr (.inl rfl), .inr (.inl rfl), .inr (.inl rfl), .inr (.inl rfl), trivial⟩) rfl, ?_⟩
    refine goL ?_
    refine neq_v fun r hr => ?_
    cases r with
    | true => exact absurd rfl (of_decide_eq_true hr)
    | false =>
    refine goL ?_
    refine ⟨_, CallVC.pr hnn rfl rfl, ?_⟩
    refine goL ?_
    refine ⟨_, MCallVC.pr gI htk ⟨LE.of rfl, LE.of rfl, trivial⟩ (by (conv => whnf); exact ⟨.inr (.inl rfl), .inr (.inl rfl), .inr (.inl rfl), .inr (.inl rfl), .inr (.inl rfl), .inr (.inl rfl), trivial⟩) rfl, ?_⟩
    refine goL ?_
    refine neq_v fun r hr2 => ?_
    cases r with
    | false => exact absurd (by simpa using hr2) h2
    | true =>
    refine goL ?_
    refine ⟨_, CallVC.pr (refuse_ok true e2 (by omega) (by omega)) rfl rfl, ?_⟩
    refine goL ?_
    exact ⟨gI, ⟨rfl, LE.of rfl⟩, ⟨.inr (.inl rfl), .inr (.inl rfl), .inr (.inl rfl), .inr (.inl rfl), .inr (.inl rfl), .inr (.inl rfl), trivial⟩, rfl, rfl⟩
 ·rw [if_pos he]
  refine PM_of_vc (cx_ok true) (mixed true) { own := fun q => Nat.beq q 100014 } Tryz.func11 (by kernel_rfl) rfl rfl (by kernel_rfl) ?_ ?_
  ·rfl
  refine goL ?_
  refine ⟨_, MCallVC.pr gI ho ⟨LE.of rfl, LE.of rfl, LE.of rfl, trivial⟩ (by (conv => whnf); exact ⟨.inr (.inl rfl), .inr (.inl rfl), .inr (.inl rfl), .inr (.inl rfl), .inr (.inl rfl), .inr (.inl rfl), trivial⟩) rfl, ?_⟩
  refine goL ?_
  refine neq_v fun r hr => ?_
  cases r with
  | false => exact absurd (by simpa using hr) he
  | true =>
  refine goL ?_
  refine ⟨_, CallVC.pr (refuse_ok true e (by omega) (by omega)) rfl rfl, ?_⟩
  refine goL ?_
  exact ⟨gI, ⟨rfl, LE.of rfl⟩, ⟨.inr (.inl rfl), .inr (.inl rfl), .inr (.inl rfl), .inr (.inl rfl), .inr (.inl rfl), .inr (.inl rfl), trivial⟩, rfl, rfl⟩
end Go.Sl
namespace Go.Sl
open Go Go.Vc Go.Proofs Go.RowKit
structure Cln where
 on : Bool
 done : Bool
 ended : Bool
 nonce : Bs
 body : Tm
 wrap : Tm
 ak : Tm
 base : Tm
 sess : Tm
 name : Bs
 pw : Tm
 seed : Tm
 ctr : Int
 tick : Tm
 host : Tm
 key : Tm
 marks : List (Bs × Bs)
abbrev bv (b : Bool) : SV := .p (.bool b)
abbrev clV (c : Cln) (m : SV) : SV := .mix [bv c.on, bv c.done, bv c.ended, sv c.nonce, iv c.body.kind, sv c.body.name, lv c.body.kids, iv c.wrap.kind, sv c.wrap.name, lv c.wrap.kids, iv c.ak.kind, sv c.ak.name, lv c.ak.kids, iv c.base.kind, sv c.base.name, lv c.base.kids, iv c.sess.kind, sv c.sess.name, lv c.sess.kids,
 sv c.name, iv c.pw.kind, sv c.pw.name, lv c.pw.kids, iv c.seed.kind, sv c.seed.name, lv c.seed.kids, iv c.ctr, iv c.tick.kind, sv c.tick.name, lv c.tick.kids, iv c.host.kind, sv c.host.name, lv c.host.kids, iv c.key.kind, sv c.key.name, lv c.key.kids, m]
def mkL (l : List (Bs × Bs)) : List PV := l.map fun x => .agg [.str x.1, .str x.2]
theorem mkL_len (l : List (Bs × Bs)) : (mkL l).length = l.length := List.length_map _
theorem mkL_app (l : List (Bs × Bs)) (x : Bs × Bs) : mkL l ++ [.agg [.str x.1, .str x.2]] = mkL (l ++ [x]) := by
 rw [mkL, mkL, List.map_append]
 rfl
abbrev clO (c : Cln) : List (Nat × AO) := [(2020, .var true 85 (clV c (.slc 1020))), (1020, .row 227 2 (mkL c.marks))]
structure Cf where
 name : Bs
 pw : Tm
 seed : Tm
 ctr : Int
 tick : Tm
 host : Tm
abbrev Cf.pv (c : Cf) : PV := .agg [.str c.name, .int .i64 c.pw.kind, .str c.pw.name, .lst (tmvs c.pw.kids), .int .i64 c.seed.kind, .str c.seed.name, .lst (tmvs c.seed.kids), .int .i64 c.ctr, .int .i64 c.tick.kind, .str c.tick.name, .lst (tmvs c.tick.kids), .int .i64 c.host.kind, .str c.host.name, .lst (tmvs c.host.kids)]
def newCl (f : Cf) : Cln := ⟨false, false, false, [], zeroT, zeroT, zeroT, zeroT, zeroT, f.name, f.pw, f.seed, f.ctr, f.tick, f.host, kdfT f.pw (longW ++ f.name), []⟩
theorem cnew_ok (f : Cf) (hn : f.name.length ≤ 1000000000) : PM (cx true) 8 [] [.p f.pv] [(2020, .var true 85 (clV (newCl f) (.p .nilS)))] (.ptr 2020 0) := by
 refine PM_of_vc (cx_ok true) (mixed true) {} Tryz.func8 (by kernel_rfl) rfl rfl (by kernel_rfl) ?_ ?_
 ·rfl
 refine goL ?_
 refine ⟨_, CallVC.pr (keylong_ok true f.pw f.name hn) rfl rfl, ?_⟩
 refine goL ?_
 exact ⟨gn [(2020, 10)], ⟨rfl, LE.of rfl⟩, ⟨.inr (.inr (.inl ⟨true, _, _, _, rfl, rfl, LE_mix (by repeat (first | exact trivial | refine And.intro (by first | exact LE.refl _ | exact LE_nil | exact LE_no _) ?_))⟩)), trivial⟩, rfl, rfl⟩
def saysT (c : Cln) (p k : Tm) : Tm := askT c.body c.wrap (reqT c.ak c.body p k)
theorem says_ok (c : Cln) (p k : Tm) : PM (cx true) 37 (clO c) [.ptr 2020 0, tv p, tv k] (clO c) (.p (TV (saysT c p k))) := by
 refine PM_of_vc (cx_ok true) (mixed true) {} Tryz.func37 (by kernel_rfl) rfl rfl (by kernel_rfl) ?_ ?_
 ·rfl
 refine goL ?_
 refine ⟨_, CallVC.pr (req_ok true c.ak c.body p k) rfl rfl, ?_⟩
 refine goL ?_
 refine ⟨_, CallVC.pr (ask_ok true c.body c.wrap _) rfl rfl, ?_⟩
 refine goL ?_
 exact ⟨gI, ⟨rfl, LE.of rfl⟩, ⟨.inr (.inl rfl), .inr (.inl rfl), trivial⟩, rfl, rfl⟩
def startT (c : Cln) (n : Bs) (sub : Tm) : Cln := { c with on := true, done := false, ended := false, nonce := n, body := bodyT c.name n, wrap := wrapT c.tick c.host sub, ak := joinT sub c.host subW tickW, base := zeroT, sess := zeroT }
theorem start_ok (c : Cln) (n : Bs) (sub : Tm) (hc : c.name.length ≤ 1000000000) (hn : n.length ≤ 1000000000) : PM (cx true) 10 (clO c) [.ptr 2020 0, sv n, tv sub] (clO (startT c n sub)) (.p (TV (saysT (startT c n sub) noneT noneT))) := by
 have hs := says_ok (startT c n sub) noneT noneT
 refine PM_of_vc (cx_ok true) (mixed true) { own := fun q => Nat.beq q 100043 } Tryz.func10 (by kernel_rfl) rfl rfl (by kernel_rfl) ?_ ?_
 ·rfl
 refine goL ?_
 refine ⟨_, CallVC.pr (body_ok true c.name n hc hn) rfl rfl, ?_⟩
 refine goL ?_
 refine ⟨_, CallVC.pr (wrap_ok true c.tick c.host sub) rfl rfl, ?_⟩
 refine goL ?_
 refine ⟨_, CallVC.pr (armor_ok true sub c.host) rfl rfl, ?_⟩
 refine goL ?_
 refine ⟨_, CallVC.pr (mnone_ok true) rfl rfl, ?_⟩
 refine goL ?_
 refine ⟨_, CallVC.pr (mnone_ok true) rfl rfl, ?_⟩
 refine goL ?_
 refine ⟨_, MCallVC.pr gI hs ⟨LE.of rfl, LE.of rfl, LE.of rfl, trivial⟩ (by (conv => whnf); exact ⟨.inr (.inr (.inl ⟨true, _, _, _, rfl, rfl, LE_mm (by repeat (first | exact trivial | refine And.intro (by first | exact LE.refl _ | exact LE_nil | exact LE_no _) ?_))⟩)), .inr (.inl rfl), trivial⟩) rfl, ?_⟩
 refine goL ?_
 exact ⟨gI, ⟨rfl, LE.of rfl⟩, ⟨.inr (.inl rfl), .inr (.inl rfl), trivial⟩, rfl, rfl⟩
def sessT (c : Cln) : Tm × Bs × Bool := if c.ended = true then (c.sess, c.nonce, true) else (zeroT, [], false)
theorem session_ok (c : Cln) : PM (cx true) 25 (clO c) [.ptr 2020 0] (clO c) (.tupS [tv (sessT c).1, sv (sessT c).2.1, bv (sessT c).2.2]) := by
 obtain ⟨on, done, ended, nonce, body, wrap, ak, base, sess, name, pw, seed, ctr, tick, host, key, marks⟩ := c
 cases ended with
 | true =>
  refine PM_of_vc (cx_ok true) (mixed true) { ps := psT [(3, [2])] } Tryz.func25 (by kernel_rfl) rfl rfl (by kernel_rfl) ?_ ?_
  ·rfl
  refine goL ?_
  exact ⟨gI, ⟨rfl, LE.of rfl, rfl, LE.of rfl, rfl, LE.of rfl, trivial⟩, ⟨.inr (.inl rfl), .inr (.inl rfl), trivial⟩, rfl, rfl⟩
 | false =>
  refine PM_of_vc (cx_ok true) (mixed true) { ps := psT [(3, [2])] } Tryz.func25 (by kernel_rfl) rfl rfl (by kernel_rfl) ?_ ?_
  ·rfl
  refine goL ?_
  exact ⟨gI, ⟨rfl, LE_agg ⟨LEP.refl _, LEP.refl _, LEP_nil, trivial⟩, rfl, LE.of rfl, rfl, LE.of rfl, trivial⟩, ⟨.inr (.inl rfl), .inr (.inl rfl), trivial⟩, rfl, rfl⟩
def openedT (x : Tm) (e : Int) (tag : Bs) (n : Nat) : List Tm × Int :=
 if e ≠ 0 then ([], e) else match unpackT tag n x with
  | none => ([], 2)
  | some l => (l, 0)
def tmsR (x : List Tm × Int) : Res := .tup [.lst (tmvs x.1), .int .i64 x.2]
theorem opened_ok (x : Tm) (e : Int) (tag : Bs) (n : Nat) (hn : n ≤ 1000) (hx : Fit x) : K true 164 [tv x, iv e, sv tag, iv (n : Int)] (tmsR (openedT x e tag n)) := by
 have hu := unpack_ok true tag n x hn hx
 unfold openedT
 by_cases he : e = 0
 ·subst he
  rw [if_neg (by decide)]
  cases e : unpackT tag n x with
  | none =>
   rw [e] at hu
   refine PC_of_vc (cx_ok true) (mixed true) {} Tryz.func164 (by kernel_rfl) rfl rfl (by kernel_rfl) ?_
   refine goL ?_
   refine ⟨_, CallVC.pr hu rfl rfl, ?_⟩
   refine goL ?_
   exact ⟨LEP.refl _, LEP.refl _, trivial⟩
  | some l =>
   rw [e] at hu
   refine PC_of_vc (cx_ok true) (mixed true) {} Tryz.func164 (by kernel_rfl) rfl rfl (by kernel_rfl) ?_
   refine goL ?_
   refine ⟨_, CallVC.pr hu rfl rfl, ?_⟩
   refine goL ?_
   exact ⟨LEP.refl _, LEP.refl _, trivial⟩
 ·rw [if_pos he]
  refine PC_of_vc (cx_ok true) (mixed true) {} Tryz.func164 (by kernel_rfl) rfl rfl (by kernel_rfl) ?_
  refine goL ?_
  refine @bool_rec _ _ _ ?_ ?_ <;> intro h1
  ·refine goL ?_
   exact ⟨LEP.refl _, LEP.refl _, trivial⟩
  ·exact absurd (by simpa using h1) he
end Go.Sl
