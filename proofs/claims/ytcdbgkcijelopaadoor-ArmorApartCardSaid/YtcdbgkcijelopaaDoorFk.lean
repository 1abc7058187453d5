/- What goes under armor comes out of it, under its own keys alone: in plain terms. -/
import Derived.Test.YtcdbgkcijelopaaDoorLb
import Derived.Test.YtcdbgkcijelopaaDoorText
set_option linter.unusedVariables false
namespace Go.Sl
open Go Go.Vc Go.Proofs Go.RowKit Go.Sort Go.Lib

theorem itoa_inj {a b : Int} (h : itoa a = itoa b) : a = b := by
  have hd : ∀ u : Nat, ∀ l : Bs, decDigits u ≠ 45 :: l := by
    intro u l e
    have := decDigits_range u 45 (by rw [e]; exact List.mem_cons_self ..)
    simp at this
  unfold itoa at h
  by_cases h1 : a < 0 <;> by_cases h2 : b < 0
  · rw [if_pos h1, if_pos h2] at h
    have := decDigits_inj (List.cons.inj h).2
    omega
  · rw [if_pos h1, if_neg h2] at h
    exact absurd h.symm (hd _ _)
  · rw [if_neg h1, if_pos h2] at h
    exact absurd h (hd _ _)
  · rw [if_neg h1, if_neg h2] at h
    have := decDigits_inj h
    omega
theorem numT_inj {k k' : Tm} {w : Bs} {n n' : Int} : numT k w n = numT k' w n' ↔ k = k' ∧ n = n' := by
  constructor
  · intro h
    injection h with _ h1 h2
    have h3 := List.append_cancel_left h1
    injection h2 with h4
    exact ⟨h4, itoa_inj h3⟩
  · rintro ⟨rfl, rfl⟩; rfl
theorem unseal_gen (k k' : Tm) (n n' : Int) (t : Tm) : unsealT k' n' (sealT k n t) = if k = k' ∧ n = n' then (t, 0) else (zeroT, 4) := by
  rw [unsealT_at rfl rfl]
  have : ((sealT k n t).kids[0]'(by show 0 < 2; omega) = numT k' useW n') ↔ (k = k' ∧ n = n') := numT_inj
  by_cases h : k = k' ∧ n = n'
  · rw [if_pos h, if_pos (this.2 h)]; rfl
  · rw [if_neg h, if_neg (fun e => h (this.1 e))]
theorem sealed_gen (k k' : Tm) (n n' : Int) {tag : Bs} (h : tag ≠ []) (l : List Tm) : sealedT k' n' (sealT k n (packT tag l)) tag l.length = if k = k' ∧ n = n' then (l, 0) else ([], 4) := by
  unfold sealedT
  rw [unseal_gen]
  by_cases e : k = k' ∧ n = n'
  · rw [if_pos e, if_pos e]
    simp only [ne_eq, not_true_eq_false, if_false]
    rw [unpack_pack h]
  · rw [if_neg e, if_neg e, if_pos (by decide)]
theorem open_gen (k k' h h' s : Tm) : openT k' (wrapT (ticketT k h) h' s) = if k = k' ∧ h = h' then (joinT s h subW tickW, 0) else (zeroT, 4) := by
  have h1 : unpackT armorW 2 (wrapT (ticketT k h) h' s) = some [ticketT k h, sealT h' 11 (packT authW [s])] := unpack_pack (l := [_, _]) (by decide)
  have h2 : sealedT k' 2 (ticketT k h) hostW 1 = if k = k' ∧ (2 : Int) = 2 then ([h], 0) else ([], 4) := sealed_gen k k' 2 2 (by decide) [h]
  have h3 : sealedT h 11 (sealT h' 11 (packT authW [s])) authW 1 = if h' = h ∧ (11 : Int) = 11 then ([s], 0) else ([], 4) := sealed_gen h' h 11 11 (by decide) [s]
  unfold openT
  rw [h1]
  by_cases e : k = k'
  · rw [if_pos ⟨e, rfl⟩] at h2
    by_cases e2 : h = h'
    · rw [if_pos ⟨e2.symm, rfl⟩] at h3
      rw [if_pos ⟨e, e2⟩]
      simp [at_, h2, h3]
    · rw [if_neg (fun x => e2 x.1.symm)] at h3
      rw [if_neg (fun x => e2 x.2)]
      simp [at_, h2, h3]
  · rw [if_neg (fun x => e x.1)] at h2
    rw [if_neg (fun x => e x.1)]
    simp [at_, h2]
theorem ansOf_gen (k k' : Tm) (n m : Bs) (t : Tm) : ansOfT k' m (ansT k n t) = if k = k' then (if m = n then (t, 0) else (zeroT, 6)) else (zeroT, 4) := by
  have h1 : sealedT k' 52 (ansT k n t) answerW 2 = if k = k' ∧ (52 : Int) = 52 then ([dataT (61 :: n), t], 0) else ([], 4) := sealed_gen k k' 52 52 (by decide) [dataT (61 :: n), t]
  unfold ansOfT
  by_cases e : k = k'
  · rw [if_pos ⟨e, rfl⟩] at h1
    rw [h1, if_pos e]
    simp only [at_, List.getD_cons_zero, List.getD_cons_succ]
    by_cases e : m = n
    · subst e; simp
    · rw [if_neg (by simp), if_pos (by simpa using fun e' => e e'.symm), if_neg e]
  · rw [if_neg (fun x => e x.1)] at h1
    rw [h1, if_neg e]
    simp
theorem reqOf_gen (k k' x p c y : Tm) : reqOfT k' y (reqT k x p c) = if k = k' then (if x = y then (p, c, 0) else (zeroT, zeroT, 6)) else (zeroT, zeroT, 4) := by
  have h1 : sealedT k' 51 (reqT k x p c) fastW 3 = if k = k' ∧ (51 : Int) = 51 then ([hashT x, p, c], 0) else ([], 4) := sealed_gen k k' 51 51 (by decide) [hashT x, p, c]
  unfold reqOfT
  by_cases e : k = k'
  · rw [if_pos ⟨e, rfl⟩] at h1
    rw [h1, if_pos e]
    simp only [at_, List.getD_cons_zero, List.getD_cons_succ]
    by_cases e : x = y
    · subst e; simp
    · rw [if_neg (by simp), if_pos (by simpa using e), if_neg e]
  · rw [if_neg (fun x => e x.1)] at h1
    rw [h1, if_neg e]
    simp
theorem ansOf_req (k x p c : Tm) (n : Bs) : ansOfT k n (reqT k x p c) = (zeroT, 4) := by
  have h1 : sealedT k 52 (reqT k x p c) answerW 2 = ([], 4) := by
    unfold sealedT
    have : unsealT k 52 (reqT k x p c) = (zeroT, 4) := by
      rw [show reqT k x p c = sealT k 51 _ from rfl, unseal_gen, if_neg (by simp)]
    rw [this, if_pos (by decide)]
  unfold ansOfT
  rw [h1]
  simp
theorem join_inj {s u h k : Tm} {fa fb : Bs} : joinT s h fa fb = joinT u k fa fb ↔ s = u ∧ h = k := by
  constructor
  · intro e
    injection e with _ _ e
    injection e with e
    injection e with _ _ e
    injection e with e1 e2
    injection e2 with e2
    injection e1 with _ _ e1
    injection e1 with e1
    injection e2 with _ _ e2
    injection e2 with e2
    exact ⟨e1, e2⟩
  · rintro ⟨rfl, rfl⟩; rfl
/-! as contracts -/
theorem back_unseal (b : Bool) (k k' t : Tm) (n n' : Int) (h0 : -9223372036854775808 ≤ n) (h1 : n ≤ 9223372036854775807) (h2 : -9223372036854775808 ≤ n') (h3 : n' ≤ 9223372036854775807) (hk : Fit k) (ht : Fit t) :
    ∃ x c, Fit x ∧ K b 28 [tv k', iv n', tv (sealT k n t)] (tmR (x, c)) ∧ decide (c = 0) = decide (k = k' ∧ n = n') := by
  refine ⟨(unsealT k' n' (sealT k n t)).1, (unsealT k' n' (sealT k n t)).2, (hk.shut ht h0 h1).unshut, unseal_ok b k' (sealT k n t) n' h2 h3 (hk.shut ht h0 h1), ?_⟩
  rw [unseal_gen]
  split <;> simp [*]
theorem back_open (b : Bool) (k k' h h' s : Tm) (hk : Fit k) (hh : Fit h) (hh' : Fit h') (hs : Fit s) : ∃ x c, Fit x ∧ K b 30 [tv k', tv (wrapT (ticketT k h) h' s)] (tmR (x, c)) ∧ decide (c = 0) = decide (k = k' ∧ h = h') := by
  have hf := open_ok b k' (wrapT (ticketT k h) h' s) (Fit.wrap (hk.ticket hh) hh' hs)
  rw [open_gen] at hf
  by_cases e : k = k' ∧ h = h'
  · rw [if_pos e] at hf
    exact ⟨_, _, hs.join hh (by decide) (by decide), hf, by simp [e]⟩
  · rw [if_neg e] at hf
    exact ⟨_, _, Fit.zero, hf, by simp [e]⟩
theorem back_req (b : Bool) (k k' x p c y : Tm) (hk : Fit k) (hx : Fit x) (hp : Fit p) (hc : Fit c) : ∃ u v w, Fit u ∧ Fit v ∧ K b 32 [tv k', tv y, tv (reqT k x p c)] (tm2R (u, v, w)) ∧ decide (w = 0) = decide (k = k' ∧ x = y) := by
  have hf := reqof_ok b k' y (reqT k x p c) (hk.req hx hp hc)
  rw [reqOf_gen] at hf
  by_cases e : k = k'
  · rw [if_pos e] at hf
    by_cases e2 : x = y
    · rw [if_pos e2] at hf
      exact ⟨_, _, _, hp, hc, hf, by simp [e, e2]⟩
    · rw [if_neg e2] at hf
      exact ⟨_, _, _, Fit.zero, Fit.zero, hf, by simp [e2]⟩
  · rw [if_neg e] at hf
    exact ⟨_, _, _, Fit.zero, Fit.zero, hf, by simp [e]⟩
theorem back_ans (b : Bool) (k k' t : Tm) (n m : Bs) (hk : Fit k) (ht : Fit t) (hn : n.length ≤ 9223372036854775800) (hm : m.length ≤ 9223372036854775800) : ∃ x c, Fit x ∧ K b 34 [tv k', sv m, tv (ansT k n t)] (tmR (x, c)) ∧ decide (c = 0) = decide (k = k' ∧ m = n) := by
  have hf := ansof_ok b k' (ansT k n t) m hm (hk.ans ht hn)
  rw [ansOf_gen] at hf
  by_cases e : k = k'
  · rw [if_pos e] at hf
    by_cases e2 : m = n
    · rw [if_pos e2] at hf
      exact ⟨_, _, ht, hf, by simp [e, e2]⟩
    · rw [if_neg e2] at hf
      exact ⟨_, _, Fit.zero, hf, by simp [e2]⟩
  · rw [if_neg e] at hf
    exact ⟨_, _, Fit.zero, hf, by simp [e]⟩
end Go.Sl
