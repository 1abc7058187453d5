/- Contracts of layer 8: what is known. -/
import Derived.Test.YtakehleacibfiaaDoorGj
set_option linter.unusedVariables false
set_option linter.unusedSimpArgs false
namespace Go.Sl
open Go Go.Vc Go.Proofs Go.RowKit

/-- The texts that are there; what was found out of others. -/
def isM (S : List Bs) : List (MK × PV) := S.map fun s => (.s s, .bool true)
def mdM (D : List (Bs × Bool)) : List (MK × PV) := D.map fun x => (.s x.1, .bool x.2)
theorem isM_get (s : Bs) (S : List Bs) : mget (.s s) (isM S) = if s ∈ S then some (.bool true) else none := by
  induction S with
  | nil => rfl
  | cons x S ih =>
    show (if MK.s s = MK.s x then some (PV.bool true) else mget (.s s) (isM S)) = _
    by_cases e : s = x
    · subst e; simp
    · rw [if_neg (fun h => e (by injection h)), ih]
      simp [e]
theorem isM_put {s : Bs} {S : List Bs} (h : s ∉ S) : mput (.s s) (.bool true) (isM S) = isM (S ++ [s]) := by
  induction S with
  | nil => rfl
  | cons x S ih =>
    simp only [List.mem_cons, not_or] at h
    show (if MK.s s = MK.s x then (MK.s s, PV.bool true) :: isM S else (MK.s x, PV.bool true) :: mput (.s s) (.bool true) (isM S)) = _
    rw [if_neg (fun e => h.1 (by injection e)), ih h.2]
    rfl
theorem mdM_get (s : Bs) (D : List (Bs × Bool)) : mget (.s s) (mdM D) = (D.lookup s).map .bool := by
  induction D with
  | nil => rfl
  | cons x D ih =>
    obtain ⟨k, b⟩ := x
    show (if MK.s s = MK.s k then some (PV.bool b) else mget (.s s) (mdM D)) = _
    by_cases e : s = k
    · subst e; simp [List.lookup]
    · have hb : (s == k) = false := beq_eq_false_iff_ne.2 e
      rw [if_neg (fun h => e (by injection h)), ih]
      simp [List.lookup, hb]
theorem mdM_put {s : Bs} {b : Bool} {D : List (Bs × Bool)} (h : D.lookup s = none) : mput (.s s) (.bool b) (mdM D) = mdM (D ++ [(s, b)]) := by
  induction D with
  | nil => rfl
  | cons x D ih =>
    obtain ⟨k, c⟩ := x
    have e : ¬ s = k := by
      rintro rfl
      simp [List.lookup] at h
    have hb : (s == k) = false := beq_eq_false_iff_ne.2 e
    have h' : D.lookup s = none := by simp only [List.lookup, hb] at h; exact h
    show (if MK.s s = MK.s k then (MK.s s, PV.bool b) :: mdM D else (MK.s k, PV.bool c) :: mput (.s s) (.bool b) (mdM D)) = _
    rw [if_neg (fun h => e (by injection h)), ih h']
    rfl
/-- The objects of what is known. -/
abbrev KS (L : List Tm) (S : List Bs) (D : List (Bs × Bool)) : List (Nat × AO) :=
  [(2000, .var true 52 (.mix [.slc 1001, .slc 2002, .slc 2003])), (1001, .row 24 3 (tmvs L)), (2002, .mp 50 true (isM S)), (2003, .mp 50 true (mdM D))]
/-- The same, the row keeping its place. -/
abbrev KP (L : List Tm) (S : List Bs) (D : List (Bs × Bool)) : List (Nat × AO) :=
  [(2000, .var true 52 (.mix [.slc 2001, .slc 2002, .slc 2003])), (2001, .row 24 3 (tmvs L)), (2002, .mp 50 true (isM S)), (2003, .mp 50 true (mdM D))]
structure Kn where
  l : List Tm
  s : List Bs
  d : List (Bs × Bool)
abbrev Kn.obs (k : Kn) : List (Nat × AO) := KS k.l k.s k.d
def addT (k : Kn) (t : Tm) : Kn := if txtT (canT t) = [] ∨ txtT (canT t) ∈ k.s then k else ⟨k.l ++ [canT t], k.s ++ [txtT (canT t)], []⟩
theorem add_ok (k : Kn) (t : Tm) (hf : Fit t) (hw : wt t ≤ 1000000000) (hl : k.l.length ≤ 1000000000) :
    PM (cx true) 54 k.obs [.ptr 2000 0, tv t] (addT k t).obs (.tupS []) := by
  have hc := canon_ok t hf hw
  have fc := can_fit t hf
  have wc : wt (canT t) ≤ 1000000000 := by rw [can_wt]; exact hw
  have hT := Text_ok (canT t) fc fun _ => text_big fc wc
  obtain ⟨u, hu⟩ : ∃ u, u = canT t := ⟨_, rfl⟩
  rw [← hu] at hc fc wc hT
  obtain ⟨L, S, D⟩ := k
  refine PM_of_vc (cx_ok true) (mixed true) { own := fun q => Nat.beq q 31, kp := kpT [(5, [0, 3, 4], [3, 2000, 1001, 2002, 2003])], tr := trT [(5, [0, 1, 3, 7, 0, 15, 0, 127, 255, 511, 255, 1279, 3327], .one 0 (.one 1 (.one 2 (.one 3 (.one 4 (.one 5 (.one 6 (.one 7 (.alt (.one 8 (.alt (.one 9 (.one 10 (.one 11 (.one 12 (.fin))))) (.one 10 (.alt (.one 9 (.one 11 (.one 12 (.fin)))) (.one 11 (.alt (.one 9 (.one 12 (.fin))) (.one 12 (.one 9 (.fin))))))))) (.one 10 (.alt (.one 8 (.alt (.one 9 (.one 11 (.one 12 (.fin)))) (.one 11 (.alt (.one 9 (.one 12 (.fin))) (.one 12 (.one 9 (.fin))))))) (.one 11 (.alt (.one 8 (.alt (.one 9 (.one 12 (.fin))) (.one 12 (.one 9 (.fin))))) (.one 12 (.one 8 (.one 9 (.fin)))))))))))))))))] } Tryd.func54 (by kernel_rfl) rfl rfl (by kernel_rfl) ?_ ?_
  · unfold addT
    split <;> rfl
  have hk : addT ⟨L, S, D⟩ t = if txtT u = [] ∨ txtT u ∈ S then ⟨L, S, D⟩ else ⟨L ++ [u], S ++ [txtT u], []⟩ := by rw [hu]; rfl
  rw [hk]
  repeat (conv => whnf); first | refine IndepAnd (by kernel_rfl) ?_ | refine TreeAnd (by kernel_rfl) ?_ | refine ⟨rfl, ?_⟩ | refine ⟨by decide, ?_⟩ | refine ⟨trivial, ?_⟩ | refine ⟨⟨rfl, trivial⟩, ?_⟩ | refine ⟨Nat.le_of_ble_eq_true rfl, ?_⟩ | refine ⟨⟨_, rfl, rfl⟩, ?_⟩ | refine ⟨⟨rfl, rfl, trivial⟩, ?_⟩ | refine ⟨⟨rfl, rfl, rfl, trivial⟩, ?_⟩ | refine ⟨⟨rfl, rfl, rfl, rfl, trivial⟩, ?_⟩ | refine ⟨⟨rfl, rfl, rfl, rfl, rfl, trivial⟩, ?_⟩
  conv => whnf
  refine ⟨_, CallVC.pr hc rfl rfl, ?_⟩
  repeat (conv => whnf); first | refine IndepAnd (by kernel_rfl) ?_ | refine TreeAnd (by kernel_rfl) ?_ | refine ⟨rfl, ?_⟩ | refine ⟨by decide, ?_⟩ | refine ⟨trivial, ?_⟩ | refine ⟨⟨rfl, trivial⟩, ?_⟩ | refine ⟨Nat.le_of_ble_eq_true rfl, ?_⟩ | refine ⟨⟨_, rfl, rfl⟩, ?_⟩ | refine ⟨⟨rfl, rfl, trivial⟩, ?_⟩ | refine ⟨⟨rfl, rfl, rfl, trivial⟩, ?_⟩ | refine ⟨⟨rfl, rfl, rfl, rfl, trivial⟩, ?_⟩ | refine ⟨⟨rfl, rfl, rfl, rfl, rfl, trivial⟩, ?_⟩
  conv => whnf
  refine ⟨_, CallVC.pr hT rfl rfl, ?_⟩
  repeat (conv => whnf); first | refine IndepAnd (by kernel_rfl) ?_ | refine TreeAnd (by kernel_rfl) ?_ | refine ⟨rfl, ?_⟩ | refine ⟨by decide, ?_⟩ | refine ⟨trivial, ?_⟩ | refine ⟨⟨rfl, trivial⟩, ?_⟩ | refine ⟨Nat.le_of_ble_eq_true rfl, ?_⟩ | refine ⟨⟨_, rfl, rfl⟩, ?_⟩ | refine ⟨⟨rfl, rfl, trivial⟩, ?_⟩ | refine ⟨⟨rfl, rfl, rfl, trivial⟩, ?_⟩ | refine ⟨⟨rfl, rfl, rfl, rfl, trivial⟩, ?_⟩ | refine ⟨⟨rfl, rfl, rfl, rfl, rfl, trivial⟩, ?_⟩
  conv => whnf
  refine @bool_rec _ _ _ ?_ ?_ <;> intro h1
  · have h1 : txtT u = [] := of_decide_eq_true h1
    rw [if_pos (.inl h1)]
    repeat (conv => whnf); first | refine IndepAnd (by kernel_rfl) ?_ | refine TreeAnd (by kernel_rfl) ?_ | refine ⟨rfl, ?_⟩ | refine ⟨by decide, ?_⟩ | refine ⟨trivial, ?_⟩ | refine ⟨⟨rfl, trivial⟩, ?_⟩ | refine ⟨Nat.le_of_ble_eq_true rfl, ?_⟩ | refine ⟨⟨_, rfl, rfl⟩, ?_⟩ | refine ⟨⟨rfl, rfl, trivial⟩, ?_⟩ | refine ⟨⟨rfl, rfl, rfl, trivial⟩, ?_⟩ | refine ⟨⟨rfl, rfl, rfl, rfl, trivial⟩, ?_⟩ | refine ⟨⟨rfl, rfl, rfl, rfl, rfl, trivial⟩, ?_⟩
    conv => whnf
    exact ⟨id, rfl, ⟨.inr (.inl rfl), .inr (.inl rfl), .inr (.inl rfl), .inr (.inl rfl), trivial⟩, rfl, rfl⟩
  · have h1 : ¬ txtT u = [] := of_decide_eq_false h1
    repeat (conv => whnf); first | refine IndepAnd (by kernel_rfl) ?_ | refine TreeAnd (by kernel_rfl) ?_ | refine ⟨rfl, ?_⟩ | refine ⟨by decide, ?_⟩ | refine ⟨trivial, ?_⟩ | refine ⟨⟨rfl, trivial⟩, ?_⟩ | refine ⟨Nat.le_of_ble_eq_true rfl, ?_⟩ | refine ⟨⟨_, rfl, rfl⟩, ?_⟩ | refine ⟨⟨rfl, rfl, trivial⟩, ?_⟩ | refine ⟨⟨rfl, rfl, rfl, trivial⟩, ?_⟩ | refine ⟨⟨rfl, rfl, rfl, rfl, trivial⟩, ?_⟩ | refine ⟨⟨rfl, rfl, rfl, rfl, rfl, trivial⟩, ?_⟩
    conv => whnf
    refine ⟨_, isM_get (txtT u) S, ?_⟩
    by_cases h2 : txtT u ∈ S
    · rw [if_pos h2, if_pos (.inr h2)]
      repeat (conv => whnf); first | refine IndepAnd (by kernel_rfl) ?_ | refine TreeAnd (by kernel_rfl) ?_ | refine ⟨rfl, ?_⟩ | refine ⟨by decide, ?_⟩ | refine ⟨trivial, ?_⟩ | refine ⟨⟨rfl, trivial⟩, ?_⟩ | refine ⟨Nat.le_of_ble_eq_true rfl, ?_⟩ | refine ⟨⟨_, rfl, rfl⟩, ?_⟩ | refine ⟨⟨rfl, rfl, trivial⟩, ?_⟩ | refine ⟨⟨rfl, rfl, rfl, trivial⟩, ?_⟩ | refine ⟨⟨rfl, rfl, rfl, rfl, trivial⟩, ?_⟩ | refine ⟨⟨rfl, rfl, rfl, rfl, rfl, trivial⟩, ?_⟩
      conv => whnf
      exact ⟨id, rfl, ⟨.inr (.inl rfl), .inr (.inl rfl), .inr (.inl rfl), .inr (.inl rfl), trivial⟩, rfl, rfl⟩
    · rw [if_neg h2, if_neg (fun h => h.elim h1 h2)]
      have hlt : (tmvs L).length < (tmvs L ++ [PV.agg [.int .i64 0, .str [], .nilS]]).length := by simp
      have hset : (tmvs L ++ [PV.agg [.int .i64 0, .str [], .nilS]]).set (tmvs L).length (TV u) = tmvs (L ++ [u]) := by
        rw [List.set_append_right _ _ (Nat.le_refl _), Nat.sub_self, List.set_cons_zero, tmvs1, ← tmvs_append]
      repeat (conv => whnf); first | refine IndepAnd (by kernel_rfl) ?_ | refine TreeAnd (by kernel_rfl) ?_ | refine ⟨rfl, ?_⟩ | refine ⟨by decide, ?_⟩ | refine ⟨trivial, ?_⟩ | refine ⟨⟨rfl, trivial⟩, ?_⟩ | refine ⟨Nat.le_of_ble_eq_true rfl, ?_⟩ | refine ⟨⟨_, rfl, rfl⟩, ?_⟩ | refine ⟨⟨rfl, rfl, trivial⟩, ?_⟩ | refine ⟨⟨rfl, rfl, rfl, trivial⟩, ?_⟩ | refine ⟨⟨rfl, rfl, rfl, rfl, trivial⟩, ?_⟩ | refine ⟨⟨rfl, rfl, rfl, rfl, rfl, trivial⟩, ?_⟩
      conv => whnf
      refine ⟨by show ((tmvs L).length + 1) * 48 ≤ _; rw [tmvs_length]; have hl : L.length ≤ 1000000000 := hl; omega, ?_⟩
      repeat' ((conv => whnf); first | refine IndepAnd (by kernel_rfl) ?_ | refine TreeAnd (by kernel_rfl) ?_ | refine ⟨rfl, ?_⟩ | refine ⟨by decide, ?_⟩ | refine ⟨trivial, ?_⟩ | refine ⟨⟨rfl, trivial⟩, ?_⟩ | refine ⟨Nat.le_of_ble_eq_true rfl, ?_⟩ | refine ⟨⟨_, rfl, rfl⟩, ?_⟩ | refine ⟨⟨rfl, rfl, trivial⟩, ?_⟩ | refine ⟨⟨rfl, rfl, rfl, trivial⟩, ?_⟩ | refine ⟨⟨rfl, rfl, rfl, rfl, trivial⟩, ?_⟩ | refine ⟨⟨rfl, rfl, rfl, rfl, rfl, trivial⟩, ?_⟩ | refine AltAnd ?_ ?_ | refine ⟨Int.natCast_nonneg _, hlt, ?_⟩ | refine ⟨hlt, rfl, rfl, rfl, ?_⟩)
      all_goals (conv => whnf)
      all_goals exact ⟨id, rfl, ⟨.inr (.inl rfl), .inr (.inl (congrArg (AO.row 24 3) hset)), .inr (.inl (congrArg (AO.mp 50 true) (isM_put h2))), .inr (.inl rfl), trivial⟩, rfl, rfl⟩
end Go.Sl
