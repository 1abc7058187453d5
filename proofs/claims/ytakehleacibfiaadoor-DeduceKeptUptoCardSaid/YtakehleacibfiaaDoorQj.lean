/- DeduceKept: to ask again and again is to ask once. -/
import Derived.Test.YtakehleacibfiaaDoorMc
set_option linter.unusedVariables false
set_option linter.unusedSimpArgs false
namespace Go.Sl
open Go Go.Vc Go.Proofs Go.RowKit

abbrev gOf2 : Nat → Nat := gT [(2000, 9), (1001, 1500), (2002, 6), (2003, 7)]
/-- deduce.Of, the list being a row of the caller's. -/
theorem of_row (l : List Tm) (hf : ∀ t ∈ l, Fit t) (hw : ∀ t ∈ l, wt t ≤ 1000000000) (hl : l.length ≤ 1000000000) :
    PM (cx true) 31 [(2005, .row 24 3 (tmvs l))] [.slc 2005] ((ofT l).obs ++ [(2005, .row 24 3 (tmvs l))]) (.ptr 2000 0) := by
  refine PM_of_vc (cx_ok true) (mixed true) { own := fun q => Nat.beq q 100018, nl := fun r => cond (Nat.beq r 2) [(9, 0, 1500, 24, 3)] [] } Tryd.func31 (by kernel_rfl) rfl rfl (by kernel_rfl) rfl ?_
  repeat (conv => whnf); first | refine IndepAnd (by kernel_rfl) ?_ | refine TreeAnd (by kernel_rfl) ?_ | refine ⟨rfl, ?_⟩ | refine ⟨by decide, ?_⟩ | refine ⟨trivial, ?_⟩ | refine ⟨⟨rfl, trivial⟩, ?_⟩ | refine ⟨Nat.le_of_ble_eq_true rfl, ?_⟩ | refine ⟨⟨_, rfl, rfl⟩, ?_⟩ | refine ⟨⟨rfl, rfl, trivial⟩, ?_⟩ | refine ⟨⟨rfl, rfl, rfl, trivial⟩, ?_⟩ | refine ⟨⟨rfl, rfl, rfl, rfl, trivial⟩, ?_⟩ | refine ⟨⟨rfl, rfl, rfl, rfl, rfl, trivial⟩, ?_⟩
  conv => whnf
  refine ⟨{ i : Nat // i ≤ l.length }, fun i => Vc.S.of [(3, .ptr 9 0), (10, .slc 2005), (11, iv ((tmvs l).length : Int)), (12, iv (i.1 : Int))] [(9, .var true 52 (.mix [.slc 1500, .slc 6, .slc 7])), (1500, .row 24 3 (tmvs (ofT (l.take i.1)).l)), (6, .mp 50 true (isM (ofT (l.take i.1)).s)), (7, .mp 50 true (mdM (ofT (l.take i.1)).d)), (2005, .row 24 3 (tmvs l))], fun i => l.length - i.1, ⟨0, Nat.zero_le _⟩, ?_, ?_⟩
  · refine Ge.of rfl ?_ ?_
    · repeat (conv => whnf); refine ⟨LE.of rfl, ?_⟩
      trivial
    · repeat (conv => whnf); refine ⟨OLE.of rfl, ?_⟩
      trivial
  rintro ⟨i, hi⟩
  repeat (conv => whnf); first | refine IndepAnd (by kernel_rfl) ?_ | refine TreeAnd (by kernel_rfl) ?_ | refine ⟨rfl, ?_⟩ | refine ⟨by decide, ?_⟩ | refine ⟨trivial, ?_⟩ | refine ⟨⟨rfl, trivial⟩, ?_⟩ | refine ⟨Nat.le_of_ble_eq_true rfl, ?_⟩ | refine ⟨⟨_, rfl, rfl⟩, ?_⟩ | refine ⟨⟨rfl, rfl, trivial⟩, ?_⟩ | refine ⟨⟨rfl, rfl, rfl, trivial⟩, ?_⟩ | refine ⟨⟨rfl, rfl, rfl, rfl, trivial⟩, ?_⟩ | refine ⟨⟨rfl, rfl, rfl, rfl, rfl, trivial⟩, ?_⟩
  conv => whnf
  refine @bool_rec _ _ _ ?_ ?_ <;> intro h1
  · have hlt : i < l.length := by have := of_decide_eq_true h1; rw [tmvs_length] at this; exact Int.ofNat_lt.1 this
    repeat (conv => whnf); first | refine IndepAnd (by kernel_rfl) ?_ | refine TreeAnd (by kernel_rfl) ?_ | refine ⟨rfl, ?_⟩ | refine ⟨by decide, ?_⟩ | refine ⟨trivial, ?_⟩ | refine ⟨⟨rfl, trivial⟩, ?_⟩ | refine ⟨Nat.le_of_ble_eq_true rfl, ?_⟩ | refine ⟨⟨_, rfl, rfl⟩, ?_⟩ | refine ⟨⟨rfl, rfl, trivial⟩, ?_⟩ | refine ⟨⟨rfl, rfl, rfl, trivial⟩, ?_⟩ | refine ⟨⟨rfl, rfl, rfl, rfl, trivial⟩, ?_⟩ | refine ⟨⟨rfl, rfl, rfl, rfl, rfl, trivial⟩, ?_⟩
    conv => whnf
    refine ⟨Int.natCast_nonneg _, by show i < (tmvs l).length; rw [tmvs_length]; exact hlt, ?_⟩
    repeat (conv => whnf); first | refine IndepAnd (by kernel_rfl) ?_ | refine TreeAnd (by kernel_rfl) ?_ | refine ⟨rfl, ?_⟩ | refine ⟨by decide, ?_⟩ | refine ⟨trivial, ?_⟩ | refine ⟨⟨rfl, trivial⟩, ?_⟩ | refine ⟨Nat.le_of_ble_eq_true rfl, ?_⟩ | refine ⟨⟨_, rfl, rfl⟩, ?_⟩ | refine ⟨⟨rfl, rfl, trivial⟩, ?_⟩ | refine ⟨⟨rfl, rfl, rfl, trivial⟩, ?_⟩ | refine ⟨⟨rfl, rfl, rfl, rfl, trivial⟩, ?_⟩ | refine ⟨⟨rfl, rfl, rfl, rfl, rfl, trivial⟩, ?_⟩
    conv => whnf
    refine ⟨TV l[i], tmvs_get hlt, rfl, rfl, rfl, ?_⟩
    repeat (conv => whnf); first | refine IndepAnd (by kernel_rfl) ?_ | refine TreeAnd (by kernel_rfl) ?_ | refine ⟨rfl, ?_⟩ | refine ⟨by decide, ?_⟩ | refine ⟨trivial, ?_⟩ | refine ⟨⟨rfl, trivial⟩, ?_⟩ | refine ⟨Nat.le_of_ble_eq_true rfl, ?_⟩ | refine ⟨⟨_, rfl, rfl⟩, ?_⟩ | refine ⟨⟨rfl, rfl, trivial⟩, ?_⟩ | refine ⟨⟨rfl, rfl, rfl, trivial⟩, ?_⟩ | refine ⟨⟨rfl, rfl, rfl, rfl, trivial⟩, ?_⟩ | refine ⟨⟨rfl, rfl, rfl, rfl, rfl, trivial⟩, ?_⟩
    conv => whnf
    refine ⟨_, MCallVC.pr gOf2 (add_ok (ofT (l.take i)) l[i] (hf _ (List.getElem_mem hlt)) (hw _ (List.getElem_mem hlt)) (by have := foldl_add_len (l.take i) ⟨[], [], []⟩; simp at this; show (List.foldl addT ⟨[], [], []⟩ (l.take i)).l.length ≤ _; omega)) ⟨LE.of rfl, LE.of rfl, trivial⟩ ⟨.inr (.inl rfl), .inr (.inl rfl), .inr (.inl rfl), .inr (.inl rfl), trivial⟩ rfl, ?_⟩
    repeat (conv => whnf); first | refine IndepAnd (by kernel_rfl) ?_ | refine TreeAnd (by kernel_rfl) ?_ | refine ⟨rfl, ?_⟩ | refine ⟨by decide, ?_⟩ | refine ⟨trivial, ?_⟩ | refine ⟨⟨rfl, trivial⟩, ?_⟩ | refine ⟨Nat.le_of_ble_eq_true rfl, ?_⟩ | refine ⟨⟨_, rfl, rfl⟩, ?_⟩ | refine ⟨⟨rfl, rfl, trivial⟩, ?_⟩ | refine ⟨⟨rfl, rfl, rfl, trivial⟩, ?_⟩ | refine ⟨⟨rfl, rfl, rfl, rfl, trivial⟩, ?_⟩ | refine ⟨⟨rfl, rfl, rfl, rfl, rfl, trivial⟩, ?_⟩
    conv => whnf
    refine ⟨_, wrapN (n := i + 1) rfl (by omega), ?_⟩
    repeat (conv => whnf); first | refine IndepAnd (by kernel_rfl) ?_ | refine TreeAnd (by kernel_rfl) ?_ | refine ⟨rfl, ?_⟩ | refine ⟨by decide, ?_⟩ | refine ⟨trivial, ?_⟩ | refine ⟨⟨rfl, trivial⟩, ?_⟩ | refine ⟨Nat.le_of_ble_eq_true rfl, ?_⟩ | refine ⟨⟨_, rfl, rfl⟩, ?_⟩ | refine ⟨⟨rfl, rfl, trivial⟩, ?_⟩ | refine ⟨⟨rfl, rfl, rfl, trivial⟩, ?_⟩ | refine ⟨⟨rfl, rfl, rfl, rfl, trivial⟩, ?_⟩ | refine ⟨⟨rfl, rfl, rfl, rfl, rfl, trivial⟩, ?_⟩
    conv => whnf
    have e := ofT_take hlt
    refine ⟨⟨i + 1, hlt⟩, ?_, by show l.length - (i + 1) < l.length - i; omega⟩
    refine Ge.of rfl ?_ ?_
    · repeat (conv => whnf); refine ⟨LE.of rfl, ?_⟩
      trivial
    · repeat (conv => whnf); first | refine ⟨OLE.of rfl, ?_⟩ | refine ⟨OLE.of (congrArg (fun k : Kn => AO.row 24 3 (tmvs k.l)) e.symm), ?_⟩ | refine ⟨OLE.of (congrArg (fun k : Kn => AO.mp 50 true (isM k.s)) e.symm), ?_⟩ | refine ⟨OLE.of (congrArg (fun k : Kn => AO.mp 50 true (mdM k.d)) e.symm), ?_⟩
      trivial
  · have hge : i = l.length := by have h1 := of_decide_eq_false h1; rw [tmvs_length] at h1; have h1 : ¬ (i : Int) < (l.length : Int) := h1; omega
    have e : ofT (l.take i) = ofT l := by rw [hge, List.take_length]
    repeat (conv => whnf); first | refine IndepAnd (by kernel_rfl) ?_ | refine TreeAnd (by kernel_rfl) ?_ | refine ⟨rfl, ?_⟩ | refine ⟨by decide, ?_⟩ | refine ⟨trivial, ?_⟩ | refine ⟨⟨rfl, trivial⟩, ?_⟩ | refine ⟨Nat.le_of_ble_eq_true rfl, ?_⟩ | refine ⟨⟨_, rfl, rfl⟩, ?_⟩ | refine ⟨⟨rfl, rfl, trivial⟩, ?_⟩ | refine ⟨⟨rfl, rfl, rfl, trivial⟩, ?_⟩ | refine ⟨⟨rfl, rfl, rfl, rfl, trivial⟩, ?_⟩ | refine ⟨⟨rfl, rfl, rfl, rfl, rfl, trivial⟩, ?_⟩
    conv => whnf
    exact ⟨gOf2, ⟨rfl, LE.of rfl⟩, ⟨.inr (.inl rfl), .inr (.inl (congrArg (fun k : Kn => AO.row 24 3 (tmvs k.l)) e)), .inr (.inl (congrArg (fun k : Kn => AO.mp 50 true (isM k.s)) e)), .inr (.inl (congrArg (fun k : Kn => AO.mp 50 true (mdM k.d)) e)), .inr (.inl rfl), trivial⟩, rfl, rfl⟩
theorem tmvs_set (l : List Tm) (i : Nat) (t : Tm) : (tmvs l).set i (TV t) = tmvs (l.set i t) := by rw [tmvs_eq, tmvs_eq, List.map_set]
abbrev gKept : Nat → Nat := gT [(2000, 1900), (1001, 1901), (2002, 1902), (2003, 1903), (2005, 16)]
structure SomeI (l : List Tm) (i : Nat) (o : List Tm) : Prop where
  hi : i ≤ l.length
  hn : o.length ≤ 6
  mem : ∀ t ∈ o, t ∈ l
structure Box (B : Prop) : Prop where
  un : B
theorem cutP {A B : Prop} (p : B) (h : Box B → A) : A := h ⟨p⟩
set_option maxHeartbeats 4000000 in
theorem dkept_ok (l gs : List Tm) (hf : ∀ t ∈ l, Fit t) (hl : l.length ≤ 9223372036854775807) (gf : ∀ t ∈ gs, Fit t) (gl : gs.length ≤ 9223372036854775807) (hw : wts l + wts gs ≤ 1048576) : K true 7 [lv l, lv gs] (.pv (.bool true)) := by
  obtain ⟨L, eL⟩ : ∃ L, L = few8 l := ⟨_, rfl⟩
  have hF : Frm L := by rw [eL]; exact frm_few0 hf (by omega)
  have hfew : K true 15 [lv l] (.pv (.lst (tmvs L))) := by rw [eL]; exact few8_ok l hf hl
  have hLl : L.length ≤ 8 := by rw [eL]; exact few_len8 l
  obtain ⟨k0, ek⟩ : ∃ k0, k0 = ofT L := ⟨_, rfl⟩
  have d0 : DOk k0.s k0.d := by rw [ek]; exact (of_wk hF.fit hF.wt).d
  have hof := of_row L hF.fit hF.wt (by omega)
  rw [← ek] at hof
  have hk0 : ∀ t, mkB k0.s (canT t) = mdT L t := fun t => by rw [ek, mdT_eq]
  have hwg : ∀ t ∈ gs, wt t ≤ 1000000000 := fun t ht => by have := wts_mem ht; omega
  refine PC_of_vc (cx_ok true) (mixed true) { own := fun q => Nat.beq q 16 || Nat.beq q 18 || Nat.beq q 100020 || Nat.beq q 9 || Nat.beq q 55 || Nat.beq q 100067 || Nat.beq q 100087, fz := fun r => cond (Nat.beq r 17) [9] [], kp := kpT [(20, [0, 4, 5, 7, 9, 11], [1900, 1901, 1902, 1903]), (25, [0, 4, 5, 7, 9, 12], [1900, 1901, 1902, 1903])], tr := trT [(20, [0, 0, 0, 6, 14, 31, 0, 0, 0, 384, 896, 2047, 4095], .one 0 (.one 1 (.one 2 (.one 3 (.one 4 (.alt (.one 5 (.one 6 (.one 7 (.one 8 (.one 9 (.one 10 (.one 11 (.one 12 (.fin))))))))) (.alt (.one 6 (.alt (.one 5 (.one 7 (.one 8 (.one 9 (.one 10 (.one 11 (.one 12 (.fin)))))))) (.alt (.one 7 (.alt (.one 5 (.one 8 (.one 9 (.one 10 (.one 11 (.one 12 (.fin))))))) (.one 8 (.alt (.one 5 (.one 9 (.one 10 (.one 11 (.one 12 (.fin)))))) (.one 9 (.alt (.one 5 (.one 10 (.one 11 (.one 12 (.fin))))) (.one 10 (.one 5 (.one 11 (.one 12 (.fin))))))))))) (.one 8 (.alt (.one 5 (.one 7 (.one 9 (.one 10 (.one 11 (.one 12 (.fin))))))) (.one 7 (.alt (.one 5 (.one 9 (.one 10 (.one 11 (.one 12 (.fin)))))) (.one 9 (.alt (.one 5 (.one 10 (.one 11 (.one 12 (.fin))))) (.one 10 (.one 5 (.one 11 (.one 12 (.fin)))))))))))))) (.alt (.one 7 (.alt (.one 5 (.one 6 (.one 8 (.one 9 (.one 10 (.one 11 (.one 12 (.fin)))))))) (.alt (.one 6 (.alt (.one 5 (.one 8 (.one 9 (.one 10 (.one 11 (.one 12 (.fin))))))) (.one 8 (.alt (.one 5 (.one 9 (.one 10 (.one 11 (.one 12 (.fin)))))) (.one 9 (.alt (.one 5 (.one 10 (.one 11 (.one 12 (.fin))))) (.one 10 (.one 5 (.one 11 (.one 12 (.fin))))))))))) (.one 8 (.alt (.one 5 (.one 6 (.one 9 (.one 10 (.one 11 (.one 12 (.fin))))))) (.alt (.one 6 (.alt (.one 5 (.one 9 (.one 10 (.one 11 (.one 12 (.fin)))))) (.one 9 (.alt (.one 5 (.one 10 (.one 11 (.one 12 (.fin))))) (.one 10 (.one 5 (.one 11 (.one 12 (.fin))))))))) (.one 9 (.alt (.one 5 (.one 6 (.one 10 (.one 11 (.one 12 (.fin)))))) (.alt (.one 6 (.alt (.one 5 (.one 10 (.one 11 (.one 12 (.fin))))) (.one 10 (.one 5 (.one 11 (.one 12 (.fin))))))) (.one 10 (.alt (.one 5 (.one 6 (.one 11 (.one 12 (.fin))))) (.one 6 (.one 5 (.one 11 (.one 12 (.fin)))))))))))))))) (.one 8 (.alt (.one 5 (.one 6 (.one 7 (.one 9 (.one 10 (.one 11 (.one 12 (.fin)))))))) (.alt (.one 6 (.alt (.one 5 (.one 7 (.one 9 (.one 10 (.one 11 (.one 12 (.fin))))))) (.one 7 (.alt (.one 5 (.one 9 (.one 10 (.one 11 (.one 12 (.fin)))))) (.one 9 (.alt (.one 5 (.one 10 (.one 11 (.one 12 (.fin))))) (.one 10 (.one 5 (.one 11 (.one 12 (.fin))))))))))) (.one 7 (.alt (.one 5 (.one 6 (.one 9 (.one 10 (.one 11 (.one 12 (.fin))))))) (.alt (.one 6 (.alt (.one 5 (.one 9 (.one 10 (.one 11 (.one 12 (.fin)))))) (.one 9 (.alt (.one 5 (.one 10 (.one 11 (.one 12 (.fin))))) (.one 10 (.one 5 (.one 11 (.one 12 (.fin))))))))) (.one 9 (.alt (.one 5 (.one 6 (.one 10 (.one 11 (.one 12 (.fin)))))) (.alt (.one 6 (.alt (.one 5 (.one 10 (.one 11 (.one 12 (.fin))))) (.one 10 (.one 5 (.one 11 (.one 12 (.fin))))))) (.one 10 (.alt (.one 5 (.one 6 (.one 11 (.one 12 (.fin))))) (.one 6 (.one 5 (.one 11 (.one 12 (.fin)))))))))))))))))))))))), (25, [0, 0, 0, 6, 14, 31, 0, 0, 0, 384, 896, 2047, 4095], .one 0 (.one 1 (.one 2 (.one 3 (.one 4 (.alt (.one 5 (.one 6 (.one 7 (.one 8 (.one 9 (.one 10 (.one 11 (.one 12 (.fin))))))))) (.alt (.one 6 (.alt (.one 5 (.one 7 (.one 8 (.one 9 (.one 10 (.one 11 (.one 12 (.fin)))))))) (.alt (.one 7 (.alt (.one 5 (.one 8 (.one 9 (.one 10 (.one 11 (.one 12 (.fin))))))) (.one 8 (.alt (.one 5 (.one 9 (.one 10 (.one 11 (.one 12 (.fin)))))) (.one 9 (.alt (.one 5 (.one 10 (.one 11 (.one 12 (.fin))))) (.one 10 (.one 5 (.one 11 (.one 12 (.fin))))))))))) (.one 8 (.alt (.one 5 (.one 7 (.one 9 (.one 10 (.one 11 (.one 12 (.fin))))))) (.one 7 (.alt (.one 5 (.one 9 (.one 10 (.one 11 (.one 12 (.fin)))))) (.one 9 (.alt (.one 5 (.one 10 (.one 11 (.one 12 (.fin))))) (.one 10 (.one 5 (.one 11 (.one 12 (.fin)))))))))))))) (.alt (.one 7 (.alt (.one 5 (.one 6 (.one 8 (.one 9 (.one 10 (.one 11 (.one 12 (.fin)))))))) (.alt (.one 6 (.alt (.one 5 (.one 8 (.one 9 (.one 10 (.one 11 (.one 12 (.fin))))))) (.one 8 (.alt (.one 5 (.one 9 (.one 10 (.one 11 (.one 12 (.fin)))))) (.one 9 (.alt (.one 5 (.one 10 (.one 11 (.one 12 (.fin))))) (.one 10 (.one 5 (.one 11 (.one 12 (.fin))))))))))) (.one 8 (.alt (.one 5 (.one 6 (.one 9 (.one 10 (.one 11 (.one 12 (.fin))))))) (.alt (.one 6 (.alt (.one 5 (.one 9 (.one 10 (.one 11 (.one 12 (.fin)))))) (.one 9 (.alt (.one 5 (.one 10 (.one 11 (.one 12 (.fin))))) (.one 10 (.one 5 (.one 11 (.one 12 (.fin))))))))) (.one 9 (.alt (.one 5 (.one 6 (.one 10 (.one 11 (.one 12 (.fin)))))) (.alt (.one 6 (.alt (.one 5 (.one 10 (.one 11 (.one 12 (.fin))))) (.one 10 (.one 5 (.one 11 (.one 12 (.fin))))))) (.one 10 (.alt (.one 5 (.one 6 (.one 11 (.one 12 (.fin))))) (.one 6 (.one 5 (.one 11 (.one 12 (.fin)))))))))))))))) (.one 8 (.alt (.one 5 (.one 6 (.one 7 (.one 9 (.one 10 (.one 11 (.one 12 (.fin)))))))) (.alt (.one 6 (.alt (.one 5 (.one 7 (.one 9 (.one 10 (.one 11 (.one 12 (.fin))))))) (.one 7 (.alt (.one 5 (.one 9 (.one 10 (.one 11 (.one 12 (.fin)))))) (.one 9 (.alt (.one 5 (.one 10 (.one 11 (.one 12 (.fin))))) (.one 10 (.one 5 (.one 11 (.one 12 (.fin))))))))))) (.one 7 (.alt (.one 5 (.one 6 (.one 9 (.one 10 (.one 11 (.one 12 (.fin))))))) (.alt (.one 6 (.alt (.one 5 (.one 9 (.one 10 (.one 11 (.one 12 (.fin)))))) (.one 9 (.alt (.one 5 (.one 10 (.one 11 (.one 12 (.fin))))) (.one 10 (.one 5 (.one 11 (.one 12 (.fin))))))))) (.one 9 (.alt (.one 5 (.one 6 (.one 10 (.one 11 (.one 12 (.fin)))))) (.alt (.one 6 (.alt (.one 5 (.one 10 (.one 11 (.one 12 (.fin))))) (.one 10 (.one 5 (.one 11 (.one 12 (.fin))))))) (.one 10 (.alt (.one 5 (.one 6 (.one 11 (.one 12 (.fin))))) (.one 6 (.one 5 (.one 11 (.one 12 (.fin))))))))))))))))))))))))] } Tryd.func7 (by kernel_rfl) rfl rfl (by kernel_rfl) ?_
  repeat (conv => whnf); first | refine IndepAnd (by kernel_rfl) ?_ | refine TreeAnd (by kernel_rfl) ?_ | refine ⟨rfl, ?_⟩ | refine ⟨by decide, ?_⟩ | refine ⟨trivial, ?_⟩ | refine ⟨⟨rfl, trivial⟩, ?_⟩ | refine ⟨Nat.le_of_ble_eq_true rfl, ?_⟩ | refine ⟨⟨_, rfl, rfl⟩, ?_⟩ | refine ⟨⟨rfl, rfl, trivial⟩, ?_⟩ | refine ⟨⟨rfl, rfl, rfl, trivial⟩, ?_⟩ | refine ⟨⟨rfl, rfl, rfl, rfl, trivial⟩, ?_⟩ | refine ⟨⟨rfl, rfl, rfl, rfl, rfl, trivial⟩, ?_⟩
  conv => whnf
  refine ⟨_, CallVC.pr shown8_ok rfl rfl, ?_⟩
  repeat (conv => whnf); first | refine IndepAnd (by kernel_rfl) ?_ | refine TreeAnd (by kernel_rfl) ?_ | refine ⟨rfl, ?_⟩ | refine ⟨by decide, ?_⟩ | refine ⟨trivial, ?_⟩ | refine ⟨⟨rfl, trivial⟩, ?_⟩ | refine ⟨Nat.le_of_ble_eq_true rfl, ?_⟩ | refine ⟨⟨_, rfl, rfl⟩, ?_⟩ | refine ⟨⟨rfl, rfl, trivial⟩, ?_⟩ | refine ⟨⟨rfl, rfl, rfl, trivial⟩, ?_⟩ | refine ⟨⟨rfl, rfl, rfl, rfl, trivial⟩, ?_⟩ | refine ⟨⟨rfl, rfl, rfl, rfl, rfl, trivial⟩, ?_⟩
  conv => whnf
  refine ⟨_, CallVC.pr hfew rfl rfl, ?_⟩
  repeat (conv => whnf); first | refine IndepAnd (by kernel_rfl) ?_ | refine TreeAnd (by kernel_rfl) ?_ | refine ⟨rfl, ?_⟩ | refine ⟨by decide, ?_⟩ | refine ⟨trivial, ?_⟩ | refine ⟨⟨rfl, trivial⟩, ?_⟩ | refine ⟨Nat.le_of_ble_eq_true rfl, ?_⟩ | refine ⟨⟨_, rfl, rfl⟩, ?_⟩ | refine ⟨⟨rfl, rfl, trivial⟩, ?_⟩ | refine ⟨⟨rfl, rfl, rfl, trivial⟩, ?_⟩ | refine ⟨⟨rfl, rfl, rfl, rfl, trivial⟩, ?_⟩ | refine ⟨⟨rfl, rfl, rfl, rfl, rfl, trivial⟩, ?_⟩
  conv => whnf
  refine ⟨tmvs_sz L, ?_⟩
  repeat (conv => whnf); first | refine IndepAnd (by kernel_rfl) ?_ | refine TreeAnd (by kernel_rfl) ?_ | refine ⟨rfl, ?_⟩ | refine ⟨by decide, ?_⟩ | refine ⟨trivial, ?_⟩ | refine ⟨⟨rfl, trivial⟩, ?_⟩ | refine ⟨Nat.le_of_ble_eq_true rfl, ?_⟩ | refine ⟨⟨_, rfl, rfl⟩, ?_⟩ | refine ⟨⟨rfl, rfl, trivial⟩, ?_⟩ | refine ⟨⟨rfl, rfl, rfl, trivial⟩, ?_⟩ | refine ⟨⟨rfl, rfl, rfl, rfl, trivial⟩, ?_⟩ | refine ⟨⟨rfl, rfl, rfl, rfl, rfl, trivial⟩, ?_⟩
  conv => whnf
  refine ⟨len_app0 (l := L) (by omega), ?_⟩
  repeat (conv => whnf); first | refine IndepAnd (by kernel_rfl) ?_ | refine TreeAnd (by kernel_rfl) ?_ | refine ⟨rfl, ?_⟩ | refine ⟨by decide, ?_⟩ | refine ⟨trivial, ?_⟩ | refine ⟨⟨rfl, trivial⟩, ?_⟩ | refine ⟨Nat.le_of_ble_eq_true rfl, ?_⟩ | refine ⟨⟨_, rfl, rfl⟩, ?_⟩ | refine ⟨⟨rfl, rfl, trivial⟩, ?_⟩ | refine ⟨⟨rfl, rfl, rfl, trivial⟩, ?_⟩ | refine ⟨⟨rfl, rfl, rfl, rfl, trivial⟩, ?_⟩ | refine ⟨⟨rfl, rfl, rfl, rfl, rfl, trivial⟩, ?_⟩
  conv => whnf
  refine ⟨_, MCallVC.pr gKept hof ⟨LE.of rfl, trivial⟩ ⟨.inr (.inl rfl), trivial⟩ rfl, ?_⟩
  repeat (conv => whnf); first | refine IndepAnd (by kernel_rfl) ?_ | refine TreeAnd (by kernel_rfl) ?_ | refine ⟨rfl, ?_⟩ | refine ⟨by decide, ?_⟩ | refine ⟨trivial, ?_⟩ | refine ⟨⟨rfl, trivial⟩, ?_⟩ | refine ⟨Nat.le_of_ble_eq_true rfl, ?_⟩ | refine ⟨⟨_, rfl, rfl⟩, ?_⟩ | refine ⟨⟨rfl, rfl, trivial⟩, ?_⟩ | refine ⟨⟨rfl, rfl, rfl, trivial⟩, ?_⟩ | refine ⟨⟨rfl, rfl, rfl, rfl, trivial⟩, ?_⟩ | refine ⟨⟨rfl, rfl, rfl, rfl, rfl, trivial⟩, ?_⟩
  conv => whnf
  refine ⟨{ x : Nat × List Tm // x.1 ≤ L.length ∧ x.2.length = L.length }, fun x => Vc.S.of [(0, lv L), (1, lv gs), (4, .p (.bool false)), (5, .p (.bool true)), (6, .slc 16), (7, .ptr 1900 0), (8, iv (x.1.1 : Int))] [(16, .row 24 3 (tmvs x.1.2)), (1900, .var true 52 (.mix [.slc 1901, .slc 1902, .slc 1903])), (1901, .row 24 3 (tmvs k0.l)), (1902, .mp 50 true (isM k0.s)), (1903, .mp 50 true (mdM k0.d))], fun x => L.length - x.1.1, ⟨(0, L), Nat.zero_le _, rfl⟩, ?_, ?_⟩
  · refine Ge.of rfl ?_ ?_
    · repeat (conv => whnf); refine ⟨LE.of rfl, ?_⟩
      trivial
    · repeat (conv => whnf); refine ⟨OLE.of rfl, ?_⟩
      trivial
  rintro ⟨⟨i, N⟩, hi, hN⟩
  have hi : i ≤ L.length := hi
  have hN : N.length = L.length := hN
  repeat (conv => whnf); first | refine IndepAnd (by kernel_rfl) ?_ | refine TreeAnd (by kernel_rfl) ?_ | refine ⟨rfl, ?_⟩ | refine ⟨by decide, ?_⟩ | refine ⟨trivial, ?_⟩ | refine ⟨⟨rfl, trivial⟩, ?_⟩ | refine ⟨Nat.le_of_ble_eq_true rfl, ?_⟩ | refine ⟨⟨_, rfl, rfl⟩, ?_⟩ | refine ⟨⟨rfl, rfl, trivial⟩, ?_⟩ | refine ⟨⟨rfl, rfl, rfl, trivial⟩, ?_⟩ | refine ⟨⟨rfl, rfl, rfl, rfl, trivial⟩, ?_⟩ | refine ⟨⟨rfl, rfl, rfl, rfl, rfl, trivial⟩, ?_⟩
  conv => whnf
  refine @bool_rec _ _ _ ?_ ?_ <;> intro h1
  · have hlt : i < N.length := by have := of_decide_eq_true h1; rw [tmvs_length] at this; exact Int.ofNat_lt.1 this
    repeat (conv => whnf); first | refine IndepAnd (by kernel_rfl) ?_ | refine TreeAnd (by kernel_rfl) ?_ | refine ⟨rfl, ?_⟩ | refine ⟨by decide, ?_⟩ | refine ⟨trivial, ?_⟩ | refine ⟨⟨rfl, trivial⟩, ?_⟩ | refine ⟨Nat.le_of_ble_eq_true rfl, ?_⟩ | refine ⟨⟨_, rfl, rfl⟩, ?_⟩ | refine ⟨⟨rfl, rfl, trivial⟩, ?_⟩ | refine ⟨⟨rfl, rfl, rfl, trivial⟩, ?_⟩ | refine ⟨⟨rfl, rfl, rfl, rfl, trivial⟩, ?_⟩ | refine ⟨⟨rfl, rfl, rfl, rfl, rfl, trivial⟩, ?_⟩
    conv => whnf
    refine ⟨_, CallVC.pr (data_ok true [111, 116, 104, 101, 114]) rfl rfl, ?_⟩
    repeat (conv => whnf); first | refine IndepAnd (by kernel_rfl) ?_ | refine TreeAnd (by kernel_rfl) ?_ | refine ⟨rfl, ?_⟩ | refine ⟨by decide, ?_⟩ | refine ⟨trivial, ?_⟩ | refine ⟨⟨rfl, trivial⟩, ?_⟩ | refine ⟨Nat.le_of_ble_eq_true rfl, ?_⟩ | refine ⟨⟨_, rfl, rfl⟩, ?_⟩ | refine ⟨⟨rfl, rfl, trivial⟩, ?_⟩ | refine ⟨⟨rfl, rfl, rfl, trivial⟩, ?_⟩ | refine ⟨⟨rfl, rfl, rfl, rfl, trivial⟩, ?_⟩ | refine ⟨⟨rfl, rfl, rfl, rfl, rfl, trivial⟩, ?_⟩
    conv => whnf
    refine ⟨Int.natCast_nonneg _, by show i < (tmvs N).length; rw [tmvs_length]; exact hlt, ?_⟩
    repeat (conv => whnf); first | refine IndepAnd (by kernel_rfl) ?_ | refine TreeAnd (by kernel_rfl) ?_ | refine ⟨rfl, ?_⟩ | refine ⟨by decide, ?_⟩ | refine ⟨trivial, ?_⟩ | refine ⟨⟨rfl, trivial⟩, ?_⟩ | refine ⟨Nat.le_of_ble_eq_true rfl, ?_⟩ | refine ⟨⟨_, rfl, rfl⟩, ?_⟩ | refine ⟨⟨rfl, rfl, trivial⟩, ?_⟩ | refine ⟨⟨rfl, rfl, rfl, trivial⟩, ?_⟩ | refine ⟨⟨rfl, rfl, rfl, rfl, trivial⟩, ?_⟩ | refine ⟨⟨rfl, rfl, rfl, rfl, rfl, trivial⟩, ?_⟩
    conv => whnf
    refine ⟨by show i < (tmvs N).length; rw [tmvs_length]; exact hlt, ?_⟩
    repeat (conv => whnf); first | refine IndepAnd (by kernel_rfl) ?_ | refine TreeAnd (by kernel_rfl) ?_ | refine ⟨rfl, ?_⟩ | refine ⟨by decide, ?_⟩ | refine ⟨trivial, ?_⟩ | refine ⟨⟨rfl, trivial⟩, ?_⟩ | refine ⟨Nat.le_of_ble_eq_true rfl, ?_⟩ | refine ⟨⟨_, rfl, rfl⟩, ?_⟩ | refine ⟨⟨rfl, rfl, trivial⟩, ?_⟩ | refine ⟨⟨rfl, rfl, rfl, trivial⟩, ?_⟩ | refine ⟨⟨rfl, rfl, rfl, rfl, trivial⟩, ?_⟩ | refine ⟨⟨rfl, rfl, rfl, rfl, rfl, trivial⟩, ?_⟩
    conv => whnf
    refine ⟨_, wrapN (n := i + 1) rfl (by omega), ?_⟩
    repeat (conv => whnf); first | refine IndepAnd (by kernel_rfl) ?_ | refine TreeAnd (by kernel_rfl) ?_ | refine ⟨rfl, ?_⟩ | refine ⟨by decide, ?_⟩ | refine ⟨trivial, ?_⟩ | refine ⟨⟨rfl, trivial⟩, ?_⟩ | refine ⟨Nat.le_of_ble_eq_true rfl, ?_⟩ | refine ⟨⟨_, rfl, rfl⟩, ?_⟩ | refine ⟨⟨rfl, rfl, trivial⟩, ?_⟩ | refine ⟨⟨rfl, rfl, rfl, trivial⟩, ?_⟩ | refine ⟨⟨rfl, rfl, rfl, rfl, trivial⟩, ?_⟩ | refine ⟨⟨rfl, rfl, rfl, rfl, rfl, trivial⟩, ?_⟩
    conv => whnf
    refine ⟨⟨(i + 1, N.set i (dataT [111, 116, 104, 101, 114])), by show i + 1 ≤ L.length; omega, by show (N.set i _).length = _; rw [List.length_set]; exact hN⟩, ?_, by show L.length - (i + 1) < L.length - i; omega⟩
    refine Ge.of rfl ?_ ?_
    · repeat (conv => whnf); refine ⟨LE.of rfl, ?_⟩
      trivial
    · repeat (conv => whnf); first | refine ⟨OLE.of rfl, ?_⟩ | refine ⟨OLE.of (congrArg (AO.row 24 3) (tmvs_set N i (dataT [111, 116, 104, 101, 114]))), ?_⟩
      trivial
  repeat (conv => whnf); first | refine IndepAnd (by kernel_rfl) ?_ | refine TreeAnd (by kernel_rfl) ?_ | refine ⟨rfl, ?_⟩ | refine ⟨by decide, ?_⟩ | refine ⟨trivial, ?_⟩ | refine ⟨⟨rfl, trivial⟩, ?_⟩ | refine ⟨Nat.le_of_ble_eq_true rfl, ?_⟩ | refine ⟨⟨_, rfl, rfl⟩, ?_⟩ | refine ⟨⟨rfl, rfl, trivial⟩, ?_⟩ | refine ⟨⟨rfl, rfl, rfl, trivial⟩, ?_⟩ | refine ⟨⟨rfl, rfl, rfl, rfl, trivial⟩, ?_⟩ | refine ⟨⟨rfl, rfl, rfl, rfl, rfl, trivial⟩, ?_⟩
  conv => whnf
  refine ⟨{ x : Nat × List Tm // SomeI gs x.1 x.2 }, fun x => Vc.S.of [(0, lv L), (1, lv gs), (4, .p (.bool false)), (5, .p (.bool true)), (7, .ptr 1900 0), (9, .slc 9), (10, iv (x.1.1 : Int))] [(9, .row 24 3 (tmvs x.1.2)), (1900, .var true 52 (.mix [.slc 1901, .slc 1902, .slc 1903])), (1901, .row 24 3 (tmvs k0.l)), (1902, .mp 50 true (isM k0.s)), (1903, .mp 50 true (mdM k0.d))], fun x => gs.length - x.1.1, ⟨(0, []), Nat.zero_le _, by simp, by simp⟩, ?_, ?_⟩
  · refine Ge.of rfl ?_ ?_
    · repeat (conv => whnf); refine ⟨LE.of rfl, ?_⟩
      trivial
    · repeat (conv => whnf); refine ⟨OLE.of rfl, ?_⟩
      trivial
  rintro ⟨⟨i2, M⟩, hI⟩
  have hI : SomeI gs i2 M := hI
  obtain ⟨hi2, hn2, hm2⟩ := hI
  apply @cutP
  case h =>
    intro hB
    repeat (conv => whnf); first | refine IndepAnd (by kernel_rfl) ?_ | refine TreeAnd (by kernel_rfl) ?_ | refine ⟨rfl, ?_⟩ | refine ⟨by decide, ?_⟩ | refine ⟨trivial, ?_⟩ | refine ⟨⟨rfl, trivial⟩, ?_⟩ | refine ⟨Nat.le_of_ble_eq_true rfl, ?_⟩ | refine ⟨⟨_, rfl, rfl⟩, ?_⟩ | refine ⟨⟨rfl, rfl, trivial⟩, ?_⟩ | refine ⟨⟨rfl, rfl, rfl, trivial⟩, ?_⟩ | refine ⟨⟨rfl, rfl, rfl, rfl, trivial⟩, ?_⟩ | refine ⟨⟨rfl, rfl, rfl, rfl, rfl, trivial⟩, ?_⟩
    conv => whnf
    refine @bool_rec _ _ _ ?_ ?_ <;> intro h2
    · have hlt : i2 < gs.length := by have := of_decide_eq_true h2; rw [tmvs_length] at this; exact Int.ofNat_lt.1 this
      repeat (conv => whnf); first | refine IndepAnd (by kernel_rfl) ?_ | refine TreeAnd (by kernel_rfl) ?_ | refine ⟨rfl, ?_⟩ | refine ⟨by decide, ?_⟩ | refine ⟨trivial, ?_⟩ | refine ⟨⟨rfl, trivial⟩, ?_⟩ | refine ⟨Nat.le_of_ble_eq_true rfl, ?_⟩ | refine ⟨⟨_, rfl, rfl⟩, ?_⟩ | refine ⟨⟨rfl, rfl, trivial⟩, ?_⟩ | refine ⟨⟨rfl, rfl, rfl, trivial⟩, ?_⟩ | refine ⟨⟨rfl, rfl, rfl, rfl, trivial⟩, ?_⟩ | refine ⟨⟨rfl, rfl, rfl, rfl, rfl, trivial⟩, ?_⟩
      conv => whnf
      refine @bool_rec _ _ _ ?_ ?_ <;> intro h3
      · have h3 : M.length < 6 := by have := of_decide_eq_true h3; rw [tmvs_length] at this; have : (M.length : Int) < 6 := this; omega
        repeat (conv => whnf); first | refine IndepAnd (by kernel_rfl) ?_ | refine TreeAnd (by kernel_rfl) ?_ | refine ⟨rfl, ?_⟩ | refine ⟨by decide, ?_⟩ | refine ⟨trivial, ?_⟩ | refine ⟨⟨rfl, trivial⟩, ?_⟩ | refine ⟨Nat.le_of_ble_eq_true rfl, ?_⟩ | refine ⟨⟨_, rfl, rfl⟩, ?_⟩ | refine ⟨⟨rfl, rfl, trivial⟩, ?_⟩ | refine ⟨⟨rfl, rfl, rfl, trivial⟩, ?_⟩ | refine ⟨⟨rfl, rfl, rfl, rfl, trivial⟩, ?_⟩ | refine ⟨⟨rfl, rfl, rfl, rfl, rfl, trivial⟩, ?_⟩
        conv => whnf
        refine ⟨Int.natCast_nonneg _, TV gs[i2], tmvs_getN hlt, rfl, rfl, ?_⟩
        repeat (conv => whnf); first | refine IndepAnd (by kernel_rfl) ?_ | refine TreeAnd (by kernel_rfl) ?_ | refine ⟨rfl, ?_⟩ | refine ⟨by decide, ?_⟩ | refine ⟨trivial, ?_⟩ | refine ⟨⟨rfl, trivial⟩, ?_⟩ | refine ⟨Nat.le_of_ble_eq_true rfl, ?_⟩ | refine ⟨⟨_, rfl, rfl⟩, ?_⟩ | refine ⟨⟨rfl, rfl, trivial⟩, ?_⟩ | refine ⟨⟨rfl, rfl, rfl, trivial⟩, ?_⟩ | refine ⟨⟨rfl, rfl, rfl, rfl, trivial⟩, ?_⟩ | refine ⟨⟨rfl, rfl, rfl, rfl, rfl, trivial⟩, ?_⟩
        conv => whnf
        refine ⟨_, CallVC.pr (small8_ok true gs[i2] (gf _ (List.getElem_mem hlt))) rfl rfl, ?_⟩
        repeat (conv => whnf); first | refine IndepAnd (by kernel_rfl) ?_ | refine TreeAnd (by kernel_rfl) ?_ | refine ⟨rfl, ?_⟩ | refine ⟨by decide, ?_⟩ | refine ⟨trivial, ?_⟩ | refine ⟨⟨rfl, trivial⟩, ?_⟩ | refine ⟨Nat.le_of_ble_eq_true rfl, ?_⟩ | refine ⟨⟨_, rfl, rfl⟩, ?_⟩ | refine ⟨⟨rfl, rfl, trivial⟩, ?_⟩ | refine ⟨⟨rfl, rfl, rfl, trivial⟩, ?_⟩ | refine ⟨⟨rfl, rfl, rfl, rfl, trivial⟩, ?_⟩ | refine ⟨⟨rfl, rfl, rfl, rfl, rfl, trivial⟩, ?_⟩
        conv => whnf
        refine @bool_rec _ _ _ ?_ ?_ <;> intro h4
        · repeat (conv => whnf); first | refine IndepAnd (by kernel_rfl) ?_ | refine TreeAnd (by kernel_rfl) ?_ | refine ⟨rfl, ?_⟩ | refine ⟨by decide, ?_⟩ | refine ⟨trivial, ?_⟩ | refine ⟨⟨rfl, trivial⟩, ?_⟩ | refine ⟨Nat.le_of_ble_eq_true rfl, ?_⟩ | refine ⟨⟨_, rfl, rfl⟩, ?_⟩ | refine ⟨⟨rfl, rfl, trivial⟩, ?_⟩ | refine ⟨⟨rfl, rfl, rfl, trivial⟩, ?_⟩ | refine ⟨⟨rfl, rfl, rfl, rfl, trivial⟩, ?_⟩ | refine ⟨⟨rfl, rfl, rfl, rfl, rfl, trivial⟩, ?_⟩
          conv => whnf
          refine ⟨Int.natCast_nonneg _, TV gs[i2], tmvs_getN hlt, rfl, rfl, ?_⟩
          repeat (conv => whnf); first | refine IndepAnd (by kernel_rfl) ?_ | refine TreeAnd (by kernel_rfl) ?_ | refine ⟨rfl, ?_⟩ | refine ⟨by decide, ?_⟩ | refine ⟨trivial, ?_⟩ | refine ⟨⟨rfl, trivial⟩, ?_⟩ | refine ⟨Nat.le_of_ble_eq_true rfl, ?_⟩ | refine ⟨⟨_, rfl, rfl⟩, ?_⟩ | refine ⟨⟨rfl, rfl, trivial⟩, ?_⟩ | refine ⟨⟨rfl, rfl, rfl, trivial⟩, ?_⟩ | refine ⟨⟨rfl, rfl, rfl, rfl, trivial⟩, ?_⟩ | refine ⟨⟨rfl, rfl, rfl, rfl, rfl, trivial⟩, ?_⟩
          conv => whnf
          refine ⟨by show ((tmvs M).length + 1) * 48 ≤ _; rw [tmvs_length]; omega, ?_⟩
          repeat (conv => whnf); first | refine IndepAnd (by kernel_rfl) ?_ | refine TreeAnd (by kernel_rfl) ?_ | refine ⟨rfl, ?_⟩ | refine ⟨by decide, ?_⟩ | refine ⟨trivial, ?_⟩ | refine ⟨⟨rfl, trivial⟩, ?_⟩ | refine ⟨Nat.le_of_ble_eq_true rfl, ?_⟩ | refine ⟨⟨_, rfl, rfl⟩, ?_⟩ | refine ⟨⟨rfl, rfl, trivial⟩, ?_⟩ | refine ⟨⟨rfl, rfl, rfl, trivial⟩, ?_⟩ | refine ⟨⟨rfl, rfl, rfl, rfl, trivial⟩, ?_⟩ | refine ⟨⟨rfl, rfl, rfl, rfl, rfl, trivial⟩, ?_⟩
          conv => whnf
          refine ⟨_, wrapN (n := i2 + 1) rfl (by omega), ?_⟩
          repeat (conv => whnf); first | refine IndepAnd (by kernel_rfl) ?_ | refine TreeAnd (by kernel_rfl) ?_ | refine ⟨rfl, ?_⟩ | refine ⟨by decide, ?_⟩ | refine ⟨trivial, ?_⟩ | refine ⟨⟨rfl, trivial⟩, ?_⟩ | refine ⟨Nat.le_of_ble_eq_true rfl, ?_⟩ | refine ⟨⟨_, rfl, rfl⟩, ?_⟩ | refine ⟨⟨rfl, rfl, trivial⟩, ?_⟩ | refine ⟨⟨rfl, rfl, rfl, trivial⟩, ?_⟩ | refine ⟨⟨rfl, rfl, rfl, rfl, trivial⟩, ?_⟩ | refine ⟨⟨rfl, rfl, rfl, rfl, rfl, trivial⟩, ?_⟩
          conv => whnf
          refine ⟨⟨(i2 + 1, M ++ [gs[i2]]), hlt, by simp; omega, fun t ht => (List.mem_append.1 ht).elim (hm2 t) fun h => by rw [List.mem_singleton.1 h]; exact List.getElem_mem hlt⟩, ?_, by show gs.length - (i2 + 1) < gs.length - i2; omega⟩
          refine Ge.of rfl ?_ ?_
          · repeat (conv => whnf); refine ⟨LE.of rfl, ?_⟩
            trivial
          · repeat (conv => whnf); first | refine ⟨OLE.of rfl, ?_⟩ | refine ⟨OLE.of (congrArg (AO.row 24 3) (by show tmvs M ++ [TV gs[i2]] = tmvs (M ++ [gs[i2]]); rw [tmvs_append, tmvs1])), ?_⟩
            trivial
        · repeat (conv => whnf); first | refine IndepAnd (by kernel_rfl) ?_ | refine TreeAnd (by kernel_rfl) ?_ | refine ⟨rfl, ?_⟩ | refine ⟨by decide, ?_⟩ | refine ⟨trivial, ?_⟩ | refine ⟨⟨rfl, trivial⟩, ?_⟩ | refine ⟨Nat.le_of_ble_eq_true rfl, ?_⟩ | refine ⟨⟨_, rfl, rfl⟩, ?_⟩ | refine ⟨⟨rfl, rfl, trivial⟩, ?_⟩ | refine ⟨⟨rfl, rfl, rfl, trivial⟩, ?_⟩ | refine ⟨⟨rfl, rfl, rfl, rfl, trivial⟩, ?_⟩ | refine ⟨⟨rfl, rfl, rfl, rfl, rfl, trivial⟩, ?_⟩
          conv => whnf
          refine ⟨_, wrapN (n := i2 + 1) rfl (by omega), ?_⟩
          repeat (conv => whnf); first | refine IndepAnd (by kernel_rfl) ?_ | refine TreeAnd (by kernel_rfl) ?_ | refine ⟨rfl, ?_⟩ | refine ⟨by decide, ?_⟩ | refine ⟨trivial, ?_⟩ | refine ⟨⟨rfl, trivial⟩, ?_⟩ | refine ⟨Nat.le_of_ble_eq_true rfl, ?_⟩ | refine ⟨⟨_, rfl, rfl⟩, ?_⟩ | refine ⟨⟨rfl, rfl, trivial⟩, ?_⟩ | refine ⟨⟨rfl, rfl, rfl, trivial⟩, ?_⟩ | refine ⟨⟨rfl, rfl, rfl, rfl, trivial⟩, ?_⟩ | refine ⟨⟨rfl, rfl, rfl, rfl, rfl, trivial⟩, ?_⟩
          conv => whnf
          refine ⟨⟨(i2 + 1, M), hlt, hn2, hm2⟩, ?_, by show gs.length - (i2 + 1) < gs.length - i2; omega⟩
          refine Ge.of rfl ?_ ?_
          · repeat (conv => whnf); refine ⟨LE.of rfl, ?_⟩
            trivial
          · repeat (conv => whnf); refine ⟨OLE.of rfl, ?_⟩
            trivial
      · repeat (conv => whnf); first | refine IndepAnd (by kernel_rfl) ?_ | refine TreeAnd (by kernel_rfl) ?_ | refine ⟨rfl, ?_⟩ | refine ⟨by decide, ?_⟩ | refine ⟨trivial, ?_⟩ | refine ⟨⟨rfl, trivial⟩, ?_⟩ | refine ⟨Nat.le_of_ble_eq_true rfl, ?_⟩ | refine ⟨⟨_, rfl, rfl⟩, ?_⟩ | refine ⟨⟨rfl, rfl, trivial⟩, ?_⟩ | refine ⟨⟨rfl, rfl, rfl, trivial⟩, ?_⟩ | refine ⟨⟨rfl, rfl, rfl, rfl, trivial⟩, ?_⟩ | refine ⟨⟨rfl, rfl, rfl, rfl, rfl, trivial⟩, ?_⟩
        conv => whnf
        refine ⟨{ x : Nat × List (Bs × Bool) // x.1 ≤ M.length ∧ DOk k0.s x.2 }, fun x => Vc.S.of [(0, lv L), (4, .p (.bool false)), (5, .p (.bool true)), (7, .ptr 1900 0), (9, lv M), (11, iv (x.1.1 : Int))] [(1900, .var true 52 (.mix [.slc 1901, .slc 1902, .slc 1903])), (1901, .row 24 3 (tmvs k0.l)), (1902, .mp 50 true (isM k0.s)), (1903, .mp 50 true (mdM x.1.2))], fun x => M.length - x.1.1, ⟨(0, k0.d), Nat.zero_le _, d0⟩, ?_, hB.un⟩
        refine Ge.of rfl ?_ ?_
        · repeat (conv => whnf); refine ⟨LE.of rfl, ?_⟩
          trivial
        · repeat (conv => whnf); refine ⟨OLE.of rfl, ?_⟩
          trivial
    · repeat (conv => whnf); first | refine IndepAnd (by kernel_rfl) ?_ | refine TreeAnd (by kernel_rfl) ?_ | refine ⟨rfl, ?_⟩ | refine ⟨by decide, ?_⟩ | refine ⟨trivial, ?_⟩ | refine ⟨⟨rfl, trivial⟩, ?_⟩ | refine ⟨Nat.le_of_ble_eq_true rfl, ?_⟩ | refine ⟨⟨_, rfl, rfl⟩, ?_⟩ | refine ⟨⟨rfl, rfl, trivial⟩, ?_⟩ | refine ⟨⟨rfl, rfl, rfl, trivial⟩, ?_⟩ | refine ⟨⟨rfl, rfl, rfl, rfl, trivial⟩, ?_⟩ | refine ⟨⟨rfl, rfl, rfl, rfl, rfl, trivial⟩, ?_⟩
      conv => whnf
      refine ⟨{ x : Nat × List (Bs × Bool) // x.1 ≤ M.length ∧ DOk k0.s x.2 }, fun x => Vc.S.of [(0, lv L), (4, .p (.bool false)), (5, .p (.bool true)), (7, .ptr 1900 0), (9, lv M), (11, iv (x.1.1 : Int))] [(1900, .var true 52 (.mix [.slc 1901, .slc 1902, .slc 1903])), (1901, .row 24 3 (tmvs k0.l)), (1902, .mp 50 true (isM k0.s)), (1903, .mp 50 true (mdM x.1.2))], fun x => M.length - x.1.1, ⟨(0, k0.d), Nat.zero_le _, d0⟩, ?_, hB.un⟩
      refine Ge.of rfl ?_ ?_
      · repeat (conv => whnf); refine ⟨LE.of rfl, ?_⟩
        trivial
      · repeat (conv => whnf); refine ⟨OLE.of rfl, ?_⟩
        trivial
  case p =>
    rintro ⟨⟨i, D⟩, hi, hD⟩
    have hi : i ≤ M.length := hi
    have hD : DOk k0.s D := hD
    repeat (conv => whnf); first | refine IndepAnd (by kernel_rfl) ?_ | refine TreeAnd (by kernel_rfl) ?_ | refine ⟨rfl, ?_⟩ | refine ⟨by decide, ?_⟩ | refine ⟨trivial, ?_⟩ | refine ⟨⟨rfl, trivial⟩, ?_⟩ | refine ⟨Nat.le_of_ble_eq_true rfl, ?_⟩ | refine ⟨⟨_, rfl, rfl⟩, ?_⟩ | refine ⟨⟨rfl, rfl, trivial⟩, ?_⟩ | refine ⟨⟨rfl, rfl, rfl, trivial⟩, ?_⟩ | refine ⟨⟨rfl, rfl, rfl, rfl, trivial⟩, ?_⟩ | refine ⟨⟨rfl, rfl, rfl, rfl, rfl, trivial⟩, ?_⟩
    conv => whnf
    refine @bool_rec _ _ _ ?_ ?_ <;> intro h5
    · have hlt : i < M.length := by have := of_decide_eq_true h5; rw [tmvs_length] at this; exact Int.ofNat_lt.1 this
      have tin := hm2 _ (List.getElem_mem hlt)
      have ft := gf _ tin
      have wt1 := hwg _ tin
      obtain ⟨D', hD', hmk⟩ := Makes_ok k0.l k0.s M[i] ft wt1 D hD
      rw [hk0] at hmk
      have hmd := madeL_ok (t := M[i]) hF ft wt1
      have hnn : (0 : Int) ≤ (i : Int) := Int.natCast_nonneg _
      have hget : (tmvs M)[(i : Int).toNat]? = some (TV M[i]) := tmvs_getN hlt
      obtain ⟨v, hv⟩ : ∃ v, mdT L M[i] = v := ⟨_, rfl⟩
      rw [hv] at hmk hmd
      repeat' ((conv => whnf); first | refine AltAnd ?_ ?_ | refine ⟨_, MCallVC.pr (gT [(2000, 1900), (2001, 1901), (2002, 1902), (2003, 1903)]) hmk ⟨LE.of rfl, LE.of rfl, trivial⟩ ⟨.inr (.inl rfl), .inr (.inl rfl), .inr (.inl rfl), .inr (.inl rfl), trivial⟩ rfl, ?_⟩ | refine ⟨hnn, TV M[i], hget, rfl, rfl, ?_⟩ | refine ⟨_, CallVC.pr hmd rfl rfl, ?_⟩ | refine IndepAnd (by kernel_rfl) ?_ | refine TreeAnd (by kernel_rfl) ?_ | refine ⟨rfl, ?_⟩ | refine ⟨by decide, ?_⟩ | refine ⟨trivial, ?_⟩ | refine ⟨⟨rfl, trivial⟩, ?_⟩ | refine ⟨Nat.le_of_ble_eq_true rfl, ?_⟩ | refine ⟨⟨_, rfl, rfl⟩, ?_⟩ | refine ⟨⟨rfl, rfl, trivial⟩, ?_⟩ | refine ⟨⟨rfl, rfl, rfl, trivial⟩, ?_⟩ | refine ⟨⟨rfl, rfl, rfl, rfl, trivial⟩, ?_⟩ | refine ⟨⟨rfl, rfl, rfl, rfl, rfl, trivial⟩, ?_⟩ | fail)
      all_goals (conv => whnf)
      all_goals
        refine @bool_rec _ _ _ ?_ ?_ <;> intro hb
        · exact absurd hb (by cases v <;> decide)
        repeat (conv => whnf); first | refine IndepAnd (by kernel_rfl) ?_ | refine TreeAnd (by kernel_rfl) ?_ | refine ⟨rfl, ?_⟩ | refine ⟨by decide, ?_⟩ | refine ⟨trivial, ?_⟩ | refine ⟨⟨rfl, trivial⟩, ?_⟩ | refine ⟨Nat.le_of_ble_eq_true rfl, ?_⟩ | refine ⟨⟨_, rfl, rfl⟩, ?_⟩ | refine ⟨⟨rfl, rfl, trivial⟩, ?_⟩ | refine ⟨⟨rfl, rfl, rfl, trivial⟩, ?_⟩ | refine ⟨⟨rfl, rfl, rfl, rfl, trivial⟩, ?_⟩ | refine ⟨⟨rfl, rfl, rfl, rfl, rfl, trivial⟩, ?_⟩
        conv => whnf
        refine ⟨_, wrapN (n := i + 1) rfl (by omega), ?_⟩
        repeat (conv => whnf); first | refine IndepAnd (by kernel_rfl) ?_ | refine TreeAnd (by kernel_rfl) ?_ | refine ⟨rfl, ?_⟩ | refine ⟨by decide, ?_⟩ | refine ⟨trivial, ?_⟩ | refine ⟨⟨rfl, trivial⟩, ?_⟩ | refine ⟨Nat.le_of_ble_eq_true rfl, ?_⟩ | refine ⟨⟨_, rfl, rfl⟩, ?_⟩ | refine ⟨⟨rfl, rfl, trivial⟩, ?_⟩ | refine ⟨⟨rfl, rfl, rfl, trivial⟩, ?_⟩ | refine ⟨⟨rfl, rfl, rfl, rfl, trivial⟩, ?_⟩ | refine ⟨⟨rfl, rfl, rfl, rfl, rfl, trivial⟩, ?_⟩
        conv => whnf
        refine ⟨⟨(i + 1, D'), hlt, hD'⟩, ?_, by show M.length - (i + 1) < M.length - i; omega⟩
        refine Ge.of rfl ?_ ?_
        · repeat (conv => whnf); refine ⟨LE.of rfl, ?_⟩
          trivial
        · repeat (conv => whnf); refine ⟨OLE.of rfl, ?_⟩
          trivial
    repeat (conv => whnf); first | refine IndepAnd (by kernel_rfl) ?_ | refine TreeAnd (by kernel_rfl) ?_ | refine ⟨rfl, ?_⟩ | refine ⟨by decide, ?_⟩ | refine ⟨trivial, ?_⟩ | refine ⟨⟨rfl, trivial⟩, ?_⟩ | refine ⟨Nat.le_of_ble_eq_true rfl, ?_⟩ | refine ⟨⟨_, rfl, rfl⟩, ?_⟩ | refine ⟨⟨rfl, rfl, trivial⟩, ?_⟩ | refine ⟨⟨rfl, rfl, rfl, trivial⟩, ?_⟩ | refine ⟨⟨rfl, rfl, rfl, rfl, trivial⟩, ?_⟩ | refine ⟨⟨rfl, rfl, rfl, rfl, rfl, trivial⟩, ?_⟩
    conv => whnf
    refine ⟨((M.length : Nat) : Int) - 1, by rw [tmvs_length]; exact wrap64 (by omega) (by omega), ?_⟩
    repeat (conv => whnf); first | refine IndepAnd (by kernel_rfl) ?_ | refine TreeAnd (by kernel_rfl) ?_ | refine ⟨rfl, ?_⟩ | refine ⟨by decide, ?_⟩ | refine ⟨trivial, ?_⟩ | refine ⟨⟨rfl, trivial⟩, ?_⟩ | refine ⟨Nat.le_of_ble_eq_true rfl, ?_⟩ | refine ⟨⟨_, rfl, rfl⟩, ?_⟩ | refine ⟨⟨rfl, rfl, trivial⟩, ?_⟩ | refine ⟨⟨rfl, rfl, rfl, trivial⟩, ?_⟩ | refine ⟨⟨rfl, rfl, rfl, rfl, trivial⟩, ?_⟩ | refine ⟨⟨rfl, rfl, rfl, rfl, rfl, trivial⟩, ?_⟩
    conv => whnf
    refine ⟨{ x : Nat × List (Bs × Bool) // x.1 ≤ M.length ∧ DOk k0.s x.2 }, fun x => Vc.S.of [(0, lv L), (4, .p (.bool false)), (5, .p (.bool true)), (7, .ptr 1900 0), (9, lv M), (12, iv ((x.1.1 : Int) - 1))] [(1900, .var true 52 (.mix [.slc 1901, .slc 1902, .slc 1903])), (1901, .row 24 3 (tmvs k0.l)), (1902, .mp 50 true (isM k0.s)), (1903, .mp 50 true (mdM x.1.2))], fun x => x.1.1, ⟨(M.length, D), Nat.le_refl _, hD⟩, ?_, ?_⟩
    · refine Ge.of rfl ?_ ?_
      · repeat (conv => whnf); refine ⟨LE.of rfl, ?_⟩
        trivial
      · repeat (conv => whnf); refine ⟨OLE.of rfl, ?_⟩
        trivial
    rintro ⟨⟨j, D2⟩, hj, hD2⟩
    have hj : j ≤ M.length := hj
    have hD2 : DOk k0.s D2 := hD2
    repeat (conv => whnf); first | refine IndepAnd (by kernel_rfl) ?_ | refine TreeAnd (by kernel_rfl) ?_ | refine ⟨rfl, ?_⟩ | refine ⟨by decide, ?_⟩ | refine ⟨trivial, ?_⟩ | refine ⟨⟨rfl, trivial⟩, ?_⟩ | refine ⟨Nat.le_of_ble_eq_true rfl, ?_⟩ | refine ⟨⟨_, rfl, rfl⟩, ?_⟩ | refine ⟨⟨rfl, rfl, trivial⟩, ?_⟩ | refine ⟨⟨rfl, rfl, rfl, trivial⟩, ?_⟩ | refine ⟨⟨rfl, rfl, rfl, rfl, trivial⟩, ?_⟩ | refine ⟨⟨rfl, rfl, rfl, rfl, rfl, trivial⟩, ?_⟩
    conv => whnf
    refine @bool_rec _ _ _ ?_ ?_ <;> intro h6
    · have hj0 : 0 < j := by have h6 := of_decide_eq_true h6; have h6 : (0 : Int) ≤ (j : Int) - 1 := h6; omega
      have hlt : j - 1 < M.length := by omega
      have tin := hm2 _ (List.getElem_mem hlt)
      have ft := gf _ tin
      have wt1 := hwg _ tin
      obtain ⟨D', hD', hmk⟩ := Makes_ok k0.l k0.s M[j - 1] ft wt1 D2 hD2
      rw [hk0] at hmk
      have hmd := madeL_ok (t := M[j - 1]) hF ft wt1
      have hnn : (0 : Int) ≤ (j : Int) - 1 := by omega
      have hget : (tmvs M)[((j : Int) - 1).toNat]? = some (TV M[j - 1]) := by rw [show ((j : Int) - 1).toNat = j - 1 by omega]; exact tmvs_get hlt
      obtain ⟨v, hv⟩ : ∃ v, mdT L M[j - 1] = v := ⟨_, rfl⟩
      rw [hv] at hmk hmd
      repeat' ((conv => whnf); first | refine AltAnd ?_ ?_ | refine ⟨_, MCallVC.pr (gT [(2000, 1900), (2001, 1901), (2002, 1902), (2003, 1903)]) hmk ⟨LE.of rfl, LE.of rfl, trivial⟩ ⟨.inr (.inl rfl), .inr (.inl rfl), .inr (.inl rfl), .inr (.inl rfl), trivial⟩ rfl, ?_⟩ | refine ⟨hnn, TV M[j - 1], hget, rfl, rfl, ?_⟩ | refine ⟨_, CallVC.pr hmd rfl rfl, ?_⟩ | refine IndepAnd (by kernel_rfl) ?_ | refine TreeAnd (by kernel_rfl) ?_ | refine ⟨rfl, ?_⟩ | refine ⟨by decide, ?_⟩ | refine ⟨trivial, ?_⟩ | refine ⟨⟨rfl, trivial⟩, ?_⟩ | refine ⟨Nat.le_of_ble_eq_true rfl, ?_⟩ | refine ⟨⟨_, rfl, rfl⟩, ?_⟩ | refine ⟨⟨rfl, rfl, trivial⟩, ?_⟩ | refine ⟨⟨rfl, rfl, rfl, trivial⟩, ?_⟩ | refine ⟨⟨rfl, rfl, rfl, rfl, trivial⟩, ?_⟩ | refine ⟨⟨rfl, rfl, rfl, rfl, rfl, trivial⟩, ?_⟩ | fail)
      all_goals (conv => whnf)
      all_goals
        refine @bool_rec _ _ _ ?_ ?_ <;> intro hb
        · exact absurd hb (by cases v <;> decide)
        repeat (conv => whnf); first | refine IndepAnd (by kernel_rfl) ?_ | refine TreeAnd (by kernel_rfl) ?_ | refine ⟨rfl, ?_⟩ | refine ⟨by decide, ?_⟩ | refine ⟨trivial, ?_⟩ | refine ⟨⟨rfl, trivial⟩, ?_⟩ | refine ⟨Nat.le_of_ble_eq_true rfl, ?_⟩ | refine ⟨⟨_, rfl, rfl⟩, ?_⟩ | refine ⟨⟨rfl, rfl, trivial⟩, ?_⟩ | refine ⟨⟨rfl, rfl, rfl, trivial⟩, ?_⟩ | refine ⟨⟨rfl, rfl, rfl, rfl, trivial⟩, ?_⟩ | refine ⟨⟨rfl, rfl, rfl, rfl, rfl, trivial⟩, ?_⟩
        conv => whnf
        refine ⟨((j - 1 : Nat) : Int) - 1, by rw [show (j : Int) - 1 - 1 = ((j - 1 : Nat) : Int) - 1 by omega]; exact wrap64 (by omega) (by omega), ?_⟩
        repeat (conv => whnf); first | refine IndepAnd (by kernel_rfl) ?_ | refine TreeAnd (by kernel_rfl) ?_ | refine ⟨rfl, ?_⟩ | refine ⟨by decide, ?_⟩ | refine ⟨trivial, ?_⟩ | refine ⟨⟨rfl, trivial⟩, ?_⟩ | refine ⟨Nat.le_of_ble_eq_true rfl, ?_⟩ | refine ⟨⟨_, rfl, rfl⟩, ?_⟩ | refine ⟨⟨rfl, rfl, trivial⟩, ?_⟩ | refine ⟨⟨rfl, rfl, rfl, trivial⟩, ?_⟩ | refine ⟨⟨rfl, rfl, rfl, rfl, trivial⟩, ?_⟩ | refine ⟨⟨rfl, rfl, rfl, rfl, rfl, trivial⟩, ?_⟩
        conv => whnf
        refine ⟨⟨(j - 1, D'), by show j - 1 ≤ M.length; omega, hD'⟩, ?_, by show j - 1 < j; omega⟩
        refine Ge.of rfl ?_ ?_
        · repeat (conv => whnf); refine ⟨LE.of rfl, ?_⟩
          trivial
        · repeat (conv => whnf); refine ⟨OLE.of rfl, ?_⟩
          trivial
    repeat (conv => whnf); first | refine IndepAnd (by kernel_rfl) ?_ | refine TreeAnd (by kernel_rfl) ?_ | refine ⟨rfl, ?_⟩ | refine ⟨by decide, ?_⟩ | refine ⟨trivial, ?_⟩ | refine ⟨⟨rfl, trivial⟩, ?_⟩ | refine ⟨Nat.le_of_ble_eq_true rfl, ?_⟩ | refine ⟨⟨_, rfl, rfl⟩, ?_⟩ | refine ⟨⟨rfl, rfl, trivial⟩, ?_⟩ | refine ⟨⟨rfl, rfl, rfl, trivial⟩, ?_⟩ | refine ⟨⟨rfl, rfl, rfl, rfl, trivial⟩, ?_⟩ | refine ⟨⟨rfl, rfl, rfl, rfl, rfl, trivial⟩, ?_⟩
    conv => whnf
    exact LEP.refl _
end Go.Sl
