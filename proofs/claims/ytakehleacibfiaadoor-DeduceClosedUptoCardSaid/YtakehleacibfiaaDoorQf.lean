/- DeduceWithin: nobody takes out what was not put in. -/
import Derived.Test.YtakehleacibfiaaDoorQe
set_option linter.unusedVariables false
set_option linter.unusedSimpArgs false
namespace Go.Sl
open Go Go.Vc Go.Proofs Go.RowKit

theorem addT_pre (k : Kn) (t : Tm) : ∃ r, (addT k t).l = k.l ++ r := by
  unfold addT
  split
  · exact ⟨[], by simp⟩
  · exact ⟨_, rfl⟩
theorem adds_pre : ∀ (m : List Tm) (k : Kn), ∃ r, (m.foldl addT k).l = k.l ++ r
  | [], k => ⟨[], by simp⟩
  | t :: m, k => by
    obtain ⟨r1, h1⟩ := addT_pre k t
    obtain ⟨r2, h2⟩ := adds_pre m (addT k t)
    exact ⟨r1 ++ r2, by rw [List.foldl_cons, h2, h1, List.append_assoc]⟩
theorem it_pre (k : Kn) : ∀ j, ∃ r, (itK k j).l = k.l ++ r
  | 0 => ⟨[], by simp [itK]⟩
  | j + 1 => by
    obtain ⟨r1, h1⟩ := it_pre k j
    obtain ⟨r2, h2⟩ := adds_pre (moreT (itK k j).s (itK k j).l) ⟨(itK k j).l, (itK k j).s, dIn (itK k j).l (itK k j).s (itK k j).l (itK k j).d⟩
    refine ⟨r1 ++ r2, ?_⟩
    show (stepK (itK k j)).l = _
    rw [show (stepK (itK k j)).l = (itK k j).l ++ r2 from h2, h1, List.append_assoc]
theorem an_pre {l : List Tm} (h : Frm l) : ∃ r, anT l = (ofT l).l ++ r := by
  obtain ⟨m, hm, _⟩ := h.end.k.2
  obtain ⟨r, hr⟩ := it_pre (ofT l) (m + 1)
  exact ⟨r, by rw [← hr, ← hm]⟩
theorem of_wk2 {l : List Tm} (hf : ∀ t ∈ l, Fit t) (hw : ∀ t ∈ l, wt t ≤ 1000000000) : WK (inTs (ofT l).l) (ofT l) :=
  { of_wk hf hw with sub := fun t ht => inTs_mem ht (inT_self t) }
theorem inTs_kid {l : List Tm} : ∀ t ∈ inTs l, ∀ u ∈ t.kids, u ∈ inTs l := fun t ht u hu => by
  obtain ⟨w, hw, ht⟩ := inTs_of ht
  exact inTs_mem hw (inT_kid ht hu)
theorem an_sub {l : List Tm} (h : Frm l) : ∀ t ∈ anT l, t ∈ inTs (ofT l).l := by
  obtain ⟨m, hm, _⟩ := h.end.k.2
  rw [show anT l = (itK (ofT l) (m + 1)).l by rw [← hm]]
  exact (itK_wk inTs_kid (of_wk2 h.fit h.wt) (m + 1)).sub
theorem mem_ins {acc : List Tm} {x y : Tm} : y ∈ insT acc x ↔ y ∈ acc ∨ y = x := by
  refine ⟨mem_insT, fun h => ?_⟩
  unfold insT
  split
  · rename_i ha
    rcases h with h | rfl
    · exact h
    · rw [List.any_eq_true] at ha
      obtain ⟨z, hz, e⟩ := ha
      rw [of_decide_eq_true e]; exact hz
  · rcases h with h | rfl
    · exact List.mem_append_left _ h
    · exact List.mem_append_right _ (List.mem_singleton.2 rfl)
theorem mem_insL : ∀ (m acc : List Tm) (y : Tm), y ∈ m.foldl insT acc ↔ y ∈ acc ∨ y ∈ m
  | [], acc, y => by simp
  | x :: m, acc, y => by rw [List.foldl_cons, mem_insL m, mem_ins, List.mem_cons, or_assoc]
theorem mem_subT : ∀ t : Tm, ∀ u, u ∈ subT t ↔ u ∈ inT t := by
  intro t
  induction t using Tm.indk with
  | h t ih =>
  have key : ∀ l : List Tm, (∀ v ∈ l, ∀ u, u ∈ subT v ↔ u ∈ inT v) → ∀ acc u, u ∈ subTs acc l ↔ u ∈ acc ∨ u ∈ inTs l := by
    intro l
    induction l with
    | nil => intro _ acc u; simp [subTs, inTs]
    | cons v l ihl =>
      intro h acc u
      simp only [subTs, inTs, List.mem_append]
      rw [ihl (fun w hw => h w (List.mem_cons_of_mem _ hw)), mem_insL, h v (List.mem_cons_self ..), or_assoc]
  intro u
  rw [subT_eq, key t.kids ih, inT_eq]
  simp
/-- All within the right ones. -/
def allS (l : List Tm) : List Tm := l.flatMap fun v => if rightT (canT v) = true then subT (canT v) else []
theorem can_right_iff (v : Tm) : rightT (canT v) = true ↔ txtT (canT v) ≠ [] := ⟨fun h => (gd_right h).1, fun h => right_gd ⟨h, can_can v⟩⟩
theorem allS_take {l : List Tm} {i : Nat} (h : i < l.length) : allS (l.take (i + 1)) = allS (l.take i) ++ (if rightT (canT l[i]) = true then subT (canT l[i]) else []) := by
  rw [List.take_succ_eq_append_getElem h, allS, List.flatMap_append]
  show allS (l.take i) ++ ((if rightT (canT l[i]) = true then subT (canT l[i]) else []) ++ []) = _
  rw [List.append_nil]
theorem allS_len : ∀ l : List Tm, (allS l).length ≤ Tm.sizes l
  | [] => by simp [allS]
  | v :: l => by
    have h1 := allS_len l
    have h2 := sub_len (canT v)
    have h3 := can_size v
    have e : allS (v :: l) = (if rightT (canT v) = true then subT (canT v) else []) ++ allS l := by simp [allS]
    rw [e, List.length_append, Tm.sizes]
    split
    · omega
    · simp; omega
theorem first_mem {l : List Tm} {t : Tm} : t ∈ (ofT l).l ↔ ∃ v ∈ l, rightT (canT v) = true ∧ canT v = t := by
  rw [ofT_in]
  constructor
  · rintro ⟨⟨v, hv, rfl⟩, hg⟩
    exact ⟨v, hv, right_gd hg, rfl⟩
  · rintro ⟨v, hv, hr, rfl⟩
    exact ⟨⟨v, hv, rfl⟩, gd_right hr⟩
theorem an_all {l : List Tm} (h : Frm l) : ∀ t ∈ anT l, t ∈ allS l := fun t ht => by
  obtain ⟨w, hw, ht⟩ := inTs_of (an_sub h t ht)
  obtain ⟨v, hv, hr, rfl⟩ := first_mem.1 hw
  exact List.mem_flatMap.2 ⟨v, hv, by rw [if_pos hr]; exact (mem_subT _ _).2 ht⟩
theorem first_take {l : List Tm} {i : Nat} (h : i < l.length) : (ofT (l.take (i + 1))).l = if rightT (canT l[i]) = true then (if canT l[i] ∈ (ofT (l.take i)).l then (ofT (l.take i)).l else (ofT (l.take i)).l ++ [canT l[i]]) else (ofT (l.take i)).l := by
  rw [ofT_take h]
  have hs := (Sd.of (l.take i)).s
  unfold addT
  by_cases hr : rightT (canT l[i]) = true
  · have hn := (can_right_iff _).1 hr
    rw [if_pos hr]
    have hm := mem_txt (l := (ofT (l.take i)).l) (fun u hu => ((ofT_in.1 hu).2).1) hn
    rw [hs]
    by_cases hc : canT l[i] ∈ (ofT (l.take i)).l
    · rw [if_pos (.inr (hm.2 hc)), if_pos hc]
    · rw [if_neg (fun h => h.elim hn fun h => hc (hm.1 h)), if_neg hc]
  · have hn : txtT (canT l[i]) = [] := Classical.byContradiction fun h => hr ((can_right_iff _).2 h)
    rw [if_neg hr, if_pos (.inl hn)]
theorem first_len (l : List Tm) : (ofT l).l.length ≤ l.length := by have := foldl_add_len l ⟨[], [], []⟩; simpa [ofT] using this
theorem size_mem' {l : List Tm} {u : Tm} (h : u ∈ l) : u.size ≤ Tm.sizes l := Tm.size_mem h
theorem dwithin_ok (l : List Tm) (hf : ∀ t ∈ l, Fit t) (hl : l.length ≤ 9223372036854775807) (hw : wts l ≤ 1048576) : K true 13 [lv l] (.pv (.bool true)) := by
  obtain ⟨L, eL⟩ : ∃ L, L = few8 l := ⟨_, rfl⟩
  have hF : Frm L := by rw [eL]; exact frm_few0 hf (by omega)
  have hfew : K true 15 [lv l] (.pv (.lst (tmvs L))) := by rw [eL]; exact few8_ok l hf hl
  have hLl : L.length ≤ 8 := by rw [eL]; exact few_len8 l
  have hLz : Tm.sizes L ≤ 160 := by rw [eL]; exact few_sizes8 l
  have an := analyze_ok hF
  obtain ⟨N, eN⟩ : ∃ N, N = anT L := ⟨_, rfl⟩
  rw [← eN] at an
  have nl : N.length ≤ 2000 := by rw [eN]; have h1 := hF.wk.len; rw [univ_len] at h1; exact Nat.le_trans h1 hF.sz
  have nin : ∀ t ∈ N, t ∈ allS L := by rw [eN]; exact an_all hF
  obtain ⟨r, hr⟩ := an_pre hF
  rw [← eN] at hr
  have fC : ∀ i (hi : i < L.length), Fit (canT L[i]) ∧ wt (canT L[i]) ≤ 1000000000 := fun i hi => ⟨can_fit _ (hF.fit _ (List.getElem_mem hi)), by rw [can_wt]; exact hF.wt _ (List.getElem_mem hi)⟩
  have fF : ∀ i, ∀ t ∈ (ofT (L.take i)).l, Fit t := fun i t ht => by
    obtain ⟨v, hv, _, rfl⟩ := first_mem.1 ht
    exact can_fit _ (hF.fit v (List.mem_of_mem_take hv))
  have fS : ∀ t ∈ allS L, Fit t := fun t ht => by
    obtain ⟨v, hv, ht⟩ := List.mem_flatMap.1 ht
    split at ht
    · exact (can_fit _ (hF.fit v hv)).inT t ((mem_subT _ _).1 ht)
    · cases ht
  have al : ∀ i, (allS (L.take i)).length ≤ 160 := fun i => by
    have h1 := allS_len (L.take i)
    have h2 := sizes_take_le L i
    omega
  have ol : ∀ i, (ofT (L.take i)).l.length ≤ 8 := fun i => by
    have h1 := first_len (L.take i)
    have h2 : (L.take i).length ≤ L.length := by rw [List.length_take]; omega
    omega
  refine PC_of_vc (cx_ok true) (mixed true) { own := fun q => Nat.beq q 5 || Nat.beq q 6 || Nat.beq q 36 || Nat.beq q 40, kp := kpT [(13, [0, 2, 3, 4, 5, 6, 7, 8], [5, 6, 8])] } Tryd.func13 (by kernel_rfl) rfl rfl (by kernel_rfl) ?_
  repeat (conv => whnf); first | refine IndepAnd (by kernel_rfl) ?_ | refine TreeAnd (by kernel_rfl) ?_ | refine ⟨rfl, ?_⟩ | refine ⟨by decide, ?_⟩ | refine ⟨trivial, ?_⟩ | refine ⟨⟨rfl, trivial⟩, ?_⟩ | refine ⟨Nat.le_of_ble_eq_true rfl, ?_⟩ | refine ⟨⟨_, rfl, rfl⟩, ?_⟩ | refine ⟨⟨rfl, rfl, trivial⟩, ?_⟩ | refine ⟨⟨rfl, rfl, rfl, trivial⟩, ?_⟩ | refine ⟨⟨rfl, rfl, rfl, rfl, trivial⟩, ?_⟩ | refine ⟨⟨rfl, rfl, rfl, rfl, rfl, trivial⟩, ?_⟩
  conv => whnf
  refine ⟨_, CallVC.pr shown8_ok rfl rfl, ?_⟩
  repeat (conv => whnf); first | refine IndepAnd (by kernel_rfl) ?_ | refine TreeAnd (by kernel_rfl) ?_ | refine ⟨rfl, ?_⟩ | refine ⟨by decide, ?_⟩ | refine ⟨trivial, ?_⟩ | refine ⟨⟨rfl, trivial⟩, ?_⟩ | refine ⟨Nat.le_of_ble_eq_true rfl, ?_⟩ | refine ⟨⟨_, rfl, rfl⟩, ?_⟩ | refine ⟨⟨rfl, rfl, trivial⟩, ?_⟩ | refine ⟨⟨rfl, rfl, rfl, trivial⟩, ?_⟩ | refine ⟨⟨rfl, rfl, rfl, rfl, trivial⟩, ?_⟩ | refine ⟨⟨rfl, rfl, rfl, rfl, rfl, trivial⟩, ?_⟩
  conv => whnf
  refine ⟨_, CallVC.pr hfew rfl rfl, ?_⟩
  repeat (conv => whnf); first | refine IndepAnd (by kernel_rfl) ?_ | refine TreeAnd (by kernel_rfl) ?_ | refine ⟨rfl, ?_⟩ | refine ⟨by decide, ?_⟩ | refine ⟨trivial, ?_⟩ | refine ⟨⟨rfl, trivial⟩, ?_⟩ | refine ⟨Nat.le_of_ble_eq_true rfl, ?_⟩ | refine ⟨⟨_, rfl, rfl⟩, ?_⟩ | refine ⟨⟨rfl, rfl, trivial⟩, ?_⟩ | refine ⟨⟨rfl, rfl, rfl, trivial⟩, ?_⟩ | refine ⟨⟨rfl, rfl, rfl, rfl, trivial⟩, ?_⟩ | refine ⟨⟨rfl, rfl, rfl, rfl, rfl, trivial⟩, ?_⟩
  conv => whnf
  refine ⟨_, CallVC.pr an rfl rfl, ?_⟩
  repeat (conv => whnf); first | refine IndepAnd (by kernel_rfl) ?_ | refine TreeAnd (by kernel_rfl) ?_ | refine ⟨rfl, ?_⟩ | refine ⟨by decide, ?_⟩ | refine ⟨trivial, ?_⟩ | refine ⟨⟨rfl, trivial⟩, ?_⟩ | refine ⟨Nat.le_of_ble_eq_true rfl, ?_⟩ | refine ⟨⟨_, rfl, rfl⟩, ?_⟩ | refine ⟨⟨rfl, rfl, trivial⟩, ?_⟩ | refine ⟨⟨rfl, rfl, rfl, trivial⟩, ?_⟩ | refine ⟨⟨rfl, rfl, rfl, rfl, trivial⟩, ?_⟩ | refine ⟨⟨rfl, rfl, rfl, rfl, rfl, trivial⟩, ?_⟩
  conv => whnf
  refine ⟨{ i : Nat // i ≤ L.length }, fun i => Vc.S.of [(0, lv L), (2, .p (.bool false)), (3, .p (.bool true)), (4, lv N), (5, .slc 5), (6, .slc 6), (7, iv (i.1 : Int))] [(5, .row 24 3 (tmvs (allS (L.take i.1)))), (6, .row 24 3 (tmvs (ofT (L.take i.1)).l))], fun i => L.length - i.1, ⟨0, Nat.zero_le _⟩, ?_, ?_⟩
  · refine Ge.of rfl ?_ ?_
    · repeat (conv => whnf); refine ⟨LE.of rfl, ?_⟩
      trivial
    · repeat (conv => whnf); refine ⟨OLE.of rfl, ?_⟩
      trivial
  rintro ⟨i, hi⟩
  repeat (conv => whnf); first | refine IndepAnd (by kernel_rfl) ?_ | refine TreeAnd (by kernel_rfl) ?_ | refine ⟨rfl, ?_⟩ | refine ⟨by decide, ?_⟩ | refine ⟨trivial, ?_⟩ | refine ⟨⟨rfl, trivial⟩, ?_⟩ | refine ⟨Nat.le_of_ble_eq_true rfl, ?_⟩ | refine ⟨⟨_, rfl, rfl⟩, ?_⟩ | refine ⟨⟨rfl, rfl, trivial⟩, ?_⟩ | refine ⟨⟨rfl, rfl, rfl, trivial⟩, ?_⟩ | refine ⟨⟨rfl, rfl, rfl, rfl, trivial⟩, ?_⟩ | refine ⟨⟨rfl, rfl, rfl, rfl, rfl, trivial⟩, ?_⟩
  conv => whnf
  refine @bool_rec _ _ _ ?_ ?_ <;> intro h1
  · have hlt : i < L.length := by have := of_decide_eq_true h1; rw [tmvs_length] at this; exact Int.ofNat_lt.1 this
    obtain ⟨fc, wc⟩ := fC i hlt
    have e1 := first_take hlt
    have e2 := allS_take hlt
    have fi := hF.fit _ (List.getElem_mem hlt)
    have wi := hF.wt _ (List.getElem_mem hlt)
    repeat (conv => whnf); first | refine IndepAnd (by kernel_rfl) ?_ | refine TreeAnd (by kernel_rfl) ?_ | refine ⟨rfl, ?_⟩ | refine ⟨by decide, ?_⟩ | refine ⟨trivial, ?_⟩ | refine ⟨⟨rfl, trivial⟩, ?_⟩ | refine ⟨Nat.le_of_ble_eq_true rfl, ?_⟩ | refine ⟨⟨_, rfl, rfl⟩, ?_⟩ | refine ⟨⟨rfl, rfl, trivial⟩, ?_⟩ | refine ⟨⟨rfl, rfl, rfl, trivial⟩, ?_⟩ | refine ⟨⟨rfl, rfl, rfl, rfl, trivial⟩, ?_⟩ | refine ⟨⟨rfl, rfl, rfl, rfl, rfl, trivial⟩, ?_⟩
    conv => whnf
    refine ⟨Int.natCast_nonneg _, TV L[i], tmvs_getN hlt, rfl, rfl, ?_⟩
    repeat (conv => whnf); first | refine IndepAnd (by kernel_rfl) ?_ | refine TreeAnd (by kernel_rfl) ?_ | refine ⟨rfl, ?_⟩ | refine ⟨by decide, ?_⟩ | refine ⟨trivial, ?_⟩ | refine ⟨⟨rfl, trivial⟩, ?_⟩ | refine ⟨Nat.le_of_ble_eq_true rfl, ?_⟩ | refine ⟨⟨_, rfl, rfl⟩, ?_⟩ | refine ⟨⟨rfl, rfl, trivial⟩, ?_⟩ | refine ⟨⟨rfl, rfl, rfl, trivial⟩, ?_⟩ | refine ⟨⟨rfl, rfl, rfl, rfl, trivial⟩, ?_⟩ | refine ⟨⟨rfl, rfl, rfl, rfl, rfl, trivial⟩, ?_⟩
    conv => whnf
    refine ⟨_, CallVC.pr (canon_ok L[i] fi wi) rfl rfl, ?_⟩
    repeat (conv => whnf); first | refine IndepAnd (by kernel_rfl) ?_ | refine TreeAnd (by kernel_rfl) ?_ | refine ⟨rfl, ?_⟩ | refine ⟨by decide, ?_⟩ | refine ⟨trivial, ?_⟩ | refine ⟨⟨rfl, trivial⟩, ?_⟩ | refine ⟨Nat.le_of_ble_eq_true rfl, ?_⟩ | refine ⟨⟨_, rfl, rfl⟩, ?_⟩ | refine ⟨⟨rfl, rfl, trivial⟩, ?_⟩ | refine ⟨⟨rfl, rfl, rfl, trivial⟩, ?_⟩ | refine ⟨⟨rfl, rfl, rfl, rfl, trivial⟩, ?_⟩ | refine ⟨⟨rfl, rfl, rfl, rfl, rfl, trivial⟩, ?_⟩
    conv => whnf
    cases hr1 : rightT (canT L[i]) with
    | false =>
      rw [hr1] at e1 e2
      simp only [Bool.false_eq_true, if_false, List.append_nil] at e1 e2
      refine ⟨_, CallVC.pr (right_big fc wc hr1) rfl rfl, ?_⟩
      repeat (conv => whnf); first | refine IndepAnd (by kernel_rfl) ?_ | refine TreeAnd (by kernel_rfl) ?_ | refine ⟨rfl, ?_⟩ | refine ⟨by decide, ?_⟩ | refine ⟨trivial, ?_⟩ | refine ⟨⟨rfl, trivial⟩, ?_⟩ | refine ⟨Nat.le_of_ble_eq_true rfl, ?_⟩ | refine ⟨⟨_, rfl, rfl⟩, ?_⟩ | refine ⟨⟨rfl, rfl, trivial⟩, ?_⟩ | refine ⟨⟨rfl, rfl, rfl, trivial⟩, ?_⟩ | refine ⟨⟨rfl, rfl, rfl, rfl, trivial⟩, ?_⟩ | refine ⟨⟨rfl, rfl, rfl, rfl, rfl, trivial⟩, ?_⟩
      conv => whnf
      refine ⟨_, wrapN (n := i + 1) rfl (by omega), ?_⟩
      repeat (conv => whnf); first | refine IndepAnd (by kernel_rfl) ?_ | refine TreeAnd (by kernel_rfl) ?_ | refine ⟨rfl, ?_⟩ | refine ⟨by decide, ?_⟩ | refine ⟨trivial, ?_⟩ | refine ⟨⟨rfl, trivial⟩, ?_⟩ | refine ⟨Nat.le_of_ble_eq_true rfl, ?_⟩ | refine ⟨⟨_, rfl, rfl⟩, ?_⟩ | refine ⟨⟨rfl, rfl, trivial⟩, ?_⟩ | refine ⟨⟨rfl, rfl, rfl, trivial⟩, ?_⟩ | refine ⟨⟨rfl, rfl, rfl, rfl, trivial⟩, ?_⟩ | refine ⟨⟨rfl, rfl, rfl, rfl, rfl, trivial⟩, ?_⟩
      conv => whnf
      refine ⟨⟨i + 1, hlt⟩, ?_, by show L.length - (i + 1) < L.length - i; omega⟩
      refine Ge.of rfl ?_ ?_
      · repeat (conv => whnf); refine ⟨LE.of rfl, ?_⟩
        trivial
      · repeat (conv => whnf); first | refine ⟨OLE.of rfl, ?_⟩ | refine ⟨OLE.of (congrArg (fun l => AO.row 24 3 (tmvs l)) e1.symm), ?_⟩ | refine ⟨OLE.of (congrArg (fun l => AO.row 24 3 (tmvs l)) e2.symm), ?_⟩
        trivial
    | true =>
      rw [hr1] at e1 e2
      simp only [if_true] at e1 e2
      have zc : (canT L[i]).size ≤ 160 := by
        have h1 := size_mem' (l := L) (List.getElem_mem hlt)
        rw [can_size]; omega
      have hsub := sub_ok true (canT L[i]) fc (by omega)
      have hsl := sub_len (canT L[i])
      have hal := al i
      have hol := ol i
      refine ⟨_, CallVC.pr (right_big fc wc hr1) rfl rfl, ?_⟩
      repeat (conv => whnf); first | refine IndepAnd (by kernel_rfl) ?_ | refine TreeAnd (by kernel_rfl) ?_ | refine ⟨rfl, ?_⟩ | refine ⟨by decide, ?_⟩ | refine ⟨trivial, ?_⟩ | refine ⟨⟨rfl, trivial⟩, ?_⟩ | refine ⟨Nat.le_of_ble_eq_true rfl, ?_⟩ | refine ⟨⟨_, rfl, rfl⟩, ?_⟩ | refine ⟨⟨rfl, rfl, trivial⟩, ?_⟩ | refine ⟨⟨rfl, rfl, rfl, trivial⟩, ?_⟩ | refine ⟨⟨rfl, rfl, rfl, rfl, trivial⟩, ?_⟩ | refine ⟨⟨rfl, rfl, rfl, rfl, rfl, trivial⟩, ?_⟩
      conv => whnf
      refine ⟨_, CallVC.pr (has_ok true (ofT (L.take i)).l (canT L[i]) (by omega) (fF i)) rfl rfl, ?_⟩
      repeat (conv => whnf); first | refine IndepAnd (by kernel_rfl) ?_ | refine TreeAnd (by kernel_rfl) ?_ | refine ⟨rfl, ?_⟩ | refine ⟨by decide, ?_⟩ | refine ⟨trivial, ?_⟩ | refine ⟨⟨rfl, trivial⟩, ?_⟩ | refine ⟨Nat.le_of_ble_eq_true rfl, ?_⟩ | refine ⟨⟨_, rfl, rfl⟩, ?_⟩ | refine ⟨⟨rfl, rfl, trivial⟩, ?_⟩ | refine ⟨⟨rfl, rfl, rfl, trivial⟩, ?_⟩ | refine ⟨⟨rfl, rfl, rfl, rfl, trivial⟩, ?_⟩ | refine ⟨⟨rfl, rfl, rfl, rfl, rfl, trivial⟩, ?_⟩
      conv => whnf
      refine @bool_rec _ _ _ ?_ ?_ <;> intro h2
      · have h2 : canT L[i] ∉ (ofT (L.take i)).l := by have h2 : (!decide (canT L[i] ∈ (ofT (L.take i)).l)) = true := h2; simpa using h2
        rw [if_neg h2] at e1
        repeat (conv => whnf); first | refine IndepAnd (by kernel_rfl) ?_ | refine TreeAnd (by kernel_rfl) ?_ | refine ⟨rfl, ?_⟩ | refine ⟨by decide, ?_⟩ | refine ⟨trivial, ?_⟩ | refine ⟨⟨rfl, trivial⟩, ?_⟩ | refine ⟨Nat.le_of_ble_eq_true rfl, ?_⟩ | refine ⟨⟨_, rfl, rfl⟩, ?_⟩ | refine ⟨⟨rfl, rfl, trivial⟩, ?_⟩ | refine ⟨⟨rfl, rfl, rfl, trivial⟩, ?_⟩ | refine ⟨⟨rfl, rfl, rfl, rfl, trivial⟩, ?_⟩ | refine ⟨⟨rfl, rfl, rfl, rfl, rfl, trivial⟩, ?_⟩
        conv => whnf
        refine ⟨by show ((tmvs (ofT (L.take i)).l).length + 1) * 48 ≤ _; rw [tmvs_length]; omega, ?_⟩
        repeat (conv => whnf); first | refine IndepAnd (by kernel_rfl) ?_ | refine TreeAnd (by kernel_rfl) ?_ | refine ⟨rfl, ?_⟩ | refine ⟨by decide, ?_⟩ | refine ⟨trivial, ?_⟩ | refine ⟨⟨rfl, trivial⟩, ?_⟩ | refine ⟨Nat.le_of_ble_eq_true rfl, ?_⟩ | refine ⟨⟨_, rfl, rfl⟩, ?_⟩ | refine ⟨⟨rfl, rfl, trivial⟩, ?_⟩ | refine ⟨⟨rfl, rfl, rfl, trivial⟩, ?_⟩ | refine ⟨⟨rfl, rfl, rfl, rfl, trivial⟩, ?_⟩ | refine ⟨⟨rfl, rfl, rfl, rfl, rfl, trivial⟩, ?_⟩
        conv => whnf
        refine ⟨_, CallVC.pr hsub rfl rfl, ?_⟩
        repeat (conv => whnf); first | refine IndepAnd (by kernel_rfl) ?_ | refine TreeAnd (by kernel_rfl) ?_ | refine ⟨rfl, ?_⟩ | refine ⟨by decide, ?_⟩ | refine ⟨trivial, ?_⟩ | refine ⟨⟨rfl, trivial⟩, ?_⟩ | refine ⟨Nat.le_of_ble_eq_true rfl, ?_⟩ | refine ⟨⟨_, rfl, rfl⟩, ?_⟩ | refine ⟨⟨rfl, rfl, trivial⟩, ?_⟩ | refine ⟨⟨rfl, rfl, rfl, trivial⟩, ?_⟩ | refine ⟨⟨rfl, rfl, rfl, rfl, trivial⟩, ?_⟩ | refine ⟨⟨rfl, rfl, rfl, rfl, rfl, trivial⟩, ?_⟩
        conv => whnf
        refine ⟨tmvs_sz _, ?_⟩
        repeat (conv => whnf); first | refine IndepAnd (by kernel_rfl) ?_ | refine TreeAnd (by kernel_rfl) ?_ | refine ⟨rfl, ?_⟩ | refine ⟨by decide, ?_⟩ | refine ⟨trivial, ?_⟩ | refine ⟨⟨rfl, trivial⟩, ?_⟩ | refine ⟨Nat.le_of_ble_eq_true rfl, ?_⟩ | refine ⟨⟨_, rfl, rfl⟩, ?_⟩ | refine ⟨⟨rfl, rfl, trivial⟩, ?_⟩ | refine ⟨⟨rfl, rfl, rfl, trivial⟩, ?_⟩ | refine ⟨⟨rfl, rfl, rfl, rfl, trivial⟩, ?_⟩ | refine ⟨⟨rfl, rfl, rfl, rfl, rfl, trivial⟩, ?_⟩
        conv => whnf
        refine ⟨by show ((tmvs (allS (L.take i))).length + (tmvs (subT (canT L[i]))).length) * 48 ≤ _; rw [tmvs_length, tmvs_length]; omega, ?_⟩
        repeat (conv => whnf); first | refine IndepAnd (by kernel_rfl) ?_ | refine TreeAnd (by kernel_rfl) ?_ | refine ⟨rfl, ?_⟩ | refine ⟨by decide, ?_⟩ | refine ⟨trivial, ?_⟩ | refine ⟨⟨rfl, trivial⟩, ?_⟩ | refine ⟨Nat.le_of_ble_eq_true rfl, ?_⟩ | refine ⟨⟨_, rfl, rfl⟩, ?_⟩ | refine ⟨⟨rfl, rfl, trivial⟩, ?_⟩ | refine ⟨⟨rfl, rfl, rfl, trivial⟩, ?_⟩ | refine ⟨⟨rfl, rfl, rfl, rfl, trivial⟩, ?_⟩ | refine ⟨⟨rfl, rfl, rfl, rfl, rfl, trivial⟩, ?_⟩
        conv => whnf
        refine ⟨_, wrapN (n := i + 1) rfl (by omega), ?_⟩
        repeat (conv => whnf); first | refine IndepAnd (by kernel_rfl) ?_ | refine TreeAnd (by kernel_rfl) ?_ | refine ⟨rfl, ?_⟩ | refine ⟨by decide, ?_⟩ | refine ⟨trivial, ?_⟩ | refine ⟨⟨rfl, trivial⟩, ?_⟩ | refine ⟨Nat.le_of_ble_eq_true rfl, ?_⟩ | refine ⟨⟨_, rfl, rfl⟩, ?_⟩ | refine ⟨⟨rfl, rfl, trivial⟩, ?_⟩ | refine ⟨⟨rfl, rfl, rfl, trivial⟩, ?_⟩ | refine ⟨⟨rfl, rfl, rfl, rfl, trivial⟩, ?_⟩ | refine ⟨⟨rfl, rfl, rfl, rfl, rfl, trivial⟩, ?_⟩
        conv => whnf
        refine ⟨⟨i + 1, hlt⟩, ?_, by show L.length - (i + 1) < L.length - i; omega⟩
        refine Ge.of rfl ?_ ?_
        · repeat (conv => whnf); refine ⟨LE.of rfl, ?_⟩
          trivial
        · repeat (conv => whnf); first | refine ⟨OLE.of rfl, ?_⟩ | refine ⟨OLE.of (congrArg (AO.row 24 3) (by show tmvs (allS (L.take i)) ++ tmvs (subT (canT L[i])) = tmvs (allS (L.take (i + 1))); rw [e2, tmvs_append])), ?_⟩ | refine ⟨OLE.of (congrArg (AO.row 24 3) (by show tmvs (ofT (L.take i)).l ++ [TV (canT L[i])] = tmvs (ofT (L.take (i + 1))).l; rw [e1, tmvs_append, tmvs1])), ?_⟩
          trivial
      · have h2 : canT L[i] ∈ (ofT (L.take i)).l := by have h2 : (!decide (canT L[i] ∈ (ofT (L.take i)).l)) = false := h2; simpa using h2
        rw [if_pos h2] at e1
        repeat (conv => whnf); first | refine IndepAnd (by kernel_rfl) ?_ | refine TreeAnd (by kernel_rfl) ?_ | refine ⟨rfl, ?_⟩ | refine ⟨by decide, ?_⟩ | refine ⟨trivial, ?_⟩ | refine ⟨⟨rfl, trivial⟩, ?_⟩ | refine ⟨Nat.le_of_ble_eq_true rfl, ?_⟩ | refine ⟨⟨_, rfl, rfl⟩, ?_⟩ | refine ⟨⟨rfl, rfl, trivial⟩, ?_⟩ | refine ⟨⟨rfl, rfl, rfl, trivial⟩, ?_⟩ | refine ⟨⟨rfl, rfl, rfl, rfl, trivial⟩, ?_⟩ | refine ⟨⟨rfl, rfl, rfl, rfl, rfl, trivial⟩, ?_⟩
        conv => whnf
        refine ⟨_, CallVC.pr hsub rfl rfl, ?_⟩
        repeat (conv => whnf); first | refine IndepAnd (by kernel_rfl) ?_ | refine TreeAnd (by kernel_rfl) ?_ | refine ⟨rfl, ?_⟩ | refine ⟨by decide, ?_⟩ | refine ⟨trivial, ?_⟩ | refine ⟨⟨rfl, trivial⟩, ?_⟩ | refine ⟨Nat.le_of_ble_eq_true rfl, ?_⟩ | refine ⟨⟨_, rfl, rfl⟩, ?_⟩ | refine ⟨⟨rfl, rfl, trivial⟩, ?_⟩ | refine ⟨⟨rfl, rfl, rfl, trivial⟩, ?_⟩ | refine ⟨⟨rfl, rfl, rfl, rfl, trivial⟩, ?_⟩ | refine ⟨⟨rfl, rfl, rfl, rfl, rfl, trivial⟩, ?_⟩
        conv => whnf
        refine ⟨tmvs_sz _, ?_⟩
        repeat (conv => whnf); first | refine IndepAnd (by kernel_rfl) ?_ | refine TreeAnd (by kernel_rfl) ?_ | refine ⟨rfl, ?_⟩ | refine ⟨by decide, ?_⟩ | refine ⟨trivial, ?_⟩ | refine ⟨⟨rfl, trivial⟩, ?_⟩ | refine ⟨Nat.le_of_ble_eq_true rfl, ?_⟩ | refine ⟨⟨_, rfl, rfl⟩, ?_⟩ | refine ⟨⟨rfl, rfl, trivial⟩, ?_⟩ | refine ⟨⟨rfl, rfl, rfl, trivial⟩, ?_⟩ | refine ⟨⟨rfl, rfl, rfl, rfl, trivial⟩, ?_⟩ | refine ⟨⟨rfl, rfl, rfl, rfl, rfl, trivial⟩, ?_⟩
        conv => whnf
        refine ⟨by show ((tmvs (allS (L.take i))).length + (tmvs (subT (canT L[i]))).length) * 48 ≤ _; rw [tmvs_length, tmvs_length]; omega, ?_⟩
        repeat (conv => whnf); first | refine IndepAnd (by kernel_rfl) ?_ | refine TreeAnd (by kernel_rfl) ?_ | refine ⟨rfl, ?_⟩ | refine ⟨by decide, ?_⟩ | refine ⟨trivial, ?_⟩ | refine ⟨⟨rfl, trivial⟩, ?_⟩ | refine ⟨Nat.le_of_ble_eq_true rfl, ?_⟩ | refine ⟨⟨_, rfl, rfl⟩, ?_⟩ | refine ⟨⟨rfl, rfl, trivial⟩, ?_⟩ | refine ⟨⟨rfl, rfl, rfl, trivial⟩, ?_⟩ | refine ⟨⟨rfl, rfl, rfl, rfl, trivial⟩, ?_⟩ | refine ⟨⟨rfl, rfl, rfl, rfl, rfl, trivial⟩, ?_⟩
        conv => whnf
        refine ⟨_, wrapN (n := i + 1) rfl (by omega), ?_⟩
        repeat (conv => whnf); first | refine IndepAnd (by kernel_rfl) ?_ | refine TreeAnd (by kernel_rfl) ?_ | refine ⟨rfl, ?_⟩ | refine ⟨by decide, ?_⟩ | refine ⟨trivial, ?_⟩ | refine ⟨⟨rfl, trivial⟩, ?_⟩ | refine ⟨Nat.le_of_ble_eq_true rfl, ?_⟩ | refine ⟨⟨_, rfl, rfl⟩, ?_⟩ | refine ⟨⟨rfl, rfl, trivial⟩, ?_⟩ | refine ⟨⟨rfl, rfl, rfl, trivial⟩, ?_⟩ | refine ⟨⟨rfl, rfl, rfl, rfl, trivial⟩, ?_⟩ | refine ⟨⟨rfl, rfl, rfl, rfl, rfl, trivial⟩, ?_⟩
        conv => whnf
        refine ⟨⟨i + 1, hlt⟩, ?_, by show L.length - (i + 1) < L.length - i; omega⟩
        refine Ge.of rfl ?_ ?_
        · repeat (conv => whnf); refine ⟨LE.of rfl, ?_⟩
          trivial
        · repeat (conv => whnf); first | refine ⟨OLE.of rfl, ?_⟩ | refine ⟨OLE.of (congrArg (AO.row 24 3) (by show tmvs (allS (L.take i)) ++ tmvs (subT (canT L[i])) = tmvs (allS (L.take (i + 1))); rw [e2, tmvs_append])), ?_⟩ | refine ⟨OLE.of (congrArg (fun l => AO.row 24 3 (tmvs l)) e1.symm), ?_⟩
          trivial
  have hge : L.take i = L := List.take_of_length_le (by have := of_decide_eq_false h1; rw [tmvs_length] at this; have h5 : ¬ ((i : Int) < L.length) := this; omega)
  obtain ⟨S, eS⟩ : ∃ S, S = allS L := ⟨_, rfl⟩
  obtain ⟨O, eO⟩ : ∃ O, O = (ofT L).l := ⟨_, rfl⟩
  have sl : S.length ≤ 160 := by have := al i; rw [hge, ← eS] at this; exact this
  have ol' : O.length ≤ 8 := by have := ol i; rw [hge, ← eO] at this; exact this
  rw [← eS] at nin fS
  rw [← eO] at hr
  have fO : ∀ t ∈ N, Fit t := fun t ht => fS t (nin t ht)
  repeat (conv => whnf); first | refine IndepAnd (by kernel_rfl) ?_ | refine TreeAnd (by kernel_rfl) ?_ | refine ⟨rfl, ?_⟩ | refine ⟨by decide, ?_⟩ | refine ⟨trivial, ?_⟩ | refine ⟨⟨rfl, trivial⟩, ?_⟩ | refine ⟨Nat.le_of_ble_eq_true rfl, ?_⟩ | refine ⟨⟨_, rfl, rfl⟩, ?_⟩ | refine ⟨⟨rfl, rfl, trivial⟩, ?_⟩ | refine ⟨⟨rfl, rfl, rfl, trivial⟩, ?_⟩ | refine ⟨⟨rfl, rfl, rfl, rfl, trivial⟩, ?_⟩ | refine ⟨⟨rfl, rfl, rfl, rfl, rfl, trivial⟩, ?_⟩
  conv => whnf
  refine ⟨{ j : Nat // j ≤ N.length }, fun j => Vc.S.of [(2, .p (.bool false)), (3, .p (.bool true)), (4, lv N), (5, .slc 5), (6, .slc 6), (9, iv (j.1 : Int))] [(5, .row 24 3 (tmvs S)), (6, .row 24 3 (tmvs O))], fun j => N.length - j.1, ⟨0, Nat.zero_le _⟩, ?_, ?_⟩
  · refine Ge.of rfl ?_ ?_
    · repeat (conv => whnf); refine ⟨LE.of rfl, ?_⟩
      trivial
    · repeat (conv => whnf); first | refine ⟨OLE.of rfl, ?_⟩ | refine ⟨OLE.of (congrArg (AO.row 24 3) (by show tmvs (allS (L.take i)) = tmvs S; rw [hge, eS])), ?_⟩ | refine ⟨OLE.of (congrArg (AO.row 24 3) (by show tmvs (ofT (L.take i)).l = tmvs O; rw [hge, eO])), ?_⟩
      trivial
  rintro ⟨j, hj⟩
  repeat (conv => whnf); first | refine IndepAnd (by kernel_rfl) ?_ | refine TreeAnd (by kernel_rfl) ?_ | refine ⟨rfl, ?_⟩ | refine ⟨by decide, ?_⟩ | refine ⟨trivial, ?_⟩ | refine ⟨⟨rfl, trivial⟩, ?_⟩ | refine ⟨Nat.le_of_ble_eq_true rfl, ?_⟩ | refine ⟨⟨_, rfl, rfl⟩, ?_⟩ | refine ⟨⟨rfl, rfl, trivial⟩, ?_⟩ | refine ⟨⟨rfl, rfl, rfl, trivial⟩, ?_⟩ | refine ⟨⟨rfl, rfl, rfl, rfl, trivial⟩, ?_⟩ | refine ⟨⟨rfl, rfl, rfl, rfl, rfl, trivial⟩, ?_⟩
  conv => whnf
  refine @bool_rec _ _ _ ?_ ?_ <;> intro h3
  · have hlt : j < N.length := by have := of_decide_eq_true h3; rw [tmvs_length] at this; exact Int.ofNat_lt.1 this
    have hin : decide (N[j] ∈ S) = true := decide_eq_true (nin _ (List.getElem_mem hlt))
    have hh := has_ok true S N[j] (by omega) fS
    rw [hin] at hh
    repeat (conv => whnf); first | refine IndepAnd (by kernel_rfl) ?_ | refine TreeAnd (by kernel_rfl) ?_ | refine ⟨rfl, ?_⟩ | refine ⟨by decide, ?_⟩ | refine ⟨trivial, ?_⟩ | refine ⟨⟨rfl, trivial⟩, ?_⟩ | refine ⟨Nat.le_of_ble_eq_true rfl, ?_⟩ | refine ⟨⟨_, rfl, rfl⟩, ?_⟩ | refine ⟨⟨rfl, rfl, trivial⟩, ?_⟩ | refine ⟨⟨rfl, rfl, rfl, trivial⟩, ?_⟩ | refine ⟨⟨rfl, rfl, rfl, rfl, trivial⟩, ?_⟩ | refine ⟨⟨rfl, rfl, rfl, rfl, rfl, trivial⟩, ?_⟩
    conv => whnf
    refine ⟨Int.natCast_nonneg _, TV N[j], tmvs_getN hlt, rfl, rfl, ?_⟩
    repeat (conv => whnf); first | refine IndepAnd (by kernel_rfl) ?_ | refine TreeAnd (by kernel_rfl) ?_ | refine ⟨rfl, ?_⟩ | refine ⟨by decide, ?_⟩ | refine ⟨trivial, ?_⟩ | refine ⟨⟨rfl, trivial⟩, ?_⟩ | refine ⟨Nat.le_of_ble_eq_true rfl, ?_⟩ | refine ⟨⟨_, rfl, rfl⟩, ?_⟩ | refine ⟨⟨rfl, rfl, trivial⟩, ?_⟩ | refine ⟨⟨rfl, rfl, rfl, trivial⟩, ?_⟩ | refine ⟨⟨rfl, rfl, rfl, rfl, trivial⟩, ?_⟩ | refine ⟨⟨rfl, rfl, rfl, rfl, rfl, trivial⟩, ?_⟩
    conv => whnf
    refine ⟨_, CallVC.pr hh rfl rfl, ?_⟩
    repeat (conv => whnf); first | refine IndepAnd (by kernel_rfl) ?_ | refine TreeAnd (by kernel_rfl) ?_ | refine ⟨rfl, ?_⟩ | refine ⟨by decide, ?_⟩ | refine ⟨trivial, ?_⟩ | refine ⟨⟨rfl, trivial⟩, ?_⟩ | refine ⟨Nat.le_of_ble_eq_true rfl, ?_⟩ | refine ⟨⟨_, rfl, rfl⟩, ?_⟩ | refine ⟨⟨rfl, rfl, trivial⟩, ?_⟩ | refine ⟨⟨rfl, rfl, rfl, trivial⟩, ?_⟩ | refine ⟨⟨rfl, rfl, rfl, rfl, trivial⟩, ?_⟩ | refine ⟨⟨rfl, rfl, rfl, rfl, rfl, trivial⟩, ?_⟩
    conv => whnf
    refine ⟨_, wrapN (n := j + 1) rfl (by omega), ?_⟩
    repeat (conv => whnf); first | refine IndepAnd (by kernel_rfl) ?_ | refine TreeAnd (by kernel_rfl) ?_ | refine ⟨rfl, ?_⟩ | refine ⟨by decide, ?_⟩ | refine ⟨trivial, ?_⟩ | refine ⟨⟨rfl, trivial⟩, ?_⟩ | refine ⟨Nat.le_of_ble_eq_true rfl, ?_⟩ | refine ⟨⟨_, rfl, rfl⟩, ?_⟩ | refine ⟨⟨rfl, rfl, trivial⟩, ?_⟩ | refine ⟨⟨rfl, rfl, rfl, trivial⟩, ?_⟩ | refine ⟨⟨rfl, rfl, rfl, rfl, trivial⟩, ?_⟩ | refine ⟨⟨rfl, rfl, rfl, rfl, rfl, trivial⟩, ?_⟩
    conv => whnf
    refine ⟨⟨j + 1, hlt⟩, ?_, by show N.length - (j + 1) < N.length - j; omega⟩
    refine Ge.of rfl ?_ ?_
    · repeat (conv => whnf); refine ⟨LE.of rfl, ?_⟩
      trivial
    · repeat (conv => whnf); refine ⟨OLE.of rfl, ?_⟩
      trivial
  have hON : O.length ≤ N.length := by rw [hr, List.length_append]; omega
  have hcut : cut (tmvs N) 0 ((tmvs O).length : Int).toNat = tmvs O := by
    rw [cut, List.drop_zero, hr, tmvs_append]
    simp
  have hsame := sameall_ok true O O (by omega) (fun u hu => fO u (by rw [hr]; exact List.mem_append_left _ hu))
  rw [decide_eq_true rfl] at hsame
  have hsame : K true 20 [.p (.lst (cut (tmvs N) 0 ((tmvs O).length : Int).toNat)), lv O] (.pv (.bool true)) := by rw [hcut]; exact hsame
  have h4 : decide (((tmvs O).length : Int) ≤ ((tmvs N).length : Int)) = true := decide_eq_true (by rw [tmvs_length, tmvs_length]; omega)
  repeat (conv => whnf); first | refine IndepAnd (by kernel_rfl) ?_ | refine TreeAnd (by kernel_rfl) ?_ | refine ⟨rfl, ?_⟩ | refine ⟨by decide, ?_⟩ | refine ⟨trivial, ?_⟩ | refine ⟨⟨rfl, trivial⟩, ?_⟩ | refine ⟨Nat.le_of_ble_eq_true rfl, ?_⟩ | refine ⟨⟨_, rfl, rfl⟩, ?_⟩ | refine ⟨⟨rfl, rfl, trivial⟩, ?_⟩ | refine ⟨⟨rfl, rfl, rfl, trivial⟩, ?_⟩ | refine ⟨⟨rfl, rfl, rfl, rfl, trivial⟩, ?_⟩ | refine ⟨⟨rfl, rfl, rfl, rfl, rfl, trivial⟩, ?_⟩
  conv => whnf
  refine @bool_rec _ _ _ ?_ ?_ <;> intro h5
  case refine_2 =>
    have h5 : decide (((tmvs O).length : Int) ≤ ((tmvs N).length : Int)) = false := h5
    rw [h4] at h5
    exact absurd h5 (by decide)
  repeat (conv => whnf); first | refine IndepAnd (by kernel_rfl) ?_ | refine TreeAnd (by kernel_rfl) ?_ | refine ⟨rfl, ?_⟩ | refine ⟨by decide, ?_⟩ | refine ⟨trivial, ?_⟩ | refine ⟨⟨rfl, trivial⟩, ?_⟩ | refine ⟨Nat.le_of_ble_eq_true rfl, ?_⟩ | refine ⟨⟨_, rfl, rfl⟩, ?_⟩ | refine ⟨⟨rfl, rfl, trivial⟩, ?_⟩ | refine ⟨⟨rfl, rfl, rfl, trivial⟩, ?_⟩ | refine ⟨⟨rfl, rfl, rfl, rfl, trivial⟩, ?_⟩ | refine ⟨⟨rfl, rfl, rfl, rfl, rfl, trivial⟩, ?_⟩
  conv => whnf
  refine ⟨⟨tiTerm, rfl, tmvs_sz N⟩, ?_⟩
  repeat (conv => whnf); first | refine IndepAnd (by kernel_rfl) ?_ | refine TreeAnd (by kernel_rfl) ?_ | refine ⟨rfl, ?_⟩ | refine ⟨by decide, ?_⟩ | refine ⟨trivial, ?_⟩ | refine ⟨⟨rfl, trivial⟩, ?_⟩ | refine ⟨Nat.le_of_ble_eq_true rfl, ?_⟩ | refine ⟨⟨_, rfl, rfl⟩, ?_⟩ | refine ⟨⟨rfl, rfl, trivial⟩, ?_⟩ | refine ⟨⟨rfl, rfl, rfl, trivial⟩, ?_⟩ | refine ⟨⟨rfl, rfl, rfl, rfl, trivial⟩, ?_⟩ | refine ⟨⟨rfl, rfl, rfl, rfl, rfl, trivial⟩, ?_⟩
  conv => whnf
  refine ⟨Int.natCast_nonneg _, ?_⟩
  repeat (conv => whnf); first | refine IndepAnd (by kernel_rfl) ?_ | refine TreeAnd (by kernel_rfl) ?_ | refine ⟨rfl, ?_⟩ | refine ⟨by decide, ?_⟩ | refine ⟨trivial, ?_⟩ | refine ⟨⟨rfl, trivial⟩, ?_⟩ | refine ⟨Nat.le_of_ble_eq_true rfl, ?_⟩ | refine ⟨⟨_, rfl, rfl⟩, ?_⟩ | refine ⟨⟨rfl, rfl, trivial⟩, ?_⟩ | refine ⟨⟨rfl, rfl, rfl, trivial⟩, ?_⟩ | refine ⟨⟨rfl, rfl, rfl, rfl, trivial⟩, ?_⟩ | refine ⟨⟨rfl, rfl, rfl, rfl, rfl, trivial⟩, ?_⟩
  conv => whnf
  refine ⟨by show (((tmvs O).length : Nat) : Int).toNat ≤ (tmvs N).length; rw [tmvs_length, tmvs_length]; omega, ?_⟩
  repeat (conv => whnf); first | refine IndepAnd (by kernel_rfl) ?_ | refine TreeAnd (by kernel_rfl) ?_ | refine ⟨rfl, ?_⟩ | refine ⟨by decide, ?_⟩ | refine ⟨trivial, ?_⟩ | refine ⟨⟨rfl, trivial⟩, ?_⟩ | refine ⟨Nat.le_of_ble_eq_true rfl, ?_⟩ | refine ⟨⟨_, rfl, rfl⟩, ?_⟩ | refine ⟨⟨rfl, rfl, trivial⟩, ?_⟩ | refine ⟨⟨rfl, rfl, rfl, trivial⟩, ?_⟩ | refine ⟨⟨rfl, rfl, rfl, rfl, trivial⟩, ?_⟩ | refine ⟨⟨rfl, rfl, rfl, rfl, rfl, trivial⟩, ?_⟩
  conv => whnf
  refine ⟨Nat.le_refl _, ?_⟩
  repeat (conv => whnf); first | refine IndepAnd (by kernel_rfl) ?_ | refine TreeAnd (by kernel_rfl) ?_ | refine ⟨rfl, ?_⟩ | refine ⟨by decide, ?_⟩ | refine ⟨trivial, ?_⟩ | refine ⟨⟨rfl, trivial⟩, ?_⟩ | refine ⟨Nat.le_of_ble_eq_true rfl, ?_⟩ | refine ⟨⟨_, rfl, rfl⟩, ?_⟩ | refine ⟨⟨rfl, rfl, trivial⟩, ?_⟩ | refine ⟨⟨rfl, rfl, rfl, trivial⟩, ?_⟩ | refine ⟨⟨rfl, rfl, rfl, rfl, trivial⟩, ?_⟩ | refine ⟨⟨rfl, rfl, rfl, rfl, rfl, trivial⟩, ?_⟩
  conv => whnf
  refine ⟨_, CallVC.pr hsame rfl rfl, ?_⟩
  repeat (conv => whnf); first | refine IndepAnd (by kernel_rfl) ?_ | refine TreeAnd (by kernel_rfl) ?_ | refine ⟨rfl, ?_⟩ | refine ⟨by decide, ?_⟩ | refine ⟨trivial, ?_⟩ | refine ⟨⟨rfl, trivial⟩, ?_⟩ | refine ⟨Nat.le_of_ble_eq_true rfl, ?_⟩ | refine ⟨⟨_, rfl, rfl⟩, ?_⟩ | refine ⟨⟨rfl, rfl, trivial⟩, ?_⟩ | refine ⟨⟨rfl, rfl, rfl, trivial⟩, ?_⟩ | refine ⟨⟨rfl, rfl, rfl, rfl, trivial⟩, ?_⟩ | refine ⟨⟨rfl, rfl, rfl, rfl, rfl, trivial⟩, ?_⟩
  conv => whnf
  exact LEP.refl _
end Go.Sl
