/- DeduceWithin: nobody takes out what was not put in. -/
import Derived.Test.YtpeabfflebgamaaDoorQe
set_option linter.unusedVariables false
set_option linter.unusedSimpArgs false
namespace Go.Sl
open Go Go.Vc Go.Proofs Go.RowKit

theorem addT_pre (k : Kn) (t : Tm) : ∃ r, (addT k t).l = k.l ++ r := by
  unfold addT
  split
  · exact ⟨[], by simp⟩
  · exact ⟨_, rfl⟩
theorem adds_pre : ∀ (m : List Tm) (k : Kn), ∃ r, (m.foldl addT k).l = k.l ++ r
  | [], k => ⟨[], by simp⟩
  | t :: m, k => by
    obtain ⟨r1, h1⟩ := addT_pre k t
    obtain ⟨r2, h2⟩ := adds_pre m (addT k t)
    exact ⟨r1 ++ r2, by rw [List.foldl_cons, h2, h1, List.append_assoc]⟩
theorem it_pre (k : Kn) : ∀ j, ∃ r, (itK k j).l = k.l ++ r
  | 0 => ⟨[], by simp [itK]⟩
  | j + 1 => by
    obtain ⟨r1, h1⟩ := it_pre k j
    obtain ⟨r2, h2⟩ := adds_pre (moreT (itK k j).s (itK k j).l) ⟨(itK k j).l, (itK k j).s, dIn (itK k j).l (itK k j).s (itK k j).l (itK k j).d⟩
    refine ⟨r1 ++ r2, ?_⟩
    show (stepK (itK k j)).l = _
    rw [show (stepK (itK k j)).l = (itK k j).l ++ r2 from h2, h1, List.append_assoc]
theorem an_pre {l : List Tm} (h : Frm l) : ∃ r, anT l = (ofT l).l ++ r := by
  obtain ⟨m, hm, _⟩ := h.end.k.2
  obtain ⟨r, hr⟩ := it_pre (ofT l) (m + 1)
  exact ⟨r, by rw [← hr, ← hm]⟩
theorem of_wk2 {l : List Tm} (hf : ∀ t ∈ l, Fit t) (hw : ∀ t ∈ l, wt t ≤ 1000000000) : WK (inTs (ofT l).l) (ofT l) :=
  { of_wk hf hw with sub := fun t ht => inTs_mem ht (inT_self t) }
theorem inTs_kid {l : List Tm} : ∀ t ∈ inTs l, ∀ u ∈ t.kids, u ∈ inTs l := fun t ht u hu => by
  obtain ⟨w, hw, ht⟩ := inTs_of ht
  exact inTs_mem hw (inT_kid ht hu)
theorem an_sub {l : List Tm} (h : Frm l) : ∀ t ∈ anT l, t ∈ inTs (ofT l).l := by
  obtain ⟨m, hm, _⟩ := h.end.k.2
  rw [show anT l = (itK (ofT l) (m + 1)).l by rw [← hm]]
  exact (itK_wk inTs_kid (of_wk2 h.fit h.wt) (m + 1)).sub
theorem mem_ins {acc : List Tm} {x y : Tm} : y ∈ insT acc x ↔ y ∈ acc ∨ y = x := by
  refine ⟨mem_insT, fun h => ?_⟩
  unfold insT
  split
  · rename_i ha
    rcases h with h | rfl
    · exact h
    · rw [List.any_eq_true] at ha
      obtain ⟨z, hz, e⟩ := ha
      rw [of_decide_eq_true e]; exact hz
  · rcases h with h | rfl
    · exact List.mem_append_left _ h
    · exact List.mem_append_right _ (List.mem_singleton.2 rfl)
theorem mem_insL : ∀ (m acc : List Tm) (y : Tm), y ∈ m.foldl insT acc ↔ y ∈ acc ∨ y ∈ m
  | [], acc, y => by simp
  | x :: m, acc, y => by rw [List.foldl_cons, mem_insL m, mem_ins, List.mem_cons, or_assoc]
theorem mem_subT : ∀ t : Tm, ∀ u, u ∈ subT t ↔ u ∈ inT t := by
  intro t
  induction t using Tm.indk with
  | h t ih =>
  have key : ∀ l : List Tm, (∀ v ∈ l, ∀ u, u ∈ subT v ↔ u ∈ inT v) → ∀ acc u, u ∈ subTs acc l ↔ u ∈ acc ∨ u ∈ inTs l := by
    intro l
    induction l with
    | nil => intro _ acc u; simp [subTs, inTs]
    | cons v l ihl =>
      intro h acc u
      simp only [subTs, inTs, List.mem_append]
      rw [ihl (fun w hw => h w (List.mem_cons_of_mem _ hw)), mem_insL, h v (List.mem_cons_self ..), or_assoc]
  intro u
  rw [subT_eq, key t.kids ih, inT_eq]
  simp
/-- All within the right ones. -/
def allS (l : List Tm) : List Tm := l.flatMap fun v => if rightT (canT v) = true then subT (canT v) else []
theorem can_right_iff (v : Tm) : rightT (canT v) = true ↔ txtT (canT v) ≠ [] := ⟨fun h => (gd_right h).1, fun h => right_gd ⟨h, can_can v⟩⟩
theorem allS_take {l : List Tm} {i : Nat} (h : i < l.length) : allS (l.take (i + 1)) = allS (l.take i) ++ (if rightT (canT l[i]) = true then subT (canT l[i]) else []) := by
  rw [List.take_succ_eq_append_getElem h, allS, List.flatMap_append]
  show allS (l.take i) ++ ((if rightT (canT l[i]) = true then subT (canT l[i]) else []) ++ []) = _
  rw [List.append_nil]
theorem allS_len : ∀ l : List Tm, (allS l).length ≤ Tm.sizes l
  | [] => by simp [allS]
  | v :: l => by
    have h1 := allS_len l
    have h2 := sub_len (canT v)
    have h3 := can_size v
    have e : allS (v :: l) = (if rightT (canT v) = true then subT (canT v) else []) ++ allS l := by simp [allS]
    rw [e, List.length_append, Tm.sizes]
    split
    · omega
    · simp; omega
theorem first_mem {l : List Tm} {t : Tm} : t ∈ (ofT l).l ↔ ∃ v ∈ l, rightT (canT v) = true ∧ canT v = t := by
  rw [ofT_in]
  constructor
  · rintro ⟨⟨v, hv, rfl⟩, hg⟩
    exact ⟨v, hv, right_gd hg, rfl⟩
  · rintro ⟨v, hv, hr, rfl⟩
    exact ⟨⟨v, hv, rfl⟩, gd_right hr⟩
theorem an_all {l : List Tm} (h : Frm l) : ∀ t ∈ anT l, t ∈ allS l := fun t ht => by
  obtain ⟨w, hw, ht⟩ := inTs_of (an_sub h t ht)
  obtain ⟨v, hv, hr, rfl⟩ := first_mem.1 hw
  exact List.mem_flatMap.2 ⟨v, hv, by rw [if_pos hr]; exact (mem_subT _ _).2 ht⟩
theorem first_take {l : List Tm} {i : Nat} (h : i < l.length) : (ofT (l.take (i + 1))).l = if rightT (canT l[i]) = true then (if canT l[i] ∈ (ofT (l.take i)).l then (ofT (l.take i)).l else (ofT (l.take i)).l ++ [canT l[i]]) else (ofT (l.take i)).l := by
  rw [ofT_take h]
  have hs := (Sd.of (l.take i)).s
  unfold addT
  by_cases hr : rightT (canT l[i]) = true
  · have hn := (can_right_iff _).1 hr
    rw [if_pos hr]
    have hm := mem_txt (l := (ofT (l.take i)).l) (fun u hu => ((ofT_in.1 hu).2).1) hn
    rw [hs]
    by_cases hc : canT l[i] ∈ (ofT (l.take i)).l
    · rw [if_pos (.inr (hm.2 hc)), if_pos hc]
    · rw [if_neg (fun h => h.elim hn fun h => hc (hm.1 h)), if_neg hc]
  · have hn : txtT (canT l[i]) = [] := Classical.byContradiction fun h => hr ((can_right_iff _).2 h)
    rw [if_neg hr, if_pos (.inl hn)]
theorem first_len (l : List Tm) : (ofT l).l.length ≤ l.length := by have := foldl_add_len l ⟨[], [], []⟩; simpa [ofT] using this
theorem size_mem' {l : List Tm} {u : Tm} (h : u ∈ l) : u.size ≤ Tm.sizes l := Tm.size_mem h
end Go.Sl
