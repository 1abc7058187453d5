/- Contracts of the document's answer for layer 7: lists. -/
/- short -/
import Derived.Test.YtpeabfflebgamaaDoorGi
import Derived.Test.YtpeabfflebgamaaDoorJb
set_option linter.unusedVariables false
set_option linter.unusedSimpArgs false
namespace Go.Sl
open Go Go.Vc Go.Proofs Go.RowKit

theorem has_ok (b : Bool) (l : List Tm) (t : Tm) (hl : l.length ≤ 9223372036854775807) (hf : ∀ u ∈ l, Fit u) : K b 36 [lv l, tv t] (.pv (.bool (decide (t ∈ l)))) := by
  refine PC_of_vc (cx_ok b) (mixed b) {} Tryd.func36 (by kernel_rfl) rfl rfl (by kernel_rfl) ?_
  repeat (conv => whnf); first|refine IndepAnd (by kernel_rfl) ?_|refine ⟨rfl,?_⟩|refine And.intro (by first|decide|exact trivial|exact ⟨_,rfl,rfl⟩|exact ⟨rfl,trivial⟩|exact ⟨rfl,rfl,trivial⟩) ?_
  conv => whnf
  refine ⟨{ i : Nat // i ≤ l.length ∧ t ∉ l.take i }, fun i => S.of [(0, lv l), (3, .ptr 3 0), (4, .p (.bool false)), (5, iv i.1)] [(3, .var true 24 (tv t))], fun i => l.length - i.1, ⟨0, Nat.zero_le _, by simp⟩, ?_, ?_⟩
  · refine Ge.of rfl ?_ ?_
    · repeat (conv => whnf); refine ⟨LE.of rfl, ?_⟩
      trivial
    · repeat (conv => whnf); refine ⟨OLE.of rfl, ?_⟩
      trivial
  rintro ⟨i, hi, hn⟩
  repeat (conv => whnf); first|refine IndepAnd (by kernel_rfl) ?_|refine ⟨rfl,?_⟩|refine And.intro (by first|decide|exact trivial|exact ⟨_,rfl,rfl⟩|exact ⟨rfl,trivial⟩|exact ⟨rfl,rfl,trivial⟩) ?_
  conv => whnf
  refine @bool_rec _ _ _ ?_ ?_ <;> intro h1
  · have hlt : i < l.length := by have := of_decide_eq_true h1; rw [tmvs_length] at this; exact Int.ofNat_lt.1 this
    repeat (conv => whnf); first|refine IndepAnd (by kernel_rfl) ?_|refine ⟨rfl,?_⟩|refine And.intro (by first|decide|exact trivial|exact ⟨_,rfl,rfl⟩|exact ⟨rfl,trivial⟩|exact ⟨rfl,rfl,trivial⟩) ?_
    conv => whnf
    refine ⟨Int.natCast_nonneg _, TV l[i], tmvs_getN hlt, rfl, rfl, ?_⟩
    repeat (conv => whnf); first|refine IndepAnd (by kernel_rfl) ?_|refine ⟨rfl,?_⟩|refine And.intro (by first|decide|exact trivial|exact ⟨_,rfl,rfl⟩|exact ⟨rfl,trivial⟩|exact ⟨rfl,rfl,trivial⟩) ?_
    conv => whnf
    refine ⟨_, CallVC.pr (same07_ok b l[i] (hf _ (List.getElem_mem hlt)) t) rfl rfl, ?_⟩
    repeat (conv => whnf); first|refine IndepAnd (by kernel_rfl) ?_|refine ⟨rfl,?_⟩|refine And.intro (by first|decide|exact trivial|exact ⟨_,rfl,rfl⟩|exact ⟨rfl,trivial⟩|exact ⟨rfl,rfl,trivial⟩) ?_
    conv => whnf
    refine @bool_rec _ _ _ ?_ ?_ <;> intro h2
    · have h2 : l[i] = t := of_decide_eq_true h2
      have e : decide (t ∈ l) = true := decide_eq_true (by rw [← h2]; exact List.getElem_mem hlt)
      repeat (conv => whnf); first|refine IndepAnd (by kernel_rfl) ?_|refine ⟨rfl,?_⟩|refine And.intro (by first|decide|exact trivial|exact ⟨_,rfl,rfl⟩|exact ⟨rfl,trivial⟩|exact ⟨rfl,rfl,trivial⟩) ?_
      conv => whnf
      exact LEP.of (congrArg PV.bool e.symm)
    · have h2 : ¬ l[i] = t := of_decide_eq_false h2
      repeat (conv => whnf); first|refine IndepAnd (by kernel_rfl) ?_|refine ⟨rfl,?_⟩|refine And.intro (by first|decide|exact trivial|exact ⟨_,rfl,rfl⟩|exact ⟨rfl,trivial⟩|exact ⟨rfl,rfl,trivial⟩) ?_
      conv => whnf
      refine ⟨_, wrapN (n := i + 1) rfl (by omega), ?_⟩
      repeat (conv => whnf); first|refine IndepAnd (by kernel_rfl) ?_|refine ⟨rfl,?_⟩|refine And.intro (by first|decide|exact trivial|exact ⟨_,rfl,rfl⟩|exact ⟨rfl,trivial⟩|exact ⟨rfl,rfl,trivial⟩) ?_
      conv => whnf
      refine ⟨⟨i + 1, hlt, ?_⟩, ?_, by show l.length - (i + 1) < l.length - i; omega⟩
      · rw [List.take_succ_eq_append_getElem hlt, List.mem_append, List.mem_singleton]
        exact fun h => h.elim hn fun h => h2 h.symm
      · refine Ge.of rfl ?_ ?_
        · repeat (conv => whnf); refine ⟨LE.of rfl, ?_⟩
          trivial
        · repeat (conv => whnf); refine ⟨OLE.of rfl, ?_⟩
          trivial
  · have hge : l.take i = l := List.take_of_length_le (by have := of_decide_eq_false h1; rw [tmvs_length] at this; have h5 : ¬ ((i : Int) < l.length) := this; omega)
    have e : decide (t ∈ l) = false := decide_eq_false (by have hn : t ∉ l.take i := hn; rwa [hge] at hn)
    repeat (conv => whnf); first|refine IndepAnd (by kernel_rfl) ?_|refine ⟨rfl,?_⟩|refine And.intro (by first|decide|exact trivial|exact ⟨_,rfl,rfl⟩|exact ⟨rfl,trivial⟩|exact ⟨rfl,rfl,trivial⟩) ?_
    conv => whnf
    exact LEP.of (congrArg PV.bool e.symm)
/-- A list with one more, if it has it not. -/
def withT (l : List Tm) (t : Tm) : List Tm := if t ∈ l then l else l ++ [t]
theorem with_len (l : List Tm) (t : Tm) : (withT l t).length ≤ l.length + 1 := by unfold withT; split <;> simp
theorem mem_with {l : List Tm} {t u : Tm} : u ∈ withT l t ↔ u ∈ l ∨ u = t := by
  unfold withT
  split
  · rename_i h
    constructor
    · exact .inl
    · rintro (h' | rfl)
      · exact h'
      · exact h
  · simp
theorem with_ok (b : Bool) (l : List Tm) (t : Tm) (hl : l.length ≤ 1000000000) (hf : ∀ u ∈ l, Fit u) : K b 31 [lv l, tv t] (.pv (.lst (tmvs (withT l t)))) := by
  refine PC_of_vc (cx_ok b) (mixed b) { own := fun q => Nat.beq q 11 || Nat.beq q 13 || Nat.beq q 16 || Nat.beq q 200013 || Nat.beq q 200016, ps := psT [(4, [11, 13])] } Tryd.func31 (by kernel_rfl) rfl rfl (by kernel_rfl) ?_
  repeat (conv => whnf); first|refine IndepAnd (by kernel_rfl) ?_|refine ⟨rfl,?_⟩|refine And.intro (by first|decide|exact trivial|exact ⟨_,rfl,rfl⟩|exact ⟨rfl,trivial⟩|exact ⟨rfl,rfl,trivial⟩) ?_
  conv => whnf
  refine ⟨_, CallVC.pr (has_ok b l t (by omega) hf) rfl rfl, ?_⟩
  repeat (conv => whnf); first|refine IndepAnd (by kernel_rfl) ?_|refine ⟨rfl,?_⟩|refine And.intro (by first|decide|exact trivial|exact ⟨_,rfl,rfl⟩|exact ⟨rfl,trivial⟩|exact ⟨rfl,rfl,trivial⟩) ?_
  conv => whnf
  refine @bool_rec _ _ _ ?_ ?_ <;> intro h1
  · have h1 : t ∈ l := of_decide_eq_true h1
    repeat (conv => whnf); first|refine IndepAnd (by kernel_rfl) ?_|refine ⟨rfl,?_⟩|refine And.intro (by first|decide|exact trivial|exact ⟨_,rfl,rfl⟩|exact ⟨rfl,trivial⟩|exact ⟨rfl,rfl,trivial⟩) ?_
    conv => whnf
    exact LEP.of (by rw [withT, if_pos h1])
  · have h1 : t ∉ l := of_decide_eq_false h1
    repeat (conv => whnf); first|refine IndepAnd (by kernel_rfl) ?_|refine ⟨rfl,?_⟩|refine And.intro (by first|decide|exact trivial|exact ⟨_,rfl,rfl⟩|exact ⟨rfl,trivial⟩|exact ⟨rfl,rfl,trivial⟩) ?_
    conv => whnf
    refine ⟨tmvs_sz l, ?_⟩
    repeat (conv => whnf); first|refine IndepAnd (by kernel_rfl) ?_|refine ⟨rfl,?_⟩|refine And.intro (by first|decide|exact trivial|exact ⟨_,rfl,rfl⟩|exact ⟨rfl,trivial⟩|exact ⟨rfl,rfl,trivial⟩) ?_
    conv => whnf
    refine ⟨by show (0 + (tmvs l).length) * 48 ≤ _; rw [tmvs_length]; omega, ?_⟩
    repeat (conv => whnf); first|refine IndepAnd (by kernel_rfl) ?_|refine ⟨rfl,?_⟩|refine And.intro (by first|decide|exact trivial|exact ⟨_,rfl,rfl⟩|exact ⟨rfl,trivial⟩|exact ⟨rfl,rfl,trivial⟩) ?_
    conv => whnf
    refine ⟨by show (([] ++ tmvs l).length + 1) * 48 ≤ _; rw [List.nil_append, tmvs_length]; omega, ?_⟩
    repeat (conv => whnf); first|refine IndepAnd (by kernel_rfl) ?_|refine ⟨rfl,?_⟩|refine And.intro (by first|decide|exact trivial|exact ⟨_,rfl,rfl⟩|exact ⟨rfl,trivial⟩|exact ⟨rfl,rfl,trivial⟩) ?_
    conv => whnf
    refine LEP.of (congrArg PV.lst ?_)
    show [] ++ tmvs l ++ [TV t] = tmvs (withT l t)
    rw [withT, if_neg h1, tmvs_append, tmvs1]; rfl
mutual
/-- All terms within one, to a list. -/
def subR : Tm → List Tm → List Tm
  | .mk k n l, acc => subRs l (withT acc (.mk k n l))
def subRs : List Tm → List Tm → List Tm
  | [], acc => acc
  | t :: ts, acc => subRs ts (subR t acc)
end
theorem subR_eq (t : Tm) (acc : List Tm) : subR t acc = subRs t.kids (withT acc t) := by cases t; rw [subR]; rfl
theorem subRs_take {l : List Tm} {i : Nat} (h : i < l.length) (acc : List Tm) : subRs (l.take (i + 1)) acc = subR l[i] (subRs (l.take i) acc) := by
  induction l generalizing i acc with
  | nil => simp at h
  | cons t l ih =>
    cases i with
    | zero => simp [subRs]
    | succ i =>
      simp only [List.take_succ_cons, subRs, List.getElem_cons_succ]
      exact ih (by simpa using h) _
theorem subR_len : ∀ t : Tm, ∀ acc, (subR t acc).length ≤ acc.length + t.size := by
  intro t
  induction t using Tm.indk with
  | h t ih =>
  have key : ∀ l : List Tm, (∀ u ∈ l, ∀ acc, (subR u acc).length ≤ acc.length + u.size) → ∀ acc, (subRs l acc).length ≤ acc.length + Tm.sizes l := by
    intro l
    induction l with
    | nil => intro _ acc; simp [subRs]
    | cons u l ihl =>
      intro h acc
      have h1 := h u (List.mem_cons_self ..) acc
      have h2 := ihl (fun v hv => h v (List.mem_cons_of_mem _ hv)) (subR u acc)
      simp only [subRs, Tm.sizes]; omega
  intro acc
  have h1 := key t.kids ih (withT acc t)
  have h2 := with_len acc t
  rw [subR_eq, Tm.size_eq]; omega
theorem subRs_len (l : List Tm) : ∀ acc, (subRs l acc).length ≤ acc.length + Tm.sizes l := by
  induction l with
  | nil => intro acc; simp [subRs]
  | cons u l ihl =>
    intro acc
    have h1 := subR_len u acc
    have h2 := ihl (subR u acc)
    simp only [subRs, Tm.sizes]; omega
theorem mem_subR : ∀ t : Tm, ∀ acc u, u ∈ subR t acc ↔ u ∈ acc ∨ u ∈ inT t := by
  intro t
  induction t using Tm.indk with
  | h t ih =>
  have key : ∀ l : List Tm, (∀ v ∈ l, ∀ acc u, u ∈ subR v acc ↔ u ∈ acc ∨ u ∈ inT v) → ∀ acc u, u ∈ subRs l acc ↔ u ∈ acc ∨ u ∈ inTs l := by
    intro l
    induction l with
    | nil => intro _ acc u; simp [subRs, inTs]
    | cons v l ihl =>
      intro h acc u
      simp only [subRs, inTs, List.mem_append]
      rw [ihl (fun w hw => h w (List.mem_cons_of_mem _ hw)), h v (List.mem_cons_self ..), or_assoc]
  intro acc u
  rw [subR_eq, key t.kids ih, mem_with, inT_eq, List.mem_cons, or_assoc]
theorem Fit.inT : ∀ {t : Tm}, Fit t → ∀ u ∈ Sl.inT t, Fit u := by
  intro t
  induction t using Tm.indk with
  | h t ih =>
  intro hf u hu
  rw [inT_eq] at hu
  cases hu with
  | head => exact hf
  | tail _ hu =>
    obtain ⟨w, hw, hu⟩ := inTs_of hu
    exact ih w hw (hf.kid hw) u hu
theorem subr_ok (b : Bool) : ∀ t, Fit t → ∀ acc : List Tm, (∀ u ∈ acc, Fit u) → acc.length + t.size ≤ 1000000000 → K b 56 [tv t, lv acc] (.pv (.lst (tmvs (subR t acc)))) := by
  intro t
  induction t using Tm.indk with
  | h t ih =>
  intro hf acc ha hs
  have hts := Tm.size_eq t
  have hwl := with_len acc t
  have fw : ∀ u ∈ withT acc t, Fit u := fun u hu => by
    rcases mem_with.1 hu with h | rfl
    · exact ha u h
    · exact hf
  have fi : ∀ i, ∀ u ∈ subRs (t.kids.take i) (withT acc t), Fit u := by
    intro i
    have key : ∀ l : List Tm, (∀ v ∈ l, Fit v) → ∀ acc : List Tm, (∀ u ∈ acc, Fit u) → ∀ u ∈ subRs l acc, Fit u := by
      intro l
      induction l with
      | nil => intro _ acc h; exact h
      | cons v l ihl =>
        intro h acc h2
        refine ihl (fun w hw => h w (List.mem_cons_of_mem _ hw)) _ fun u hu => ?_
        rcases (mem_subR v acc u).1 hu with hu | hu
        · exact h2 u hu
        · exact (h v (List.mem_cons_self ..)).inT u hu
    exact key _ (fun v hv => hf.kid (List.mem_of_mem_take hv)) _ fw
  refine PC_of_vc (cx_ok b) (mixed b) {} Tryd.func56 (by kernel_rfl) rfl rfl (by kernel_rfl) ?_
  repeat (conv => whnf); first|refine IndepAnd (by kernel_rfl) ?_|refine ⟨rfl,?_⟩|refine And.intro (by first|decide|exact trivial|exact ⟨_,rfl,rfl⟩|exact ⟨rfl,trivial⟩|exact ⟨rfl,rfl,trivial⟩) ?_
  conv => whnf
  refine ⟨_, CallVC.pr (with_ok b acc t (by omega) ha) rfl rfl, ?_⟩
  repeat (conv => whnf); first|refine IndepAnd (by kernel_rfl) ?_|refine ⟨rfl,?_⟩|refine And.intro (by first|decide|exact trivial|exact ⟨_,rfl,rfl⟩|exact ⟨rfl,trivial⟩|exact ⟨rfl,rfl,trivial⟩) ?_
  conv => whnf
  refine ⟨{ i : Nat // i ≤ t.kids.length }, fun i => S.of [(1, lv (subRs (t.kids.take i.1) (withT acc t))), (2, .ptr 2 0), (4, .p .nilS), (5, iv i.1)] [(2, .var true 24 (tv t))], fun i => t.kids.length - i.1, ⟨0, Nat.zero_le _⟩, ?_, ?_⟩
  · refine Ge.of rfl ?_ ?_
    · repeat (conv => whnf); refine ⟨LE.of rfl, ?_⟩
      trivial
    · repeat (conv => whnf); refine ⟨OLE.of rfl, ?_⟩
      trivial
  rintro ⟨i, hi⟩
  repeat (conv => whnf); first|refine IndepAnd (by kernel_rfl) ?_|refine ⟨rfl,?_⟩|refine And.intro (by first|decide|exact trivial|exact ⟨_,rfl,rfl⟩|exact ⟨rfl,trivial⟩|exact ⟨rfl,rfl,trivial⟩) ?_
  conv => whnf
  refine @bool_rec _ _ _ ?_ ?_ <;> intro h1
  · have hlt : i < t.kids.length := by have := of_decide_eq_true h1; rw [tmvs_length] at this; exact Int.ofNat_lt.1 this
    have hle := subRs_len (t.kids.take i) (withT acc t)
    have hst := sizes_take_le t.kids i
    have hsu := Tm.sizes_take hlt
    have hst2 := sizes_take_le t.kids (i + 1)
    have hl := hf.len
    repeat (conv => whnf); first|refine IndepAnd (by kernel_rfl) ?_|refine ⟨rfl,?_⟩|refine And.intro (by first|decide|exact trivial|exact ⟨_,rfl,rfl⟩|exact ⟨rfl,trivial⟩|exact ⟨rfl,rfl,trivial⟩) ?_
    conv => whnf
    refine ⟨Int.natCast_nonneg _, TV t.kids[i], tmvs_getN hlt, rfl, rfl, ?_⟩
    repeat (conv => whnf); first|refine IndepAnd (by kernel_rfl) ?_|refine ⟨rfl,?_⟩|refine And.intro (by first|decide|exact trivial|exact ⟨_,rfl,rfl⟩|exact ⟨rfl,trivial⟩|exact ⟨rfl,rfl,trivial⟩) ?_
    conv => whnf
    refine ⟨_, CallVC.pr (ih t.kids[i] (List.getElem_mem hlt) (hf.kid (List.getElem_mem hlt)) (subRs (t.kids.take i) (withT acc t)) (fi i) (by omega)) rfl rfl, ?_⟩
    repeat (conv => whnf); first|refine IndepAnd (by kernel_rfl) ?_|refine ⟨rfl,?_⟩|refine And.intro (by first|decide|exact trivial|exact ⟨_,rfl,rfl⟩|exact ⟨rfl,trivial⟩|exact ⟨rfl,rfl,trivial⟩) ?_
    conv => whnf
    refine ⟨_, wrapN (n := i + 1) rfl (by omega), ?_⟩
    repeat (conv => whnf); first|refine IndepAnd (by kernel_rfl) ?_|refine ⟨rfl,?_⟩|refine And.intro (by first|decide|exact trivial|exact ⟨_,rfl,rfl⟩|exact ⟨rfl,trivial⟩|exact ⟨rfl,rfl,trivial⟩) ?_
    conv => whnf
    refine ⟨⟨i + 1, hlt⟩, ?_, by show t.kids.length - (i + 1) < t.kids.length - i; omega⟩
    refine Ge.of rfl ?_ ?_
    · repeat (conv => whnf); first | refine ⟨LE.of rfl, ?_⟩ | refine ⟨LE.of (congrArg (fun l => SV.p (PV.lst (tmvs l))) (subRs_take hlt _).symm), ?_⟩
      trivial
    · repeat (conv => whnf); refine ⟨OLE.of rfl, ?_⟩
      trivial
  · have hge : t.kids.take i = t.kids := List.take_of_length_le (by have := of_decide_eq_false h1; rw [tmvs_length] at this; have h5 : ¬ ((i : Int) < t.kids.length) := this; omega)
    repeat (conv => whnf); first|refine IndepAnd (by kernel_rfl) ?_|refine ⟨rfl,?_⟩|refine And.intro (by first|decide|exact trivial|exact ⟨_,rfl,rfl⟩|exact ⟨rfl,trivial⟩|exact ⟨rfl,rfl,trivial⟩) ?_
    conv => whnf
    exact LEP.of (congrArg (fun l => PV.lst (tmvs l)) (by show subRs (t.kids.take i) _ = _; rw [hge, subR_eq]))
theorem subs_ok (b : Bool) (t : Tm) (hf : Fit t) (hs : t.size ≤ 1000000) : K b 34 [tv t] (.pv (.lst (tmvs (subR t [])))) := by
  refine PC_of_vc (cx_ok b) (mixed b) {} Tryd.func34 (by kernel_rfl) rfl rfl (by kernel_rfl) ?_
  repeat (conv => whnf); first|refine IndepAnd (by kernel_rfl) ?_|refine ⟨rfl,?_⟩|refine And.intro (by first|decide|exact trivial|exact ⟨_,rfl,rfl⟩|exact ⟨rfl,trivial⟩|exact ⟨rfl,rfl,trivial⟩) ?_
  conv => whnf
  refine ⟨_, CallVC.le (subr_ok b t hf [] (fun u hu => by cases hu) (by simp; omega)) ⟨LE.refl _, LE_nil, trivial⟩ rfl rfl, ?_⟩
  repeat (conv => whnf); first|refine IndepAnd (by kernel_rfl) ?_|refine ⟨rfl,?_⟩|refine And.intro (by first|decide|exact trivial|exact ⟨_,rfl,rfl⟩|exact ⟨rfl,trivial⟩|exact ⟨rfl,rfl,trivial⟩) ?_
  conv => whnf
  exact LEP.refl _
theorem sameall_ok (b : Bool) (l m : List Tm) (hl : l.length ≤ 9223372036854775807) (hf : ∀ u ∈ l, Fit u) : K b 11 [lv l, lv m] (.pv (.bool (decide (l = m)))) := by
  refine PC_of_vc (cx_ok b) (mixed b) {} Tryd.func11 (by kernel_rfl) rfl rfl (by kernel_rfl) ?_
  repeat (conv => whnf); first|refine IndepAnd (by kernel_rfl) ?_|refine ⟨rfl,?_⟩|refine And.intro (by first|decide|exact trivial|exact ⟨_,rfl,rfl⟩|exact ⟨rfl,trivial⟩|exact ⟨rfl,rfl,trivial⟩) ?_
  conv => whnf
  refine @bool_rec _ _ _ ?_ ?_ <;> intro h1
  · have h1 : ¬ l.length = m.length := by have := of_decide_eq_true h1; rw [tmvs_length, tmvs_length] at this; intro h; exact this (by rw [h])
    have e : decide (l = m) = false := decide_eq_false fun h => h1 (by rw [h])
    repeat (conv => whnf); first|refine IndepAnd (by kernel_rfl) ?_|refine ⟨rfl,?_⟩|refine And.intro (by first|decide|exact trivial|exact ⟨_,rfl,rfl⟩|exact ⟨rfl,trivial⟩|exact ⟨rfl,rfl,trivial⟩) ?_
    conv => whnf
    exact LEP.of (congrArg PV.bool e.symm)
  · have h1 : l.length = m.length := by have := of_decide_eq_false h1; rw [tmvs_length, tmvs_length] at this; omega
    repeat (conv => whnf); first|refine IndepAnd (by kernel_rfl) ?_|refine ⟨rfl,?_⟩|refine And.intro (by first|decide|exact trivial|exact ⟨_,rfl,rfl⟩|exact ⟨rfl,trivial⟩|exact ⟨rfl,rfl,trivial⟩) ?_
    conv => whnf
    refine ⟨{ i : Nat // i ≤ l.length ∧ l.take i = m.take i }, fun i => S.of [(0, lv l), (1, lv m), (4, .p (.bool false)), (5, iv i.1)] [], fun i => l.length - i.1, ⟨0, Nat.zero_le _, by simp⟩, ?_, ?_⟩
    · refine Ge.of rfl ?_ ?_
      · repeat (conv => whnf); refine ⟨LE.of rfl, ?_⟩
        trivial
      · repeat (conv => whnf); refine ⟨OLE.of rfl, ?_⟩
        trivial
    rintro ⟨i, hi, he⟩
    have he : l.take i = m.take i := he
    repeat (conv => whnf); first|refine IndepAnd (by kernel_rfl) ?_|refine ⟨rfl,?_⟩|refine And.intro (by first|decide|exact trivial|exact ⟨_,rfl,rfl⟩|exact ⟨rfl,trivial⟩|exact ⟨rfl,rfl,trivial⟩) ?_
    conv => whnf
    refine @bool_rec _ _ _ ?_ ?_ <;> intro h2
    · have hlt : i < l.length := by have := of_decide_eq_true h2; rw [tmvs_length] at this; exact Int.ofNat_lt.1 this
      have hlm : i < m.length := by omega
      repeat (conv => whnf); first|refine IndepAnd (by kernel_rfl) ?_|refine ⟨rfl,?_⟩|refine And.intro (by first|decide|exact trivial|exact ⟨_,rfl,rfl⟩|exact ⟨rfl,trivial⟩|exact ⟨rfl,rfl,trivial⟩) ?_
      conv => whnf
      refine ⟨Int.natCast_nonneg _, TV l[i], tmvs_getN hlt, rfl, rfl, ?_⟩
      repeat (conv => whnf); first|refine IndepAnd (by kernel_rfl) ?_|refine ⟨rfl,?_⟩|refine And.intro (by first|decide|exact trivial|exact ⟨_,rfl,rfl⟩|exact ⟨rfl,trivial⟩|exact ⟨rfl,rfl,trivial⟩) ?_
      conv => whnf
      refine ⟨Int.natCast_nonneg _, TV m[i], tmvs_getN hlm, rfl, rfl, ?_⟩
      repeat (conv => whnf); first|refine IndepAnd (by kernel_rfl) ?_|refine ⟨rfl,?_⟩|refine And.intro (by first|decide|exact trivial|exact ⟨_,rfl,rfl⟩|exact ⟨rfl,trivial⟩|exact ⟨rfl,rfl,trivial⟩) ?_
      conv => whnf
      refine ⟨_, CallVC.pr (same07_ok b l[i] (hf _ (List.getElem_mem hlt)) m[i]) rfl rfl, ?_⟩
      repeat (conv => whnf); first|refine IndepAnd (by kernel_rfl) ?_|refine ⟨rfl,?_⟩|refine And.intro (by first|decide|exact trivial|exact ⟨_,rfl,rfl⟩|exact ⟨rfl,trivial⟩|exact ⟨rfl,rfl,trivial⟩) ?_
      conv => whnf
      refine @bool_rec _ _ _ ?_ ?_ <;> intro h3
      · have h3 : ¬ l[i] = m[i] := by intro h; have h3 : (!decide (l[i] = m[i])) = true := h3; rw [decide_eq_true h] at h3; cases h3
        have e : decide (l = m) = false := decide_eq_false fun h => h3 (by subst h; rfl)
        repeat (conv => whnf); first|refine IndepAnd (by kernel_rfl) ?_|refine ⟨rfl,?_⟩|refine And.intro (by first|decide|exact trivial|exact ⟨_,rfl,rfl⟩|exact ⟨rfl,trivial⟩|exact ⟨rfl,rfl,trivial⟩) ?_
        conv => whnf
        exact LEP.of (congrArg PV.bool e.symm)
      · have h3 : l[i] = m[i] := by have h3 : (!decide (l[i] = m[i])) = false := h3; simpa using h3
        repeat (conv => whnf); first|refine IndepAnd (by kernel_rfl) ?_|refine ⟨rfl,?_⟩|refine And.intro (by first|decide|exact trivial|exact ⟨_,rfl,rfl⟩|exact ⟨rfl,trivial⟩|exact ⟨rfl,rfl,trivial⟩) ?_
        conv => whnf
        refine ⟨_, wrapN (n := i + 1) rfl (by omega), ?_⟩
        repeat (conv => whnf); first|refine IndepAnd (by kernel_rfl) ?_|refine ⟨rfl,?_⟩|refine And.intro (by first|decide|exact trivial|exact ⟨_,rfl,rfl⟩|exact ⟨rfl,trivial⟩|exact ⟨rfl,rfl,trivial⟩) ?_
        conv => whnf
        refine ⟨⟨i + 1, hlt, by rw [List.take_succ_eq_append_getElem hlt, List.take_succ_eq_append_getElem hlm, he, h3]⟩, ?_, by show l.length - (i + 1) < l.length - i; omega⟩
        refine Ge.of rfl ?_ ?_
        · repeat (conv => whnf); refine ⟨LE.of rfl, ?_⟩
          trivial
        · repeat (conv => whnf); refine ⟨OLE.of rfl, ?_⟩
          trivial
    · have hge : l.length ≤ i := by have := of_decide_eq_false h2; rw [tmvs_length] at this; have h5 : ¬ ((i : Int) < l.length) := this; omega
      have e : decide (l = m) = true := decide_eq_true (by rwa [List.take_of_length_le hge, List.take_of_length_le (by omega)] at he)
      repeat (conv => whnf); first|refine IndepAnd (by kernel_rfl) ?_|refine ⟨rfl,?_⟩|refine And.intro (by first|decide|exact trivial|exact ⟨_,rfl,rfl⟩|exact ⟨rfl,trivial⟩|exact ⟨rfl,rfl,trivial⟩) ?_
      conv => whnf
      exact LEP.of (congrArg PV.bool e.symm)
end Go.Sl
