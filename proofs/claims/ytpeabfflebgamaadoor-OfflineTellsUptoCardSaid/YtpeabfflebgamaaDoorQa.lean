/- DeduceTold: who is told what they know learns nothing. -/
import Derived.Test.YtpeabfflebgamaaDoorNc
set_option linter.unusedVariables false
set_option linter.unusedSimpArgs false
namespace Go.Sl
open Go Go.Vc Go.Proofs Go.RowKit

theorem fr_app {l m : List Tm} {t : Tm} : Fr (l ++ m) t ↔ Fr l t ∨ Fr m t := by
  constructor
  · rintro ⟨v, hv, e⟩
    rcases List.mem_append.1 hv with h | h
    · exact .inl ⟨v, h, e⟩
    · exact .inr ⟨v, h, e⟩
  · rintro (⟨v, hv, e⟩ | ⟨v, hv, e⟩)
    · exact ⟨v, List.mem_append_left _ hv, e⟩
    · exact ⟨v, List.mem_append_right _ hv, e⟩
/-- To be told what is known. -/
theorem told_cl {l m : List Tm} (h : ∀ v ∈ m, txtT (canT v) ≠ [] → Cl (Fr l) (canT v)) {t : Tm} : Cl (Fr (l ++ m)) t ↔ Cl (Fr l) t := by
  constructor
  · refine fun hc => hc.cut fun u hu hg => ?_
    rcases fr_app.1 hu with hu | ⟨v, hv, rfl⟩
    · exact .base hu hg
    · exact h v hv hg.1
  · exact fun hc => hc.mono fun u hu => fr_app.2 (.inl hu)
theorem told_eq {l : List Tm} {x : Tm} (h : knT l x = true) (t : Tm) : knT (l ++ [x]) t = knT l t := by
  rw [Bool.eq_iff_iff, knT_iff, knT_iff]
  refine told_cl fun v hv _ => ?_
  rw [List.mem_singleton.1 hv]
  exact knT_iff.1 h
theorem more_kn {l m : List Tm} {t : Tm} (h : knT l t = true) : knT (l ++ m) t = true := by
  rw [knT_iff] at h ⊢
  exact h.mono fun u hu => fr_app.2 (.inl hu)
/-- Few terms, and some small ones behind them. -/
theorem frm_few {l : List Tm} (hf : ∀ t ∈ l, Fit t) (hw : wts l ≤ 1048576) {xs : List Tm} (hx : ∀ x ∈ xs, Fit x ∧ wt x ≤ 1000000000 ∧ x.size ≤ 100) (hl : xs.length ≤ 10) : Frm (few8 l ++ xs) := by
  refine ⟨fun t ht => ?_, fun t ht => ?_, ?_, ?_⟩
  · rcases List.mem_append.1 ht with h | h
    · exact hf t (few_mem8 h).1
    · exact (hx t h).1
  · rcases List.mem_append.1 ht with h | h
    · have := wts_mem (few_mem8 h).1; omega
    · exact (hx t h).2.1
  · have key : ∀ xs : List Tm, (∀ x ∈ xs, x.size ≤ 100) → Tm.sizes xs ≤ xs.length * 100 := by
      intro xs
      induction xs with
      | nil => intro _; simp [Tm.sizes]
      | cons t l ih => intro h; have := h t (List.mem_cons_self ..); have := ih fun u hu => h u (List.mem_cons_of_mem _ hu); simp only [Tm.sizes, List.length_cons, Nat.succ_mul]; omega
    have h1 := key xs fun x h => (hx x h).2.2
    have h2 := few_sizes8 l
    have h3 : xs.length * 100 ≤ 10 * 100 := Nat.mul_le_mul_right _ hl
    rw [Tm.sizes_append]; omega
  · have := few_len8 l
    rw [List.length_append]; omega
theorem frm_few0 {l : List Tm} (hf : ∀ t ∈ l, Fit t) (hw : wts l ≤ 1048576) : Frm (few8 l) := by
  have := frm_few hf hw (xs := []) (by simp) (by simp)
  rwa [List.append_nil] at this
theorem knowsV_ok {l : List Tm} {t : Tm} {L : List PV} {v : Bool} (hL : L = tmvs l) (hv : knT l t = v) (h : Frm l) (ft : Fit t) (ht : wt t ≤ 1000000000) : K true 10 [.p (.lst L), tv t] (.pv (.bool v)) := by
  rw [hL, ← hv]; exact knowsF_ok h ft ht
theorem tmvs_app1 (l : List Tm) (t : Tm) : [] ++ tmvs l ++ [TV t] = tmvs (l ++ [t]) := by rw [tmvs_append, tmvs1]; rfl
theorem tmvs_appL (l m : List Tm) : [] ++ tmvs l ++ tmvs m = tmvs (l ++ m) := by rw [tmvs_append]; rfl
theorem len_app0 {l : List Tm} (h : l.length ≤ 1000) : (([] : List PV).length + (tmvs l).length) * 48 ≤ 140737488355328 := by rw [tmvs_length]; simp; omega
theorem len_app1 {l : List Tm} {n : Nat} (h : l.length ≤ 1000) (hn : n ≤ 1000) : (([] ++ tmvs l).length + n) * 48 ≤ 140737488355328 := by rw [List.nil_append, tmvs_length]; omega
end Go.Sl
