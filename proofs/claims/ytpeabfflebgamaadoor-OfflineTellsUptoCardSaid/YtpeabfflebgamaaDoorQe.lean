/- DeduceMore: who hears more knows no less. -/
import Derived.Test.YtpeabfflebgamaaDoorMc
set_option linter.unusedVariables false
set_option linter.unusedSimpArgs false
namespace Go.Sl
open Go Go.Vc Go.Proofs Go.RowKit

theorem fr_comm {l m : List Tm} {t : Tm} : knT (l ++ m) t = knT (m ++ l) t := by
  rw [Bool.eq_iff_iff, knT_iff, knT_iff]
  have key : ∀ l m : List Tm, Cl (Fr (l ++ m)) (canT t) → Cl (Fr (m ++ l)) (canT t) := fun l m h => h.mono fun u hu => fr_app.2 ((fr_app.1 hu).symm)
  exact ⟨key l m, key m l⟩
theorem base_kn {l : List Tm} {t : Tm} (h : t ∈ l) (hr : rightT t = true) : knT l t = true :=
  knK_true (gd_right hr) (.base (in_fr h (gd_right hr)) (gd_right hr))
theorem an_kn {l : List Tm} (h : Frm l) {t : Tm} (ht : t ∈ anT l) : knT l t = true := knK_true (h.fin.sd.cl t ht).gd (h.fin.sd.cl t ht)
theorem right_big {t : Tm} (hf : Fit t) (hw : wt t ≤ 1000000000) {v : Bool} (hv : rightT t = v) : K true 43 [tv t] (.pv (.bool v)) := by
  rw [← hv]; exact right_ok t hf fun _ => text_big hf hw
theorem len_appL {l m : List Tm} (h : l.length + m.length ≤ 1000) : (([] ++ tmvs l).length + (tmvs m).length) * 48 ≤ 140737488355328 := by simp only [List.nil_append, tmvs_length]; omega
end Go.Sl
