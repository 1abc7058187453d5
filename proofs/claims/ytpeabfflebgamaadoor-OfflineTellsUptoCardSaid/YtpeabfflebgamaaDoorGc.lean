/- Contracts: order, rightness, Text, Less, Share, Depth, Size. -/
/- short -/
import Derived.Test.YtpeabfflebgamaaDoorGb
set_option linter.unusedVariables false
set_option linter.unusedSimpArgs false
namespace Go.Sl
open Go Go.Vc Go.Proofs Go.RowKit

/-- slices.IndexFunc, of a plain function. -/
theorem index0_ok (b : Bool) (f : Nat) (p : Tm → Bool) (l : List Tm) (hl : l.length ≤ 9223372036854775807)
    (hp : ∀ t ∈ l, K b f [tv t] (.pv (.bool (p t)))) :
    K b 88 [lv l, .fn f []] (.pv (.int .i64 (idxT p l))) := by
  refine PC_of_vc (cx_ok b) (mixed b) {} Tryd.func88 (by kernel_rfl) rfl rfl (by kernel_rfl) ?_
  repeat (conv => whnf); first|refine IndepAnd (by kernel_rfl) ?_|refine ⟨rfl,?_⟩|refine And.intro (by first|decide|exact trivial|exact ⟨_,rfl,rfl⟩|exact ⟨rfl,trivial⟩|exact ⟨rfl,rfl,trivial⟩) ?_
  conv => whnf
  refine ⟨{ i : Rd l.length // ∀ t ∈ l.take i.1, p t = false }, fun i => S.of [(0, lv l), (1, .fn f []), (7, iv ((tmvs l).length : Int)), (8, iv (i.1.1 : Int))] [], fun i => l.length - i.1.1, ⟨Rd.zero _, by simp [Rd.zero]⟩, ?_, ?_⟩
  · refine Ge.of rfl ?_ ?_
    · repeat (conv => whnf); refine ⟨LE.of rfl, ?_⟩
      trivial
    · repeat (conv => whnf); refine ⟨OLE.of rfl, ?_⟩
      trivial
  rintro ⟨⟨i, hi⟩, hno⟩
  repeat (conv => whnf); first|refine IndepAnd (by kernel_rfl) ?_|refine ⟨rfl,?_⟩|refine And.intro (by first|decide|exact trivial|exact ⟨_,rfl,rfl⟩|exact ⟨rfl,trivial⟩|exact ⟨rfl,rfl,trivial⟩) ?_
  conv => whnf
  refine @bool_rec _ _ _ ?_ ?_ <;> intro h1
  · have hlt : i < l.length := by have := of_decide_eq_true h1; rw [tmvs_length] at this; exact Int.ofNat_lt.1 this
    repeat (conv => whnf); first|refine IndepAnd (by kernel_rfl) ?_|refine ⟨rfl,?_⟩|refine And.intro (by first|decide|exact trivial|exact ⟨_,rfl,rfl⟩|exact ⟨rfl,trivial⟩|exact ⟨rfl,rfl,trivial⟩) ?_
    conv => whnf
    refine ⟨Int.natCast_nonneg _, TV l[i], tmvs_getN hlt, rfl, rfl, ?_⟩
    repeat (conv => whnf); first|refine IndepAnd (by kernel_rfl) ?_|refine ⟨rfl,?_⟩|refine And.intro (by first|decide|exact trivial|exact ⟨_,rfl,rfl⟩|exact ⟨rfl,trivial⟩|exact ⟨rfl,rfl,trivial⟩) ?_
    conv => whnf
    refine ⟨_, CallVC.pr (hp l[i] (List.getElem_mem hlt)) rfl rfl, ?_⟩
    repeat (conv => whnf); first|refine IndepAnd (by kernel_rfl) ?_|refine ⟨rfl,?_⟩|refine And.intro (by first|decide|exact trivial|exact ⟨_,rfl,rfl⟩|exact ⟨rfl,trivial⟩|exact ⟨rfl,rfl,trivial⟩) ?_
    conv => whnf
    refine @bool_rec _ _ _ ?_ ?_ <;> intro h2
    · repeat (conv => whnf); first|refine IndepAnd (by kernel_rfl) ?_|refine ⟨rfl,?_⟩|refine And.intro (by first|decide|exact trivial|exact ⟨_,rfl,rfl⟩|exact ⟨rfl,trivial⟩|exact ⟨rfl,rfl,trivial⟩) ?_
      conv => whnf
      exact LEP.of (congrArg (PV.int .i64) (idxT_some p l i hlt hno h2).symm)
    · repeat (conv => whnf); first|refine IndepAnd (by kernel_rfl) ?_|refine ⟨rfl,?_⟩|refine And.intro (by first|decide|exact trivial|exact ⟨_,rfl,rfl⟩|exact ⟨rfl,trivial⟩|exact ⟨rfl,rfl,trivial⟩) ?_
      conv => whnf
      refine ⟨_, wrapN (n := i + 1) rfl (by omega), ?_⟩
      repeat (conv => whnf); first|refine IndepAnd (by kernel_rfl) ?_|refine ⟨rfl,?_⟩|refine And.intro (by first|decide|exact trivial|exact ⟨_,rfl,rfl⟩|exact ⟨rfl,trivial⟩|exact ⟨rfl,rfl,trivial⟩) ?_
      conv => whnf
      refine ⟨⟨⟨i + 1, hlt⟩, ?_⟩, ?_, by show l.length - (i + 1) < l.length - i; omega⟩
      · intro t ht
        rw [List.take_succ_eq_append_getElem hlt, List.mem_append, List.mem_singleton] at ht
        rcases ht with ht | rfl
        · exact hno t ht
        · exact h2
      · refine Ge.of rfl ?_ ?_
        · repeat (conv => whnf); refine ⟨LE.of rfl, ?_⟩
          trivial
        · repeat (conv => whnf); refine ⟨OLE.of rfl, ?_⟩
          trivial
  · have hge : i = l.length := by have := of_decide_eq_false h1; rw [tmvs_length] at this; have h2 : ¬ ((i : Int) < l.length) := this; omega
    repeat (conv => whnf); first|refine IndepAnd (by kernel_rfl) ?_|refine ⟨rfl,?_⟩|refine And.intro (by first|decide|exact trivial|exact ⟨_,rfl,rfl⟩|exact ⟨rfl,trivial⟩|exact ⟨rfl,rfl,trivial⟩) ?_
    conv => whnf
    exact LEP.of (congrArg (PV.int .i64) (idxT_none p l fun t ht => hno t (by rw [show l.take i = l from List.take_of_length_le (by omega)]; exact ht)).symm)
theorem contains0_ok (b : Bool) (f : Nat) (p : Tm → Bool) (l : List Tm) (hl : l.length ≤ 9223372036854775807)
    (hp : ∀ t ∈ l, K b f [tv t] (.pv (.bool (p t)))) :
    K b 76 [lv l, .fn f []] (.pv (.bool (l.any p))) := by
  refine PC_of_vc (cx_ok b) (mixed b) {} Tryd.func76 (by kernel_rfl) rfl rfl (by kernel_rfl) ?_
  repeat (conv => whnf); first|refine IndepAnd (by kernel_rfl) ?_|refine ⟨rfl,?_⟩|refine And.intro (by first|decide|exact trivial|exact ⟨_,rfl,rfl⟩|exact ⟨rfl,trivial⟩|exact ⟨rfl,rfl,trivial⟩) ?_
  conv => whnf
  refine ⟨_, CallVC.pr (index0_ok b f p l hl hp) rfl rfl, ?_⟩
  repeat (conv => whnf); first|refine IndepAnd (by kernel_rfl) ?_|refine ⟨rfl,?_⟩|refine And.intro (by first|decide|exact trivial|exact ⟨_,rfl,rfl⟩|exact ⟨rfl,trivial⟩|exact ⟨rfl,rfl,trivial⟩) ?_
  conv => whnf
  refine LEP.of (congrArg PV.bool ?_)
  rw [Bool.eq_iff_iff, decide_eq_true_eq]
  exact idxT_spec p l
mutual
/-- Shares in order. -/
def ordT : Tm → Bool
  | .mk k n l => !(decide (k = 9) && Op.bytesLess (l.getD 1 (.mk 0 [] [])).text (l.getD 0 (.mk 0 [] [])).text) && ordTs l
def ordTs : List Tm → Bool
  | [] => true
  | t :: ts => ordT t && ordTs ts
end
theorem ordTs_any (l : List Tm) : ordTs l = !(l.any fun t => !ordT t) := by
  induction l with
  | nil => rfl
  | cons t ts ih => rw [ordTs, ih, List.any_cons]; cases ordT t <;> simp
theorem ordT_eq (t : Tm) : ordT t = (!(decide (t.kind = 9) && Op.bytesLess (t.kids.getD 1 (.mk 0 [] [])).text (t.kids.getD 0 (.mk 0 [] [])).text) && !(t.kids.any fun u => !ordT u)) := by
  cases t; rw [ordT, ordTs_any]; rfl
theorem share_len {t : Tm} (h : t.shp = true) (hk : t.kind = 9) : t.kids.length = 2 := by
  obtain ⟨k, n, l⟩ := t
  have hk : k = 9 := hk
  subst hk
  simp only [Tm.shp, Bool.and_eq_true, Bool.or_eq_true, decide_eq_true_eq] at h
  have := h.1.2
  simp [Tm.arity] at this
  show l.length = 2
  omega
theorem kid_len {t : Tm} (hn : ¬ (t.kids = [] ∧ t.kind ≠ 3)) : ∀ u ∈ t.kids, u.text.length ≤ t.text.length := by
  intro u hu
  have := (texts_len t.kids).2 u hu
  rw [text_mk t, if_neg hn]
  simp
  omega
theorem kid_len' {t u : Tm} (hu : u ∈ t.kids) : u.text.length ≤ t.text.length := kid_len (fun h => by rw [h.1] at hu; cases hu) u hu
theorem ordered_ok : ∀ t, Fit t → t.shp = true → t.text.length ≤ 1099511627776 → K true 60 [tv t] (.pv (.bool (ordT t))) := by
  intro t
  induction t using Tm.indk with
  | h t ih =>
  intro hf hs hb
  obtain ⟨hk, hks⟩ := known_of_shp hs
  have hcl : ∀ u ∈ t.kids, K true 78 [tv u] (.pv (.bool (!ordT u))) := by
    intro u hu
    refine PC_of_vc (cx_ok true) (mixed true) {} Tryd.func78 (by kernel_rfl) rfl rfl (by kernel_rfl) ?_
    repeat (conv => whnf); first|refine IndepAnd (by kernel_rfl) ?_|refine ⟨rfl,?_⟩|refine And.intro (by first|decide|exact trivial|exact ⟨_,rfl,rfl⟩|exact ⟨rfl,trivial⟩|exact ⟨rfl,rfl,trivial⟩) ?_
    conv => whnf
    refine ⟨_, CallVC.pr (ih u hu (hf.kid hu) (hks u hu) (Nat.le_trans (kid_len' hu) hb)) rfl rfl, ?_⟩
    repeat (conv => whnf); first|refine IndepAnd (by kernel_rfl) ?_|refine ⟨rfl,?_⟩|refine And.intro (by first|decide|exact trivial|exact ⟨_,rfl,rfl⟩|exact ⟨rfl,trivial⟩|exact ⟨rfl,rfl,trivial⟩) ?_
    conv => whnf
    exact LEP.refl _
  rw [ordT_eq]
  refine PC_of_vc (cx_ok true) (mixed true) {} Tryd.func60 (by kernel_rfl) rfl rfl (by kernel_rfl) ?_
  repeat (conv => whnf); first|refine IndepAnd (by kernel_rfl) ?_|refine ⟨rfl,?_⟩|refine And.intro (by first|decide|exact trivial|exact ⟨_,rfl,rfl⟩|exact ⟨rfl,trivial⟩|exact ⟨rfl,rfl,trivial⟩) ?_
  conv => whnf
  refine @bool_rec _ _ _ ?_ ?_ <;> intro h1
  · have h1 : t.kind = 9 := of_decide_eq_true h1
    have h2 := share_len hs h1
    have m0 := List.getElem_mem (show 0 < t.kids.length by omega)
    have m1 := List.getElem_mem (show 1 < t.kids.length by omega)
    have g0 : t.kids.getD 0 (.mk 0 [] []) = t.kids[0] := by simp [h2]
    have g1 : t.kids.getD 1 (.mk 0 [] []) = t.kids[1] := by simp [h2]
    rw [g0, g1]
    repeat (conv => whnf); first|refine IndepAnd (by kernel_rfl) ?_|refine ⟨rfl,?_⟩|refine And.intro (by first|decide|exact trivial|exact ⟨_,rfl,rfl⟩|exact ⟨rfl,trivial⟩|exact ⟨rfl,rfl,trivial⟩) ?_
    conv => whnf
    refine ⟨_, tmvs_get (i := 1) (by omega), rfl, rfl, ?_⟩
    repeat (conv => whnf); first|refine IndepAnd (by kernel_rfl) ?_|refine ⟨rfl,?_⟩|refine And.intro (by first|decide|exact trivial|exact ⟨_,rfl,rfl⟩|exact ⟨rfl,trivial⟩|exact ⟨rfl,rfl,trivial⟩) ?_
    conv => whnf
    refine ⟨_, CallVC.pr (text_ok t.kids[1] (hf.kid m1) (hks _ m1) (Nat.le_trans (kid_len' m1) hb)) rfl rfl, ?_⟩
    repeat (conv => whnf); first|refine IndepAnd (by kernel_rfl) ?_|refine ⟨rfl,?_⟩|refine And.intro (by first|decide|exact trivial|exact ⟨_,rfl,rfl⟩|exact ⟨rfl,trivial⟩|exact ⟨rfl,rfl,trivial⟩) ?_
    conv => whnf
    refine ⟨_, tmvs_get (i := 0) (by omega), rfl, rfl, ?_⟩
    repeat (conv => whnf); first|refine IndepAnd (by kernel_rfl) ?_|refine ⟨rfl,?_⟩|refine And.intro (by first|decide|exact trivial|exact ⟨_,rfl,rfl⟩|exact ⟨rfl,trivial⟩|exact ⟨rfl,rfl,trivial⟩) ?_
    conv => whnf
    refine ⟨_, CallVC.pr (text_ok t.kids[0] (hf.kid m0) (hks _ m0) (Nat.le_trans (kid_len' m0) hb)) rfl rfl, ?_⟩
    repeat (conv => whnf); first|refine IndepAnd (by kernel_rfl) ?_|refine ⟨rfl,?_⟩|refine And.intro (by first|decide|exact trivial|exact ⟨_,rfl,rfl⟩|exact ⟨rfl,trivial⟩|exact ⟨rfl,rfl,trivial⟩) ?_
    conv => whnf
    refine @bool_rec _ _ _ ?_ ?_ <;> intro h3
    · repeat (conv => whnf); first|refine IndepAnd (by kernel_rfl) ?_|refine ⟨rfl,?_⟩|refine And.intro (by first|decide|exact trivial|exact ⟨_,rfl,rfl⟩|exact ⟨rfl,trivial⟩|exact ⟨rfl,rfl,trivial⟩) ?_
      conv => whnf
      exact LEP.of (congrArg PV.bool (by rw [h3]; simp [h1]))
    · repeat (conv => whnf); first|refine IndepAnd (by kernel_rfl) ?_|refine ⟨rfl,?_⟩|refine And.intro (by first|decide|exact trivial|exact ⟨_,rfl,rfl⟩|exact ⟨rfl,trivial⟩|exact ⟨rfl,rfl,trivial⟩) ?_
      conv => whnf
      refine ⟨_, CallVC.pr (contains0_ok true _ (fun u => !ordT u) t.kids hf.len hcl) rfl rfl, ?_⟩
      repeat (conv => whnf); first|refine IndepAnd (by kernel_rfl) ?_|refine ⟨rfl,?_⟩|refine And.intro (by first|decide|exact trivial|exact ⟨_,rfl,rfl⟩|exact ⟨rfl,trivial⟩|exact ⟨rfl,rfl,trivial⟩) ?_
      conv => whnf
      exact LEP.of (congrArg PV.bool (by rw [h3]; simp))
  · have h1 : ¬ t.kind = 9 := of_decide_eq_false h1
    repeat (conv => whnf); first|refine IndepAnd (by kernel_rfl) ?_|refine ⟨rfl,?_⟩|refine And.intro (by first|decide|exact trivial|exact ⟨_,rfl,rfl⟩|exact ⟨rfl,trivial⟩|exact ⟨rfl,rfl,trivial⟩) ?_
    conv => whnf
    refine ⟨_, CallVC.pr (contains0_ok true _ (fun u => !ordT u) t.kids hf.len hcl) rfl rfl, ?_⟩
    repeat (conv => whnf); first|refine IndepAnd (by kernel_rfl) ?_|refine ⟨rfl,?_⟩|refine And.intro (by first|decide|exact trivial|exact ⟨_,rfl,rfl⟩|exact ⟨rfl,trivial⟩|exact ⟨rfl,rfl,trivial⟩) ?_
    conv => whnf
    exact LEP.of (congrArg PV.bool (by simp [h1]))
theorem shp_of_shpD : ∀ (t : Tm) (d : Nat), shpD t d = true → t.shp = true := by
  intro t
  induction t using Tm.indk with
  | h t ih =>
  intro d h
  cases d with
  | zero => rw [shpD_zero] at h; cases h
  | succ d =>
    rw [shpD_eq, Bool.and_eq_true, shpDs_any] at h
    have hk : ∀ u ∈ t.kids, u.shp = true := fun u hu => ih u hu d (by
      have := h.2
      simp only [Bool.not_eq_true', List.any_eq_false] at this
      have := this u hu
      simpa using this)
    obtain ⟨k, n, l⟩ := t
    rw [Tm.shp, Bool.and_eq_true]
    exact ⟨h.1, (Tm.shps_iff l).2 hk⟩
def rightT (t : Tm) : Bool := shpD t 60 && ordT t
theorem right_ok (t : Tm) (hf : Fit t) (hb : shpD t 60 = true → t.text.length ≤ 1099511627776) : K true 43 [tv t] (.pv (.bool (rightT t))) := by
  refine PC_of_vc (cx_ok true) (mixed true) {} Tryd.func43 (by kernel_rfl) rfl rfl (by kernel_rfl) ?_
  repeat (conv => whnf); first|refine IndepAnd (by kernel_rfl) ?_|refine ⟨rfl,?_⟩|refine And.intro (by first|decide|exact trivial|exact ⟨_,rfl,rfl⟩|exact ⟨rfl,trivial⟩|exact ⟨rfl,rfl,trivial⟩) ?_
  conv => whnf
  refine ⟨_, CallVC.pr (shape_ok t hf 60 (by decide)) rfl rfl, ?_⟩
  repeat (conv => whnf); first|refine IndepAnd (by kernel_rfl) ?_|refine ⟨rfl,?_⟩|refine And.intro (by first|decide|exact trivial|exact ⟨_,rfl,rfl⟩|exact ⟨rfl,trivial⟩|exact ⟨rfl,rfl,trivial⟩) ?_
  conv => whnf
  refine @bool_rec _ _ _ ?_ ?_ <;> intro h1
  · repeat (conv => whnf); first|refine IndepAnd (by kernel_rfl) ?_|refine ⟨rfl,?_⟩|refine And.intro (by first|decide|exact trivial|exact ⟨_,rfl,rfl⟩|exact ⟨rfl,trivial⟩|exact ⟨rfl,rfl,trivial⟩) ?_
    conv => whnf
    refine ⟨_, CallVC.pr (ordered_ok t hf (shp_of_shpD t 60 h1) (hb h1)) rfl rfl, ?_⟩
    repeat (conv => whnf); first|refine IndepAnd (by kernel_rfl) ?_|refine ⟨rfl,?_⟩|refine And.intro (by first|decide|exact trivial|exact ⟨_,rfl,rfl⟩|exact ⟨rfl,trivial⟩|exact ⟨rfl,rfl,trivial⟩) ?_
    conv => whnf
    exact LEP.of (congrArg PV.bool (by rw [rightT, h1]; rfl))
  · repeat (conv => whnf); first|refine IndepAnd (by kernel_rfl) ?_|refine ⟨rfl,?_⟩|refine And.intro (by first|decide|exact trivial|exact ⟨_,rfl,rfl⟩|exact ⟨rfl,trivial⟩|exact ⟨rfl,rfl,trivial⟩) ?_
    conv => whnf
    exact LEP.of (congrArg PV.bool (by rw [rightT, h1]; rfl))
def txtT (t : Tm) : Bs := if shpD t 60 then t.text else []
theorem Text_ok (t : Tm) (hf : Fit t) (hb : shpD t 60 = true → t.text.length ≤ 1099511627776) : K true 45 [tv t] (.pv (.str (txtT t))) := by
  refine PC_of_vc (cx_ok true) (mixed true) {} Tryd.func45 (by kernel_rfl) rfl rfl (by kernel_rfl) ?_
  repeat (conv => whnf); first|refine IndepAnd (by kernel_rfl) ?_|refine ⟨rfl,?_⟩|refine And.intro (by first|decide|exact trivial|exact ⟨_,rfl,rfl⟩|exact ⟨rfl,trivial⟩|exact ⟨rfl,rfl,trivial⟩) ?_
  conv => whnf
  refine ⟨_, CallVC.pr (shape_ok t hf 60 (by decide)) rfl rfl, ?_⟩
  repeat (conv => whnf); first|refine IndepAnd (by kernel_rfl) ?_|refine ⟨rfl,?_⟩|refine And.intro (by first|decide|exact trivial|exact ⟨_,rfl,rfl⟩|exact ⟨rfl,trivial⟩|exact ⟨rfl,rfl,trivial⟩) ?_
  conv => whnf
  refine @bool_rec _ _ _ ?_ ?_ <;> intro h1
  · have h1 : shpD t 60 = false := by simpa using h1
    repeat (conv => whnf); first|refine IndepAnd (by kernel_rfl) ?_|refine ⟨rfl,?_⟩|refine And.intro (by first|decide|exact trivial|exact ⟨_,rfl,rfl⟩|exact ⟨rfl,trivial⟩|exact ⟨rfl,rfl,trivial⟩) ?_
    conv => whnf
    exact LEP.of (congrArg PV.str (by rw [txtT, if_neg (by rw [h1]; decide)]))
  · have h1 : shpD t 60 = true := by simpa using h1
    repeat (conv => whnf); first|refine IndepAnd (by kernel_rfl) ?_|refine ⟨rfl,?_⟩|refine And.intro (by first|decide|exact trivial|exact ⟨_,rfl,rfl⟩|exact ⟨rfl,trivial⟩|exact ⟨rfl,rfl,trivial⟩) ?_
    conv => whnf
    refine ⟨_, CallVC.pr (text_ok t hf (shp_of_shpD t 60 h1) (hb h1)) rfl rfl, ?_⟩
    repeat (conv => whnf); first|refine IndepAnd (by kernel_rfl) ?_|refine ⟨rfl,?_⟩|refine And.intro (by first|decide|exact trivial|exact ⟨_,rfl,rfl⟩|exact ⟨rfl,trivial⟩|exact ⟨rfl,rfl,trivial⟩) ?_
    conv => whnf
    exact LEP.of (congrArg PV.str (by rw [txtT, if_pos h1]))
def lessT (t u : Tm) : Bool := Op.bytesLess (txtT t) (txtT u)
theorem less_ok (t u : Tm) (hf : Fit t) (hg : Fit u) (hb : shpD t 60 = true → t.text.length ≤ 1099511627776) (hc : shpD u 60 = true → u.text.length ≤ 1099511627776) : K true 49 [tv t, tv u] (.pv (.bool (lessT t u))) := by
  refine PC_of_vc (cx_ok true) (mixed true) {} Tryd.func49 (by kernel_rfl) rfl rfl (by kernel_rfl) ?_
  repeat (conv => whnf); first|refine IndepAnd (by kernel_rfl) ?_|refine ⟨rfl,?_⟩|refine And.intro (by first|decide|exact trivial|exact ⟨_,rfl,rfl⟩|exact ⟨rfl,trivial⟩|exact ⟨rfl,rfl,trivial⟩) ?_
  conv => whnf
  refine ⟨_, CallVC.pr (Text_ok t hf hb) rfl rfl, ?_⟩
  repeat (conv => whnf); first|refine IndepAnd (by kernel_rfl) ?_|refine ⟨rfl,?_⟩|refine And.intro (by first|decide|exact trivial|exact ⟨_,rfl,rfl⟩|exact ⟨rfl,trivial⟩|exact ⟨rfl,rfl,trivial⟩) ?_
  conv => whnf
  refine ⟨_, CallVC.pr (Text_ok u hg hc) rfl rfl, ?_⟩
  repeat (conv => whnf); first|refine IndepAnd (by kernel_rfl) ?_|refine ⟨rfl,?_⟩|refine And.intro (by first|decide|exact trivial|exact ⟨_,rfl,rfl⟩|exact ⟨rfl,trivial⟩|exact ⟨rfl,rfl,trivial⟩) ?_
  conv => whnf
  exact LEP.refl _
def shareT (x y : Tm) : Tm := if lessT y x then .mk 9 [] [y, x] else .mk 9 [] [x, y]
theorem share_ok (x y : Tm) (hf : Fit x) (hg : Fit y) (hb : shpD x 60 = true → x.text.length ≤ 1099511627776) (hc : shpD y 60 = true → y.text.length ≤ 1099511627776) : K true 24 [tv x, tv y] (.pv (TV (shareT x y))) := by
  refine PC_of_vc (cx_ok true) (mixed true) {} Tryd.func24 (by kernel_rfl) rfl rfl (by kernel_rfl) ?_
  repeat (conv => whnf); first|refine IndepAnd (by kernel_rfl) ?_|refine ⟨rfl,?_⟩|refine And.intro (by first|decide|exact trivial|exact ⟨_,rfl,rfl⟩|exact ⟨rfl,trivial⟩|exact ⟨rfl,rfl,trivial⟩) ?_
  conv => whnf
  refine ⟨_, CallVC.pr (less_ok y x hg hf hc hb) rfl rfl, ?_⟩
  repeat (conv => whnf); first|refine IndepAnd (by kernel_rfl) ?_|refine ⟨rfl,?_⟩|refine And.intro (by first|decide|exact trivial|exact ⟨_,rfl,rfl⟩|exact ⟨rfl,trivial⟩|exact ⟨rfl,rfl,trivial⟩) ?_
  conv => whnf
  refine @bool_rec _ _ _ ?_ ?_ <;> intro h1
  · repeat (conv => whnf); first|refine IndepAnd (by kernel_rfl) ?_|refine ⟨rfl,?_⟩|refine And.intro (by first|decide|exact trivial|exact ⟨_,rfl,rfl⟩|exact ⟨rfl,trivial⟩|exact ⟨rfl,rfl,trivial⟩) ?_
    conv => whnf
    refine ⟨_, CallVC.pr (made_ok true 9 [] _ [y, x] (tmvs2 y x) (by simp)) rfl rfl, ?_⟩
    repeat (conv => whnf); first|refine IndepAnd (by kernel_rfl) ?_|refine ⟨rfl,?_⟩|refine And.intro (by first|decide|exact trivial|exact ⟨_,rfl,rfl⟩|exact ⟨rfl,trivial⟩|exact ⟨rfl,rfl,trivial⟩) ?_
    conv => whnf
    exact LEP.of (by rw [shareT, if_pos h1]; rfl)
  · repeat (conv => whnf); first|refine IndepAnd (by kernel_rfl) ?_|refine ⟨rfl,?_⟩|refine And.intro (by first|decide|exact trivial|exact ⟨_,rfl,rfl⟩|exact ⟨rfl,trivial⟩|exact ⟨rfl,rfl,trivial⟩) ?_
    conv => whnf
    refine ⟨_, CallVC.pr (made_ok true 9 [] _ [x, y] (tmvs2 x y) (by simp)) rfl rfl, ?_⟩
    repeat (conv => whnf); first|refine IndepAnd (by kernel_rfl) ?_|refine ⟨rfl,?_⟩|refine And.intro (by first|decide|exact trivial|exact ⟨_,rfl,rfl⟩|exact ⟨rfl,trivial⟩|exact ⟨rfl,rfl,trivial⟩) ?_
    conv => whnf
    exact LEP.of (by rw [shareT, if_neg (by rw [h1]; decide)]; rfl)
end Go.Sl
