/- Contracts of the document's answer for layer 9: all, pub; tests. -/
import Derived.Test.YtpeabfflebgamaaDoorJg
import Derived.Test.YtpeabfflebgamaaDoorJe
import Derived.Test.YtpeabfflebgamaaDoorOh
import Derived.Test.YtpeabfflebgamaaDoorPa
set_option linter.unusedVariables false
set_option linter.unusedSimpArgs false
/- short -/
namespace Go.Sl
open Go Go.Vc Go.Proofs Go.RowKit

theorem pub9_ok (b : Bool) (t : Tm) : K b 68 [tv t] (.pv (TV (pubT t))) := by
  refine PC_of_vc (cx_ok b) (mixed b) {} Tryd.func68 (by kernel_rfl) rfl rfl (by kernel_rfl) ?_
  repeat (conv => whnf); first|refine IndepAnd (by kernel_rfl) ?_|refine ⟨rfl,?_⟩|refine And.intro (by first|decide|exact trivial|exact ⟨_,rfl,rfl⟩|exact ⟨rfl,trivial⟩|exact ⟨rfl,rfl,trivial⟩) ?_
  conv => whnf
  exact LEP.of (mk_eq (tmvs1 t))
/-- Small enough to be looked at. -/
structure Sml (t : Tm) : Prop where
  hf : Fit t
  hw : wt t ≤ 1000000000
  hs : t.size ≤ 10000
theorem Sml.kid {t u : Tm} (h : Sml t) (hu : u ∈ t.kids) : Sml u := ⟨h.hf.kid hu, by have := wts_mem hu; have := wt_eq t; have := h.hw; omega, by have := size_mem hu; have := h.hs; omega⟩
theorem Sml.ok {t : Tm} (h : Sml t) : TmOk t := ⟨h.hf, h.hw⟩
theorem Sml.pub {t x y : Tm} (h : Sml t) (e : t.kids = [x, y]) : Sml (pubT x) ∧ Sml (pubT y) := by
  have hp := size_pub e
  have h1 := h.hs
  exact ⟨⟨(h.ok.pub (x := x) (by rw [e]; simp)).hf, (h.ok.pub (x := x) (by rw [e]; simp)).hw, by omega⟩, ⟨(h.ok.pub (x := y) (by rw [e]; simp)).hf, (h.ok.pub (x := y) (by rw [e]; simp)).hw, by omega⟩⟩
theorem all9_ok (b : Bool) (l some : List Tm) (hl : Okl l) (hf : ∀ u ∈ some, Sml u) (hs : some.length ≤ 9223372036854775807) : K b 67 [lv l, lv some] (.pv (.bool (some.all (mdT l)))) := by
  refine PC_of_vc (cx_ok b) (mixed b) {} Tryd.func67 (by kernel_rfl) rfl rfl (by kernel_rfl) ?_
  repeat (conv => whnf); first|refine IndepAnd (by kernel_rfl) ?_|refine ⟨rfl,?_⟩|refine And.intro (by first|decide|exact trivial|exact ⟨_,rfl,rfl⟩|exact ⟨rfl,trivial⟩|exact ⟨rfl,rfl,trivial⟩) ?_
  conv => whnf
  refine ⟨{ i : Nat // i ≤ some.length ∧ (some.take i).all (mdT l) = true }, fun i => S.of [(0, lv l), (1, lv some), (4, .p (.bool false)), (5, iv i.1)] [], fun i => some.length - i.1, ⟨0, Nat.zero_le _, rfl⟩, ?_, ?_⟩
  · refine Ge.of rfl ?_ ?_
    · repeat (conv => whnf); refine ⟨LE.of rfl, ?_⟩
      trivial
    · repeat (conv => whnf); refine ⟨OLE.of rfl, ?_⟩
      trivial
  rintro ⟨i, hi, ha⟩
  have ha : (some.take i).all (mdT l) = true := ha
  repeat (conv => whnf); first|refine IndepAnd (by kernel_rfl) ?_|refine ⟨rfl,?_⟩|refine And.intro (by first|decide|exact trivial|exact ⟨_,rfl,rfl⟩|exact ⟨rfl,trivial⟩|exact ⟨rfl,rfl,trivial⟩) ?_
  conv => whnf
  refine @bool_rec _ _ _ ?_ ?_ <;> intro h1
  · have hlt : i < some.length := by have := of_decide_eq_true h1; rw [tmvs_length] at this; exact Int.ofNat_lt.1 this
    have hm := List.getElem_mem hlt
    have sm := hf _ hm
    repeat (conv => whnf); first|refine IndepAnd (by kernel_rfl) ?_|refine ⟨rfl,?_⟩|refine And.intro (by first|decide|exact trivial|exact ⟨_,rfl,rfl⟩|exact ⟨rfl,trivial⟩|exact ⟨rfl,rfl,trivial⟩) ?_
    conv => whnf
    refine ⟨Int.natCast_nonneg _, TV some[i], tmvs_getN hlt, rfl, rfl, ?_⟩
    repeat (conv => whnf); first|refine IndepAnd (by kernel_rfl) ?_|refine ⟨rfl,?_⟩|refine And.intro (by first|decide|exact trivial|exact ⟨_,rfl,rfl⟩|exact ⟨rfl,trivial⟩|exact ⟨rfl,rfl,trivial⟩) ?_
    conv => whnf
    refine ⟨_, CallVC.pr (made8_ok b l some[i] hl sm.hf sm.hw sm.hs) rfl rfl, ?_⟩
    repeat (conv => whnf); first|refine IndepAnd (by kernel_rfl) ?_|refine ⟨rfl,?_⟩|refine And.intro (by first|decide|exact trivial|exact ⟨_,rfl,rfl⟩|exact ⟨rfl,trivial⟩|exact ⟨rfl,rfl,trivial⟩) ?_
    conv => whnf
    refine @bool_rec _ _ _ ?_ ?_ <;> intro h2
    · have h2 : mdT l some[i] = false := by have h2 : (!mdT l some[i]) = true := h2; simpa using h2
      have e : some.all (mdT l) = false := by rw [List.all_eq_false]; exact ⟨_, hm, by rw [h2]; decide⟩
      repeat (conv => whnf); first|refine IndepAnd (by kernel_rfl) ?_|refine ⟨rfl,?_⟩|refine And.intro (by first|decide|exact trivial|exact ⟨_,rfl,rfl⟩|exact ⟨rfl,trivial⟩|exact ⟨rfl,rfl,trivial⟩) ?_
      conv => whnf
      exact LEP.of (congrArg PV.bool e.symm)
    · have h2 : mdT l some[i] = true := by have h2 : (!mdT l some[i]) = false := h2; simpa using h2
      repeat (conv => whnf); first|refine IndepAnd (by kernel_rfl) ?_|refine ⟨rfl,?_⟩|refine And.intro (by first|decide|exact trivial|exact ⟨_,rfl,rfl⟩|exact ⟨rfl,trivial⟩|exact ⟨rfl,rfl,trivial⟩) ?_
      conv => whnf
      refine ⟨_, wrapN (n := i + 1) rfl (by omega), ?_⟩
      repeat (conv => whnf); first|refine IndepAnd (by kernel_rfl) ?_|refine ⟨rfl,?_⟩|refine And.intro (by first|decide|exact trivial|exact ⟨_,rfl,rfl⟩|exact ⟨rfl,trivial⟩|exact ⟨rfl,rfl,trivial⟩) ?_
      conv => whnf
      refine ⟨⟨i + 1, hlt, ?_⟩, ?_, by show some.length - (i + 1) < some.length - i; omega⟩
      · rw [List.take_succ_eq_append_getElem hlt, List.all_append, ha]
        simp [h2]
      · refine Ge.of rfl ?_ ?_
        · repeat (conv => whnf); refine ⟨LE.of rfl, ?_⟩
          trivial
        · repeat (conv => whnf); refine ⟨OLE.of rfl, ?_⟩
          trivial
  · have hge : some.take i = some := List.take_of_length_le (by have := of_decide_eq_false h1; rw [tmvs_length] at this; have h5 : ¬ ((i : Int) < some.length) := this; omega)
    rw [hge] at ha
    repeat (conv => whnf); first|refine IndepAnd (by kernel_rfl) ?_|refine ⟨rfl,?_⟩|refine And.intro (by first|decide|exact trivial|exact ⟨_,rfl,rfl⟩|exact ⟨rfl,trivial⟩|exact ⟨rfl,rfl,trivial⟩) ?_
    conv => whnf
    exact LEP.of (congrArg PV.bool ha.symm)
/-- What is known of two frames, seen by the document's answer. -/
structure Seen (V : Vw) (X Y : List Tm) (t : Tm) : Prop where
  x : Okl X
  y : Okl Y
  q0 : ∀ u, gdT u → mkC V.s0 u = mdT X u
  q1 : ∀ u, gdT u → mkC V.s1 u = mdT Y u
  a : decide (txtT t ∈ V.th) = decide (t ∈ X)
theorem one9_ok (b : Bool) (l : List Tm) (x : Tm) (hl : Okl l) (hx : Sml x) : K b 67 [lv l, .p (.lst [TV x])] (.pv (.bool (mdT l x))) := by
  have h := all9_ok b l [x] hl (fun u hu => by rw [List.mem_singleton.1 hu]; exact hx) (by simp)
  rw [show lv [x] = .p (.lst [TV x]) from congrArg (fun l => SV.p (.lst l)) (tmvs1 _).symm] at h
  simpa using h
theorem two9_ok (b : Bool) (l : List Tm) (x y : Tm) (hl : Okl l) (hx : Sml x) (hy : Sml y) : K b 67 [lv l, .p (.lst [TV x, TV y])] (.pv (.bool (mdT l x && mdT l y))) := by
  have h := all9_ok b l [x, y] hl (fun u hu => by
    simp only [List.mem_cons, List.not_mem_nil, or_false] at hu
    rcases hu with rfl | rfl
    · exact hx
    · exact hy) (by simp)
  rw [show lv [x, y] = .p (.lst [TV x, TV y]) from congrArg (fun l => SV.p (.lst l)) (tmvs2 _ _).symm] at h
  simpa using h
end Go.Sl
/- short -/
namespace Go.Sl
open Go Go.Vc Go.Proofs Go.RowKit

set_option maxHeartbeats 1000000 in
theorem test9_ok (b : Bool) (V : Vw) (X Y : List Tm) (t : Tm) (h : Seen V X Y t) (g : gdT t) (s : Sml t) : K b 47 [lv X, lv Y, tv t] (.pv (.bool (tstB V t))) := by
  have hH := has_ok b X t (by have := h.x.len; omega) h.x.fit
  have ha := h.a
  obtain ⟨th, eth⟩ : ∃ v, v = decide (t ∈ X) := ⟨_, rfl⟩
  rw [← eth] at hH ha
  by_cases k4 : t.kind = 4
  · have k4 := k4
    obtain ⟨x, y, e⟩ := kids2 g (.inl k4)
    have hx : x ∈ t.kids := by rw [e]; simp
    have hy : y ∈ t.kids := by rw [e]; simp
    have ek : tmvs t.kids = [TV x, TV y] := by rw [e]; exact (tmvs2 x y).symm
    have gx := gd_kid g hx
    have gy := gd_kid g hy
    have sx := s.kid hx
    have sy := s.kid hy
    have eo : tstB V t = (mdT Y x && !mdT X x) := by
      unfold tstB
      rw [if_pos k4, e]
      simp [gainB, h.q0 x gx, h.q1 x gx]
    have c1 := one9_ok b Y x h.y sx
    have c0 := one9_ok b X x h.x sx
    obtain ⟨v1, e1⟩ : ∃ v, v = mdT Y x := ⟨_, rfl⟩
    obtain ⟨v0, e0⟩ : ∃ v, v = mdT X x := ⟨_, rfl⟩
    rw [← e1] at c1 eo
    rw [← e0] at c0 eo
    refine PC_of_vc (cx_ok b) (mixed b) {} Tryd.func47 (by kernel_rfl) rfl rfl (by kernel_rfl) ?_
    repeat (conv => whnf); first|refine IndepAnd (by kernel_rfl) ?_|refine ⟨rfl,?_⟩|refine And.intro (by first|decide|exact trivial|exact ⟨_,rfl,rfl⟩|exact ⟨rfl,trivial⟩|exact ⟨rfl,rfl,trivial⟩) ?_
    conv => whnf
    refine ⟨_, CallVC.pr hH rfl rfl, ?_⟩
    repeat (conv => whnf); first|refine IndepAnd (by kernel_rfl) ?_|refine ⟨rfl,?_⟩|refine And.intro (by first|decide|exact trivial|exact ⟨_,rfl,rfl⟩|exact ⟨rfl,trivial⟩|exact ⟨rfl,rfl,trivial⟩) ?_
    conv => whnf
    rw [show decide (t.kind = 4) = true from decide_eq_true (by omega)]
    repeat (conv => whnf); first|refine IndepAnd (by kernel_rfl) ?_|refine ⟨rfl,?_⟩|refine And.intro (by first|decide|exact trivial|exact ⟨_,rfl,rfl⟩|exact ⟨rfl,trivial⟩|exact ⟨rfl,rfl,trivial⟩) ?_
    conv => whnf
    refine ⟨TV x, by show (tmvs t.kids)[0]? = _; rw [ek]; rfl, rfl, rfl, ?_⟩
    repeat (conv => whnf); first|refine IndepAnd (by kernel_rfl) ?_|refine ⟨rfl,?_⟩|refine And.intro (by first|decide|exact trivial|exact ⟨_,rfl,rfl⟩|exact ⟨rfl,trivial⟩|exact ⟨rfl,rfl,trivial⟩) ?_
    conv => whnf
    refine ⟨_, CallVC.pr c1 rfl rfl, ?_⟩
    repeat (conv => whnf); first|refine IndepAnd (by kernel_rfl) ?_|refine ⟨rfl,?_⟩|refine And.intro (by first|decide|exact trivial|exact ⟨_,rfl,rfl⟩|exact ⟨rfl,trivial⟩|exact ⟨rfl,rfl,trivial⟩) ?_
    conv => whnf
    cases v1 with
    | true =>
      repeat (conv => whnf); first|refine IndepAnd (by kernel_rfl) ?_|refine ⟨rfl,?_⟩|refine And.intro (by first|decide|exact trivial|exact ⟨_,rfl,rfl⟩|exact ⟨rfl,trivial⟩|exact ⟨rfl,rfl,trivial⟩) ?_
      conv => whnf
      refine ⟨_, CallVC.pr c0 rfl rfl, ?_⟩
      repeat (conv => whnf); first|refine IndepAnd (by kernel_rfl) ?_|refine ⟨rfl,?_⟩|refine And.intro (by first|decide|exact trivial|exact ⟨_,rfl,rfl⟩|exact ⟨rfl,trivial⟩|exact ⟨rfl,rfl,trivial⟩) ?_
      conv => whnf
      exact LEP.of (congrArg PV.bool (by rw [eo]; rfl))
    | false =>
      repeat (conv => whnf); first|refine IndepAnd (by kernel_rfl) ?_|refine ⟨rfl,?_⟩|refine And.intro (by first|decide|exact trivial|exact ⟨_,rfl,rfl⟩|exact ⟨rfl,trivial⟩|exact ⟨rfl,rfl,trivial⟩) ?_
      conv => whnf
      exact LEP.of (congrArg PV.bool (by rw [eo]; rfl))
  by_cases k5 : t.kind = 5 ∨ t.kind = 6 ∨ t.kind = 7 ∨ t.kind = 8
  · have eo : tstB V t = (th && (t.kids.all (mdT Y) && !t.kids.all (mdT X))) := by
      have a0 : t.kids.all (mkC V.s0) = t.kids.all (mdT X) := by
        rw [Bool.eq_iff_iff, List.all_eq_true, List.all_eq_true]
        exact ⟨fun q u hu => by rw [← h.q0 u (gd_kid g hu)]; exact q u hu, fun q u hu => by rw [h.q0 u (gd_kid g hu)]; exact q u hu⟩
      have a1 : t.kids.all (mkC V.s1) = t.kids.all (mdT Y) := by
        rw [Bool.eq_iff_iff, List.all_eq_true, List.all_eq_true]
        exact ⟨fun q u hu => by rw [← h.q1 u (gd_kid g hu)]; exact q u hu, fun q u hu => by rw [h.q1 u (gd_kid g hu)]; exact q u hu⟩
      unfold tstB
      rw [if_neg k4, if_pos k5, partsB, ha]
      simp [gainB, a0, a1]
    have c1 := all9_ok b Y t.kids h.y (fun u hu => s.kid hu) s.hf.len
    have c0 := all9_ok b X t.kids h.x (fun u hu => s.kid hu) s.hf.len
    obtain ⟨v1, e1⟩ : ∃ v, v = t.kids.all (mdT Y) := ⟨_, rfl⟩
    obtain ⟨v0, e0⟩ : ∃ v, v = t.kids.all (mdT X) := ⟨_, rfl⟩
    rw [← e1] at c1 eo
    rw [← e0] at c0 eo
    rcases k5 with k | k | k | k
    · refine PC_of_vc (cx_ok b) (mixed b) {} Tryd.func47 (by kernel_rfl) rfl rfl (by kernel_rfl) ?_
      repeat (conv => whnf); first|refine IndepAnd (by kernel_rfl) ?_|refine ⟨rfl,?_⟩|refine And.intro (by first|decide|exact trivial|exact ⟨_,rfl,rfl⟩|exact ⟨rfl,trivial⟩|exact ⟨rfl,rfl,trivial⟩) ?_
      conv => whnf
      refine ⟨_, CallVC.pr hH rfl rfl, ?_⟩
      repeat (conv => whnf); first|refine IndepAnd (by kernel_rfl) ?_|refine ⟨rfl,?_⟩|refine And.intro (by first|decide|exact trivial|exact ⟨_,rfl,rfl⟩|exact ⟨rfl,trivial⟩|exact ⟨rfl,rfl,trivial⟩) ?_
      conv => whnf
      rw [show decide (t.kind = 4) = false from decide_eq_false (by omega)]
      repeat (conv => whnf); first|refine IndepAnd (by kernel_rfl) ?_|refine ⟨rfl,?_⟩|refine And.intro (by first|decide|exact trivial|exact ⟨_,rfl,rfl⟩|exact ⟨rfl,trivial⟩|exact ⟨rfl,rfl,trivial⟩) ?_
      conv => whnf
      rw [show decide (t.kind = 5) = true from decide_eq_true (by omega)]
      repeat (conv => whnf); first|refine IndepAnd (by kernel_rfl) ?_|refine ⟨rfl,?_⟩|refine And.intro (by first|decide|exact trivial|exact ⟨_,rfl,rfl⟩|exact ⟨rfl,trivial⟩|exact ⟨rfl,rfl,trivial⟩) ?_
      conv => whnf
      cases th with
      | false =>
        repeat (conv => whnf); first|refine IndepAnd (by kernel_rfl) ?_|refine ⟨rfl,?_⟩|refine And.intro (by first|decide|exact trivial|exact ⟨_,rfl,rfl⟩|exact ⟨rfl,trivial⟩|exact ⟨rfl,rfl,trivial⟩) ?_
        conv => whnf
        exact LEP.of (congrArg PV.bool (by rw [eo]; rfl))
      | true =>
        repeat (conv => whnf); first|refine IndepAnd (by kernel_rfl) ?_|refine ⟨rfl,?_⟩|refine And.intro (by first|decide|exact trivial|exact ⟨_,rfl,rfl⟩|exact ⟨rfl,trivial⟩|exact ⟨rfl,rfl,trivial⟩) ?_
        conv => whnf
        refine ⟨_, CallVC.pr c1 rfl rfl, ?_⟩
        repeat (conv => whnf); first|refine IndepAnd (by kernel_rfl) ?_|refine ⟨rfl,?_⟩|refine And.intro (by first|decide|exact trivial|exact ⟨_,rfl,rfl⟩|exact ⟨rfl,trivial⟩|exact ⟨rfl,rfl,trivial⟩) ?_
        conv => whnf
        cases v1 with
        | true =>
          repeat (conv => whnf); first|refine IndepAnd (by kernel_rfl) ?_|refine ⟨rfl,?_⟩|refine And.intro (by first|decide|exact trivial|exact ⟨_,rfl,rfl⟩|exact ⟨rfl,trivial⟩|exact ⟨rfl,rfl,trivial⟩) ?_
          conv => whnf
          refine ⟨_, CallVC.pr c0 rfl rfl, ?_⟩
          repeat (conv => whnf); first|refine IndepAnd (by kernel_rfl) ?_|refine ⟨rfl,?_⟩|refine And.intro (by first|decide|exact trivial|exact ⟨_,rfl,rfl⟩|exact ⟨rfl,trivial⟩|exact ⟨rfl,rfl,trivial⟩) ?_
          conv => whnf
          exact LEP.of (congrArg PV.bool (by rw [eo]; rfl))
        | false =>
          repeat (conv => whnf); first|refine IndepAnd (by kernel_rfl) ?_|refine ⟨rfl,?_⟩|refine And.intro (by first|decide|exact trivial|exact ⟨_,rfl,rfl⟩|exact ⟨rfl,trivial⟩|exact ⟨rfl,rfl,trivial⟩) ?_
          conv => whnf
          exact LEP.of (congrArg PV.bool (by rw [eo]; rfl))
    · refine PC_of_vc (cx_ok b) (mixed b) {} Tryd.func47 (by kernel_rfl) rfl rfl (by kernel_rfl) ?_
      repeat (conv => whnf); first|refine IndepAnd (by kernel_rfl) ?_|refine ⟨rfl,?_⟩|refine And.intro (by first|decide|exact trivial|exact ⟨_,rfl,rfl⟩|exact ⟨rfl,trivial⟩|exact ⟨rfl,rfl,trivial⟩) ?_
      conv => whnf
      refine ⟨_, CallVC.pr hH rfl rfl, ?_⟩
      repeat (conv => whnf); first|refine IndepAnd (by kernel_rfl) ?_|refine ⟨rfl,?_⟩|refine And.intro (by first|decide|exact trivial|exact ⟨_,rfl,rfl⟩|exact ⟨rfl,trivial⟩|exact ⟨rfl,rfl,trivial⟩) ?_
      conv => whnf
      rw [show decide (t.kind = 4) = false from decide_eq_false (by omega)]
      repeat (conv => whnf); first|refine IndepAnd (by kernel_rfl) ?_|refine ⟨rfl,?_⟩|refine And.intro (by first|decide|exact trivial|exact ⟨_,rfl,rfl⟩|exact ⟨rfl,trivial⟩|exact ⟨rfl,rfl,trivial⟩) ?_
      conv => whnf
      rw [show decide (t.kind = 5) = false from decide_eq_false (by omega)]
      repeat (conv => whnf); first|refine IndepAnd (by kernel_rfl) ?_|refine ⟨rfl,?_⟩|refine And.intro (by first|decide|exact trivial|exact ⟨_,rfl,rfl⟩|exact ⟨rfl,trivial⟩|exact ⟨rfl,rfl,trivial⟩) ?_
      conv => whnf
      rw [show decide (t.kind = 6) = true from decide_eq_true (by omega)]
      repeat (conv => whnf); first|refine IndepAnd (by kernel_rfl) ?_|refine ⟨rfl,?_⟩|refine And.intro (by first|decide|exact trivial|exact ⟨_,rfl,rfl⟩|exact ⟨rfl,trivial⟩|exact ⟨rfl,rfl,trivial⟩) ?_
      conv => whnf
      cases th with
      | false =>
        repeat (conv => whnf); first|refine IndepAnd (by kernel_rfl) ?_|refine ⟨rfl,?_⟩|refine And.intro (by first|decide|exact trivial|exact ⟨_,rfl,rfl⟩|exact ⟨rfl,trivial⟩|exact ⟨rfl,rfl,trivial⟩) ?_
        conv => whnf
        exact LEP.of (congrArg PV.bool (by rw [eo]; rfl))
      | true =>
        repeat (conv => whnf); first|refine IndepAnd (by kernel_rfl) ?_|refine ⟨rfl,?_⟩|refine And.intro (by first|decide|exact trivial|exact ⟨_,rfl,rfl⟩|exact ⟨rfl,trivial⟩|exact ⟨rfl,rfl,trivial⟩) ?_
        conv => whnf
        refine ⟨_, CallVC.pr c1 rfl rfl, ?_⟩
        repeat (conv => whnf); first|refine IndepAnd (by kernel_rfl) ?_|refine ⟨rfl,?_⟩|refine And.intro (by first|decide|exact trivial|exact ⟨_,rfl,rfl⟩|exact ⟨rfl,trivial⟩|exact ⟨rfl,rfl,trivial⟩) ?_
        conv => whnf
        cases v1 with
        | true =>
          repeat (conv => whnf); first|refine IndepAnd (by kernel_rfl) ?_|refine ⟨rfl,?_⟩|refine And.intro (by first|decide|exact trivial|exact ⟨_,rfl,rfl⟩|exact ⟨rfl,trivial⟩|exact ⟨rfl,rfl,trivial⟩) ?_
          conv => whnf
          refine ⟨_, CallVC.pr c0 rfl rfl, ?_⟩
          repeat (conv => whnf); first|refine IndepAnd (by kernel_rfl) ?_|refine ⟨rfl,?_⟩|refine And.intro (by first|decide|exact trivial|exact ⟨_,rfl,rfl⟩|exact ⟨rfl,trivial⟩|exact ⟨rfl,rfl,trivial⟩) ?_
          conv => whnf
          exact LEP.of (congrArg PV.bool (by rw [eo]; rfl))
        | false =>
          repeat (conv => whnf); first|refine IndepAnd (by kernel_rfl) ?_|refine ⟨rfl,?_⟩|refine And.intro (by first|decide|exact trivial|exact ⟨_,rfl,rfl⟩|exact ⟨rfl,trivial⟩|exact ⟨rfl,rfl,trivial⟩) ?_
          conv => whnf
          exact LEP.of (congrArg PV.bool (by rw [eo]; rfl))
    · refine PC_of_vc (cx_ok b) (mixed b) {} Tryd.func47 (by kernel_rfl) rfl rfl (by kernel_rfl) ?_
      repeat (conv => whnf); first|refine IndepAnd (by kernel_rfl) ?_|refine ⟨rfl,?_⟩|refine And.intro (by first|decide|exact trivial|exact ⟨_,rfl,rfl⟩|exact ⟨rfl,trivial⟩|exact ⟨rfl,rfl,trivial⟩) ?_
      conv => whnf
      refine ⟨_, CallVC.pr hH rfl rfl, ?_⟩
      repeat (conv => whnf); first|refine IndepAnd (by kernel_rfl) ?_|refine ⟨rfl,?_⟩|refine And.intro (by first|decide|exact trivial|exact ⟨_,rfl,rfl⟩|exact ⟨rfl,trivial⟩|exact ⟨rfl,rfl,trivial⟩) ?_
      conv => whnf
      rw [show decide (t.kind = 4) = false from decide_eq_false (by omega)]
      repeat (conv => whnf); first|refine IndepAnd (by kernel_rfl) ?_|refine ⟨rfl,?_⟩|refine And.intro (by first|decide|exact trivial|exact ⟨_,rfl,rfl⟩|exact ⟨rfl,trivial⟩|exact ⟨rfl,rfl,trivial⟩) ?_
      conv => whnf
      rw [show decide (t.kind = 5) = false from decide_eq_false (by omega)]
      repeat (conv => whnf); first|refine IndepAnd (by kernel_rfl) ?_|refine ⟨rfl,?_⟩|refine And.intro (by first|decide|exact trivial|exact ⟨_,rfl,rfl⟩|exact ⟨rfl,trivial⟩|exact ⟨rfl,rfl,trivial⟩) ?_
      conv => whnf
      rw [show decide (t.kind = 6) = false from decide_eq_false (by omega)]
      repeat (conv => whnf); first|refine IndepAnd (by kernel_rfl) ?_|refine ⟨rfl,?_⟩|refine And.intro (by first|decide|exact trivial|exact ⟨_,rfl,rfl⟩|exact ⟨rfl,trivial⟩|exact ⟨rfl,rfl,trivial⟩) ?_
      conv => whnf
      rw [show decide (t.kind = 7) = true from decide_eq_true (by omega)]
      repeat (conv => whnf); first|refine IndepAnd (by kernel_rfl) ?_|refine ⟨rfl,?_⟩|refine And.intro (by first|decide|exact trivial|exact ⟨_,rfl,rfl⟩|exact ⟨rfl,trivial⟩|exact ⟨rfl,rfl,trivial⟩) ?_
      conv => whnf
      cases th with
      | false =>
        repeat (conv => whnf); first|refine IndepAnd (by kernel_rfl) ?_|refine ⟨rfl,?_⟩|refine And.intro (by first|decide|exact trivial|exact ⟨_,rfl,rfl⟩|exact ⟨rfl,trivial⟩|exact ⟨rfl,rfl,trivial⟩) ?_
        conv => whnf
        exact LEP.of (congrArg PV.bool (by rw [eo]; rfl))
      | true =>
        repeat (conv => whnf); first|refine IndepAnd (by kernel_rfl) ?_|refine ⟨rfl,?_⟩|refine And.intro (by first|decide|exact trivial|exact ⟨_,rfl,rfl⟩|exact ⟨rfl,trivial⟩|exact ⟨rfl,rfl,trivial⟩) ?_
        conv => whnf
        refine ⟨_, CallVC.pr c1 rfl rfl, ?_⟩
        repeat (conv => whnf); first|refine IndepAnd (by kernel_rfl) ?_|refine ⟨rfl,?_⟩|refine And.intro (by first|decide|exact trivial|exact ⟨_,rfl,rfl⟩|exact ⟨rfl,trivial⟩|exact ⟨rfl,rfl,trivial⟩) ?_
        conv => whnf
        cases v1 with
        | true =>
          repeat (conv => whnf); first|refine IndepAnd (by kernel_rfl) ?_|refine ⟨rfl,?_⟩|refine And.intro (by first|decide|exact trivial|exact ⟨_,rfl,rfl⟩|exact ⟨rfl,trivial⟩|exact ⟨rfl,rfl,trivial⟩) ?_
          conv => whnf
          refine ⟨_, CallVC.pr c0 rfl rfl, ?_⟩
          repeat (conv => whnf); first|refine IndepAnd (by kernel_rfl) ?_|refine ⟨rfl,?_⟩|refine And.intro (by first|decide|exact trivial|exact ⟨_,rfl,rfl⟩|exact ⟨rfl,trivial⟩|exact ⟨rfl,rfl,trivial⟩) ?_
          conv => whnf
          exact LEP.of (congrArg PV.bool (by rw [eo]; rfl))
        | false =>
          repeat (conv => whnf); first|refine IndepAnd (by kernel_rfl) ?_|refine ⟨rfl,?_⟩|refine And.intro (by first|decide|exact trivial|exact ⟨_,rfl,rfl⟩|exact ⟨rfl,trivial⟩|exact ⟨rfl,rfl,trivial⟩) ?_
          conv => whnf
          exact LEP.of (congrArg PV.bool (by rw [eo]; rfl))
    · refine PC_of_vc (cx_ok b) (mixed b) {} Tryd.func47 (by kernel_rfl) rfl rfl (by kernel_rfl) ?_
      repeat (conv => whnf); first|refine IndepAnd (by kernel_rfl) ?_|refine ⟨rfl,?_⟩|refine And.intro (by first|decide|exact trivial|exact ⟨_,rfl,rfl⟩|exact ⟨rfl,trivial⟩|exact ⟨rfl,rfl,trivial⟩) ?_
      conv => whnf
      refine ⟨_, CallVC.pr hH rfl rfl, ?_⟩
      repeat (conv => whnf); first|refine IndepAnd (by kernel_rfl) ?_|refine ⟨rfl,?_⟩|refine And.intro (by first|decide|exact trivial|exact ⟨_,rfl,rfl⟩|exact ⟨rfl,trivial⟩|exact ⟨rfl,rfl,trivial⟩) ?_
      conv => whnf
      rw [show decide (t.kind = 4) = false from decide_eq_false (by omega)]
      repeat (conv => whnf); first|refine IndepAnd (by kernel_rfl) ?_|refine ⟨rfl,?_⟩|refine And.intro (by first|decide|exact trivial|exact ⟨_,rfl,rfl⟩|exact ⟨rfl,trivial⟩|exact ⟨rfl,rfl,trivial⟩) ?_
      conv => whnf
      rw [show decide (t.kind = 5) = false from decide_eq_false (by omega)]
      repeat (conv => whnf); first|refine IndepAnd (by kernel_rfl) ?_|refine ⟨rfl,?_⟩|refine And.intro (by first|decide|exact trivial|exact ⟨_,rfl,rfl⟩|exact ⟨rfl,trivial⟩|exact ⟨rfl,rfl,trivial⟩) ?_
      conv => whnf
      rw [show decide (t.kind = 6) = false from decide_eq_false (by omega)]
      repeat (conv => whnf); first|refine IndepAnd (by kernel_rfl) ?_|refine ⟨rfl,?_⟩|refine And.intro (by first|decide|exact trivial|exact ⟨_,rfl,rfl⟩|exact ⟨rfl,trivial⟩|exact ⟨rfl,rfl,trivial⟩) ?_
      conv => whnf
      rw [show decide (t.kind = 7) = false from decide_eq_false (by omega)]
      repeat (conv => whnf); first|refine IndepAnd (by kernel_rfl) ?_|refine ⟨rfl,?_⟩|refine And.intro (by first|decide|exact trivial|exact ⟨_,rfl,rfl⟩|exact ⟨rfl,trivial⟩|exact ⟨rfl,rfl,trivial⟩) ?_
      conv => whnf
      rw [show decide (t.kind = 8) = true from decide_eq_true (by omega)]
      repeat (conv => whnf); first|refine IndepAnd (by kernel_rfl) ?_|refine ⟨rfl,?_⟩|refine And.intro (by first|decide|exact trivial|exact ⟨_,rfl,rfl⟩|exact ⟨rfl,trivial⟩|exact ⟨rfl,rfl,trivial⟩) ?_
      conv => whnf
      cases th with
      | false =>
        repeat (conv => whnf); first|refine IndepAnd (by kernel_rfl) ?_|refine ⟨rfl,?_⟩|refine And.intro (by first|decide|exact trivial|exact ⟨_,rfl,rfl⟩|exact ⟨rfl,trivial⟩|exact ⟨rfl,rfl,trivial⟩) ?_
        conv => whnf
        exact LEP.of (congrArg PV.bool (by rw [eo]; rfl))
      | true =>
        repeat (conv => whnf); first|refine IndepAnd (by kernel_rfl) ?_|refine ⟨rfl,?_⟩|refine And.intro (by first|decide|exact trivial|exact ⟨_,rfl,rfl⟩|exact ⟨rfl,trivial⟩|exact ⟨rfl,rfl,trivial⟩) ?_
        conv => whnf
        refine ⟨_, CallVC.pr c1 rfl rfl, ?_⟩
        repeat (conv => whnf); first|refine IndepAnd (by kernel_rfl) ?_|refine ⟨rfl,?_⟩|refine And.intro (by first|decide|exact trivial|exact ⟨_,rfl,rfl⟩|exact ⟨rfl,trivial⟩|exact ⟨rfl,rfl,trivial⟩) ?_
        conv => whnf
        cases v1 with
        | true =>
          repeat (conv => whnf); first|refine IndepAnd (by kernel_rfl) ?_|refine ⟨rfl,?_⟩|refine And.intro (by first|decide|exact trivial|exact ⟨_,rfl,rfl⟩|exact ⟨rfl,trivial⟩|exact ⟨rfl,rfl,trivial⟩) ?_
          conv => whnf
          refine ⟨_, CallVC.pr c0 rfl rfl, ?_⟩
          repeat (conv => whnf); first|refine IndepAnd (by kernel_rfl) ?_|refine ⟨rfl,?_⟩|refine And.intro (by first|decide|exact trivial|exact ⟨_,rfl,rfl⟩|exact ⟨rfl,trivial⟩|exact ⟨rfl,rfl,trivial⟩) ?_
          conv => whnf
          exact LEP.of (congrArg PV.bool (by rw [eo]; rfl))
        | false =>
          repeat (conv => whnf); first|refine IndepAnd (by kernel_rfl) ?_|refine ⟨rfl,?_⟩|refine And.intro (by first|decide|exact trivial|exact ⟨_,rfl,rfl⟩|exact ⟨rfl,trivial⟩|exact ⟨rfl,rfl,trivial⟩) ?_
          conv => whnf
          exact LEP.of (congrArg PV.bool (by rw [eo]; rfl))
  by_cases k9 : t.kind = 9
  · have k9 := k9
    obtain ⟨x, y, e⟩ := kids2 g (.inr (.inr (.inl k9)))
    have hx : x ∈ t.kids := by rw [e]; simp
    have hy : y ∈ t.kids := by rw [e]; simp
    have ek : tmvs t.kids = [TV x, TV y] := by rw [e]; exact (tmvs2 x y).symm
    have gx := gd_kid g hx
    have gy := gd_kid g hy
    have sx := s.kid hx
    have sy := s.kid hy
    have gp := gd_pub g hx
    have gq := gd_pub g hy
    obtain ⟨sp, sq⟩ := s.pub e
    have eo : tstB V t = (th && ((mdT Y x && mdT Y (pubT y) || mdT Y y && mdT Y (pubT x)) && !(mdT X x && mdT X (pubT y) || mdT X y && mdT X (pubT x)))) := by
      unfold tstB
      rw [if_neg k4, if_neg k5, if_pos k9, e]
      simp only [shareB, ha, gainB, List.any_cons, List.any_nil, List.all_cons, List.all_nil, Bool.and_true, Bool.or_false, h.q0 x gx, h.q0 y gy, h.q0 _ gp, h.q0 _ gq, h.q1 x gx, h.q1 y gy, h.q1 _ gp, h.q1 _ gq]
    have c1 := two9_ok b Y x (pubT y) h.y sx sq
    have c2 := two9_ok b Y y (pubT x) h.y sy sp
    have d1 := two9_ok b X x (pubT y) h.x sx sq
    have d2 := two9_ok b X y (pubT x) h.x sy sp
    obtain ⟨v1, e1⟩ : ∃ v, v = (mdT Y x && mdT Y (pubT y)) := ⟨_, rfl⟩
    obtain ⟨v2, e2⟩ : ∃ v, v = (mdT Y y && mdT Y (pubT x)) := ⟨_, rfl⟩
    obtain ⟨w1, f1⟩ : ∃ v, v = (mdT X x && mdT X (pubT y)) := ⟨_, rfl⟩
    obtain ⟨w2, f2⟩ : ∃ v, v = (mdT X y && mdT X (pubT x)) := ⟨_, rfl⟩
    rw [← e1] at c1 eo
    rw [← e2] at c2 eo
    rw [← f1] at d1 eo
    rw [← f2] at d2 eo
    refine PC_of_vc (cx_ok b) (mixed b) {} Tryd.func47 (by kernel_rfl) rfl rfl (by kernel_rfl) ?_
    repeat (conv => whnf); first|refine IndepAnd (by kernel_rfl) ?_|refine ⟨rfl,?_⟩|refine And.intro (by first|decide|exact trivial|exact ⟨_,rfl,rfl⟩|exact ⟨rfl,trivial⟩|exact ⟨rfl,rfl,trivial⟩) ?_
    conv => whnf
    refine ⟨_, CallVC.pr hH rfl rfl, ?_⟩
    repeat (conv => whnf); first|refine IndepAnd (by kernel_rfl) ?_|refine ⟨rfl,?_⟩|refine And.intro (by first|decide|exact trivial|exact ⟨_,rfl,rfl⟩|exact ⟨rfl,trivial⟩|exact ⟨rfl,rfl,trivial⟩) ?_
    conv => whnf
    rw [show decide (t.kind = 4) = false from decide_eq_false (by omega)]
    repeat (conv => whnf); first|refine IndepAnd (by kernel_rfl) ?_|refine ⟨rfl,?_⟩|refine And.intro (by first|decide|exact trivial|exact ⟨_,rfl,rfl⟩|exact ⟨rfl,trivial⟩|exact ⟨rfl,rfl,trivial⟩) ?_
    conv => whnf
    rw [show decide (t.kind = 5) = false from decide_eq_false (by omega)]
    repeat (conv => whnf); first|refine IndepAnd (by kernel_rfl) ?_|refine ⟨rfl,?_⟩|refine And.intro (by first|decide|exact trivial|exact ⟨_,rfl,rfl⟩|exact ⟨rfl,trivial⟩|exact ⟨rfl,rfl,trivial⟩) ?_
    conv => whnf
    rw [show decide (t.kind = 6) = false from decide_eq_false (by omega)]
    repeat (conv => whnf); first|refine IndepAnd (by kernel_rfl) ?_|refine ⟨rfl,?_⟩|refine And.intro (by first|decide|exact trivial|exact ⟨_,rfl,rfl⟩|exact ⟨rfl,trivial⟩|exact ⟨rfl,rfl,trivial⟩) ?_
    conv => whnf
    rw [show decide (t.kind = 7) = false from decide_eq_false (by omega)]
    repeat (conv => whnf); first|refine IndepAnd (by kernel_rfl) ?_|refine ⟨rfl,?_⟩|refine And.intro (by first|decide|exact trivial|exact ⟨_,rfl,rfl⟩|exact ⟨rfl,trivial⟩|exact ⟨rfl,rfl,trivial⟩) ?_
    conv => whnf
    rw [show decide (t.kind = 8) = false from decide_eq_false (by omega)]
    repeat (conv => whnf); first|refine IndepAnd (by kernel_rfl) ?_|refine ⟨rfl,?_⟩|refine And.intro (by first|decide|exact trivial|exact ⟨_,rfl,rfl⟩|exact ⟨rfl,trivial⟩|exact ⟨rfl,rfl,trivial⟩) ?_
    conv => whnf
    rw [show decide (t.kind = 9) = true from decide_eq_true (by omega)]
    repeat (conv => whnf); first|refine IndepAnd (by kernel_rfl) ?_|refine ⟨rfl,?_⟩|refine And.intro (by first|decide|exact trivial|exact ⟨_,rfl,rfl⟩|exact ⟨rfl,trivial⟩|exact ⟨rfl,rfl,trivial⟩) ?_
    conv => whnf
    refine ⟨TV x, by show (tmvs t.kids)[0]? = _; rw [ek]; rfl, rfl, rfl, ?_⟩
    repeat (conv => whnf); first|refine IndepAnd (by kernel_rfl) ?_|refine ⟨rfl,?_⟩|refine And.intro (by first|decide|exact trivial|exact ⟨_,rfl,rfl⟩|exact ⟨rfl,trivial⟩|exact ⟨rfl,rfl,trivial⟩) ?_
    conv => whnf
    refine ⟨TV y, by show (tmvs t.kids)[1]? = _; rw [ek]; rfl, rfl, rfl, ?_⟩
    repeat (conv => whnf); first|refine IndepAnd (by kernel_rfl) ?_|refine ⟨rfl,?_⟩|refine And.intro (by first|decide|exact trivial|exact ⟨_,rfl,rfl⟩|exact ⟨rfl,trivial⟩|exact ⟨rfl,rfl,trivial⟩) ?_
    conv => whnf
    refine ⟨_, CallVC.pr (pub9_ok b y) rfl rfl, ?_⟩
    repeat (conv => whnf); first|refine IndepAnd (by kernel_rfl) ?_|refine ⟨rfl,?_⟩|refine And.intro (by first|decide|exact trivial|exact ⟨_,rfl,rfl⟩|exact ⟨rfl,trivial⟩|exact ⟨rfl,rfl,trivial⟩) ?_
    conv => whnf
    refine ⟨TV y, by show (tmvs t.kids)[1]? = _; rw [ek]; rfl, rfl, rfl, ?_⟩
    repeat (conv => whnf); first|refine IndepAnd (by kernel_rfl) ?_|refine ⟨rfl,?_⟩|refine And.intro (by first|decide|exact trivial|exact ⟨_,rfl,rfl⟩|exact ⟨rfl,trivial⟩|exact ⟨rfl,rfl,trivial⟩) ?_
    conv => whnf
    refine ⟨TV x, by show (tmvs t.kids)[0]? = _; rw [ek]; rfl, rfl, rfl, ?_⟩
    repeat (conv => whnf); first|refine IndepAnd (by kernel_rfl) ?_|refine ⟨rfl,?_⟩|refine And.intro (by first|decide|exact trivial|exact ⟨_,rfl,rfl⟩|exact ⟨rfl,trivial⟩|exact ⟨rfl,rfl,trivial⟩) ?_
    conv => whnf
    refine ⟨_, CallVC.pr (pub9_ok b x) rfl rfl, ?_⟩
    repeat (conv => whnf); first|refine IndepAnd (by kernel_rfl) ?_|refine ⟨rfl,?_⟩|refine And.intro (by first|decide|exact trivial|exact ⟨_,rfl,rfl⟩|exact ⟨rfl,trivial⟩|exact ⟨rfl,rfl,trivial⟩) ?_
    conv => whnf
    refine ⟨_, CallVC.pr c1 rfl rfl, ?_⟩
    repeat (conv => whnf); first|refine IndepAnd (by kernel_rfl) ?_|refine ⟨rfl,?_⟩|refine And.intro (by first|decide|exact trivial|exact ⟨_,rfl,rfl⟩|exact ⟨rfl,trivial⟩|exact ⟨rfl,rfl,trivial⟩) ?_
    conv => whnf
    cases v1 with
    | true =>
      repeat (conv => whnf); first|refine IndepAnd (by kernel_rfl) ?_|refine ⟨rfl,?_⟩|refine And.intro (by first|decide|exact trivial|exact ⟨_,rfl,rfl⟩|exact ⟨rfl,trivial⟩|exact ⟨rfl,rfl,trivial⟩) ?_
      conv => whnf
      refine ⟨_, CallVC.pr d1 rfl rfl, ?_⟩
      repeat (conv => whnf); first|refine IndepAnd (by kernel_rfl) ?_|refine ⟨rfl,?_⟩|refine And.intro (by first|decide|exact trivial|exact ⟨_,rfl,rfl⟩|exact ⟨rfl,trivial⟩|exact ⟨rfl,rfl,trivial⟩) ?_
      conv => whnf
      cases w1 with
      | true =>
        repeat (conv => whnf); first|refine IndepAnd (by kernel_rfl) ?_|refine ⟨rfl,?_⟩|refine And.intro (by first|decide|exact trivial|exact ⟨_,rfl,rfl⟩|exact ⟨rfl,trivial⟩|exact ⟨rfl,rfl,trivial⟩) ?_
        conv => whnf
        cases th with
        | false =>
          repeat (conv => whnf); first|refine IndepAnd (by kernel_rfl) ?_|refine ⟨rfl,?_⟩|refine And.intro (by first|decide|exact trivial|exact ⟨_,rfl,rfl⟩|exact ⟨rfl,trivial⟩|exact ⟨rfl,rfl,trivial⟩) ?_
          conv => whnf
          exact LEP.of (congrArg PV.bool (by rw [eo]; rfl))
        | true =>
          repeat (conv => whnf); first|refine IndepAnd (by kernel_rfl) ?_|refine ⟨rfl,?_⟩|refine And.intro (by first|decide|exact trivial|exact ⟨_,rfl,rfl⟩|exact ⟨rfl,trivial⟩|exact ⟨rfl,rfl,trivial⟩) ?_
          conv => whnf
          exact LEP.of (congrArg PV.bool (by rw [eo]; rfl))
      | false =>
        repeat (conv => whnf); first|refine IndepAnd (by kernel_rfl) ?_|refine ⟨rfl,?_⟩|refine And.intro (by first|decide|exact trivial|exact ⟨_,rfl,rfl⟩|exact ⟨rfl,trivial⟩|exact ⟨rfl,rfl,trivial⟩) ?_
        conv => whnf
        refine ⟨_, CallVC.pr d2 rfl rfl, ?_⟩
        repeat (conv => whnf); first|refine IndepAnd (by kernel_rfl) ?_|refine ⟨rfl,?_⟩|refine And.intro (by first|decide|exact trivial|exact ⟨_,rfl,rfl⟩|exact ⟨rfl,trivial⟩|exact ⟨rfl,rfl,trivial⟩) ?_
        conv => whnf
        cases th with
        | false =>
          repeat (conv => whnf); first|refine IndepAnd (by kernel_rfl) ?_|refine ⟨rfl,?_⟩|refine And.intro (by first|decide|exact trivial|exact ⟨_,rfl,rfl⟩|exact ⟨rfl,trivial⟩|exact ⟨rfl,rfl,trivial⟩) ?_
          conv => whnf
          exact LEP.of (congrArg PV.bool (by rw [eo]; rfl))
        | true =>
          repeat (conv => whnf); first|refine IndepAnd (by kernel_rfl) ?_|refine ⟨rfl,?_⟩|refine And.intro (by first|decide|exact trivial|exact ⟨_,rfl,rfl⟩|exact ⟨rfl,trivial⟩|exact ⟨rfl,rfl,trivial⟩) ?_
          conv => whnf
          exact LEP.of (congrArg PV.bool (by rw [eo]; rfl))
    | false =>
      repeat (conv => whnf); first|refine IndepAnd (by kernel_rfl) ?_|refine ⟨rfl,?_⟩|refine And.intro (by first|decide|exact trivial|exact ⟨_,rfl,rfl⟩|exact ⟨rfl,trivial⟩|exact ⟨rfl,rfl,trivial⟩) ?_
      conv => whnf
      refine ⟨_, CallVC.pr c2 rfl rfl, ?_⟩
      repeat (conv => whnf); first|refine IndepAnd (by kernel_rfl) ?_|refine ⟨rfl,?_⟩|refine And.intro (by first|decide|exact trivial|exact ⟨_,rfl,rfl⟩|exact ⟨rfl,trivial⟩|exact ⟨rfl,rfl,trivial⟩) ?_
      conv => whnf
      refine ⟨_, CallVC.pr d1 rfl rfl, ?_⟩
      repeat (conv => whnf); first|refine IndepAnd (by kernel_rfl) ?_|refine ⟨rfl,?_⟩|refine And.intro (by first|decide|exact trivial|exact ⟨_,rfl,rfl⟩|exact ⟨rfl,trivial⟩|exact ⟨rfl,rfl,trivial⟩) ?_
      conv => whnf
      cases w1 with
      | true =>
        repeat (conv => whnf); first|refine IndepAnd (by kernel_rfl) ?_|refine ⟨rfl,?_⟩|refine And.intro (by first|decide|exact trivial|exact ⟨_,rfl,rfl⟩|exact ⟨rfl,trivial⟩|exact ⟨rfl,rfl,trivial⟩) ?_
        conv => whnf
        cases th with
        | false =>
          repeat (conv => whnf); first|refine IndepAnd (by kernel_rfl) ?_|refine ⟨rfl,?_⟩|refine And.intro (by first|decide|exact trivial|exact ⟨_,rfl,rfl⟩|exact ⟨rfl,trivial⟩|exact ⟨rfl,rfl,trivial⟩) ?_
          conv => whnf
          exact LEP.of (congrArg PV.bool (by rw [eo]; rfl))
        | true =>
          cases v2 with
          | true =>
            repeat (conv => whnf); first|refine IndepAnd (by kernel_rfl) ?_|refine ⟨rfl,?_⟩|refine And.intro (by first|decide|exact trivial|exact ⟨_,rfl,rfl⟩|exact ⟨rfl,trivial⟩|exact ⟨rfl,rfl,trivial⟩) ?_
            conv => whnf
            exact LEP.of (congrArg PV.bool (by rw [eo]; rfl))
          | false =>
            repeat (conv => whnf); first|refine IndepAnd (by kernel_rfl) ?_|refine ⟨rfl,?_⟩|refine And.intro (by first|decide|exact trivial|exact ⟨_,rfl,rfl⟩|exact ⟨rfl,trivial⟩|exact ⟨rfl,rfl,trivial⟩) ?_
            conv => whnf
            exact LEP.of (congrArg PV.bool (by rw [eo]; rfl))
      | false =>
        repeat (conv => whnf); first|refine IndepAnd (by kernel_rfl) ?_|refine ⟨rfl,?_⟩|refine And.intro (by first|decide|exact trivial|exact ⟨_,rfl,rfl⟩|exact ⟨rfl,trivial⟩|exact ⟨rfl,rfl,trivial⟩) ?_
        conv => whnf
        refine ⟨_, CallVC.pr d2 rfl rfl, ?_⟩
        repeat (conv => whnf); first|refine IndepAnd (by kernel_rfl) ?_|refine ⟨rfl,?_⟩|refine And.intro (by first|decide|exact trivial|exact ⟨_,rfl,rfl⟩|exact ⟨rfl,trivial⟩|exact ⟨rfl,rfl,trivial⟩) ?_
        conv => whnf
        cases th with
        | false =>
          repeat (conv => whnf); first|refine IndepAnd (by kernel_rfl) ?_|refine ⟨rfl,?_⟩|refine And.intro (by first|decide|exact trivial|exact ⟨_,rfl,rfl⟩|exact ⟨rfl,trivial⟩|exact ⟨rfl,rfl,trivial⟩) ?_
          conv => whnf
          exact LEP.of (congrArg PV.bool (by rw [eo]; rfl))
        | true =>
          cases v2 with
          | true =>
            repeat (conv => whnf); first|refine IndepAnd (by kernel_rfl) ?_|refine ⟨rfl,?_⟩|refine And.intro (by first|decide|exact trivial|exact ⟨_,rfl,rfl⟩|exact ⟨rfl,trivial⟩|exact ⟨rfl,rfl,trivial⟩) ?_
            conv => whnf
            exact LEP.of (congrArg PV.bool (by rw [eo]; rfl))
          | false =>
            repeat (conv => whnf); first|refine IndepAnd (by kernel_rfl) ?_|refine ⟨rfl,?_⟩|refine And.intro (by first|decide|exact trivial|exact ⟨_,rfl,rfl⟩|exact ⟨rfl,trivial⟩|exact ⟨rfl,rfl,trivial⟩) ?_
            conv => whnf
            exact LEP.of (congrArg PV.bool (by rw [eo]; rfl))
  by_cases k10 : t.kind = 10
  · have k10 := k10
    obtain ⟨x, y, e⟩ := kids2 g (.inr (.inr (.inr k10)))
    have hx : x ∈ t.kids := by rw [e]; simp
    have hy : y ∈ t.kids := by rw [e]; simp
    have ek : tmvs t.kids = [TV x, TV y] := by rw [e]; exact (tmvs2 x y).symm
    have gx := gd_kid g hx
    have gy := gd_kid g hy
    have sx := s.kid hx
    have sy := s.kid hy
    have eo : tstB V t = (th && (mdT X x && (mdT Y y && !mdT X y))) := by
      unfold tstB
      rw [if_neg k4, if_neg k5, if_neg k9, if_pos k10, e]
      simp [maskB, ha, gainB, h.q0 x gx, h.q0 y gy, h.q1 y gy]
    have c1 := one9_ok b X x h.x sx
    have c2 := one9_ok b Y y h.y sy
    have c3 := one9_ok b X y h.x sy
    obtain ⟨v1, e1⟩ : ∃ v, v = mdT X x := ⟨_, rfl⟩
    obtain ⟨v2, e2⟩ : ∃ v, v = mdT Y y := ⟨_, rfl⟩
    obtain ⟨v3, e3⟩ : ∃ v, v = mdT X y := ⟨_, rfl⟩
    rw [← e1] at c1 eo
    rw [← e2] at c2 eo
    rw [← e3] at c3 eo
    refine PC_of_vc (cx_ok b) (mixed b) {} Tryd.func47 (by kernel_rfl) rfl rfl (by kernel_rfl) ?_
    repeat (conv => whnf); first|refine IndepAnd (by kernel_rfl) ?_|refine ⟨rfl,?_⟩|refine And.intro (by first|decide|exact trivial|exact ⟨_,rfl,rfl⟩|exact ⟨rfl,trivial⟩|exact ⟨rfl,rfl,trivial⟩) ?_
    conv => whnf
    refine ⟨_, CallVC.pr hH rfl rfl, ?_⟩
    repeat (conv => whnf); first|refine IndepAnd (by kernel_rfl) ?_|refine ⟨rfl,?_⟩|refine And.intro (by first|decide|exact trivial|exact ⟨_,rfl,rfl⟩|exact ⟨rfl,trivial⟩|exact ⟨rfl,rfl,trivial⟩) ?_
    conv => whnf
    rw [show decide (t.kind = 4) = false from decide_eq_false (by omega)]
    repeat (conv => whnf); first|refine IndepAnd (by kernel_rfl) ?_|refine ⟨rfl,?_⟩|refine And.intro (by first|decide|exact trivial|exact ⟨_,rfl,rfl⟩|exact ⟨rfl,trivial⟩|exact ⟨rfl,rfl,trivial⟩) ?_
    conv => whnf
    rw [show decide (t.kind = 5) = false from decide_eq_false (by omega)]
    repeat (conv => whnf); first|refine IndepAnd (by kernel_rfl) ?_|refine ⟨rfl,?_⟩|refine And.intro (by first|decide|exact trivial|exact ⟨_,rfl,rfl⟩|exact ⟨rfl,trivial⟩|exact ⟨rfl,rfl,trivial⟩) ?_
    conv => whnf
    rw [show decide (t.kind = 6) = false from decide_eq_false (by omega)]
    repeat (conv => whnf); first|refine IndepAnd (by kernel_rfl) ?_|refine ⟨rfl,?_⟩|refine And.intro (by first|decide|exact trivial|exact ⟨_,rfl,rfl⟩|exact ⟨rfl,trivial⟩|exact ⟨rfl,rfl,trivial⟩) ?_
    conv => whnf
    rw [show decide (t.kind = 7) = false from decide_eq_false (by omega)]
    repeat (conv => whnf); first|refine IndepAnd (by kernel_rfl) ?_|refine ⟨rfl,?_⟩|refine And.intro (by first|decide|exact trivial|exact ⟨_,rfl,rfl⟩|exact ⟨rfl,trivial⟩|exact ⟨rfl,rfl,trivial⟩) ?_
    conv => whnf
    rw [show decide (t.kind = 8) = false from decide_eq_false (by omega)]
    repeat (conv => whnf); first|refine IndepAnd (by kernel_rfl) ?_|refine ⟨rfl,?_⟩|refine And.intro (by first|decide|exact trivial|exact ⟨_,rfl,rfl⟩|exact ⟨rfl,trivial⟩|exact ⟨rfl,rfl,trivial⟩) ?_
    conv => whnf
    rw [show decide (t.kind = 9) = false from decide_eq_false (by omega)]
    repeat (conv => whnf); first|refine IndepAnd (by kernel_rfl) ?_|refine ⟨rfl,?_⟩|refine And.intro (by first|decide|exact trivial|exact ⟨_,rfl,rfl⟩|exact ⟨rfl,trivial⟩|exact ⟨rfl,rfl,trivial⟩) ?_
    conv => whnf
    rw [show decide (t.kind = 10) = true from decide_eq_true (by omega)]
    repeat (conv => whnf); first|refine IndepAnd (by kernel_rfl) ?_|refine ⟨rfl,?_⟩|refine And.intro (by first|decide|exact trivial|exact ⟨_,rfl,rfl⟩|exact ⟨rfl,trivial⟩|exact ⟨rfl,rfl,trivial⟩) ?_
    conv => whnf
    refine ⟨TV x, by show (tmvs t.kids)[0]? = _; rw [ek]; rfl, rfl, rfl, ?_⟩
    repeat (conv => whnf); first|refine IndepAnd (by kernel_rfl) ?_|refine ⟨rfl,?_⟩|refine And.intro (by first|decide|exact trivial|exact ⟨_,rfl,rfl⟩|exact ⟨rfl,trivial⟩|exact ⟨rfl,rfl,trivial⟩) ?_
    conv => whnf
    refine ⟨TV y, by show (tmvs t.kids)[1]? = _; rw [ek]; rfl, rfl, rfl, ?_⟩
    repeat (conv => whnf); first|refine IndepAnd (by kernel_rfl) ?_|refine ⟨rfl,?_⟩|refine And.intro (by first|decide|exact trivial|exact ⟨_,rfl,rfl⟩|exact ⟨rfl,trivial⟩|exact ⟨rfl,rfl,trivial⟩) ?_
    conv => whnf
    cases th with
    | false =>
      repeat (conv => whnf); first|refine IndepAnd (by kernel_rfl) ?_|refine ⟨rfl,?_⟩|refine And.intro (by first|decide|exact trivial|exact ⟨_,rfl,rfl⟩|exact ⟨rfl,trivial⟩|exact ⟨rfl,rfl,trivial⟩) ?_
      conv => whnf
      exact LEP.of (congrArg PV.bool (by rw [eo]; rfl))
    | true =>
      repeat (conv => whnf); first|refine IndepAnd (by kernel_rfl) ?_|refine ⟨rfl,?_⟩|refine And.intro (by first|decide|exact trivial|exact ⟨_,rfl,rfl⟩|exact ⟨rfl,trivial⟩|exact ⟨rfl,rfl,trivial⟩) ?_
      conv => whnf
      refine ⟨_, CallVC.pr c1 rfl rfl, ?_⟩
      repeat (conv => whnf); first|refine IndepAnd (by kernel_rfl) ?_|refine ⟨rfl,?_⟩|refine And.intro (by first|decide|exact trivial|exact ⟨_,rfl,rfl⟩|exact ⟨rfl,trivial⟩|exact ⟨rfl,rfl,trivial⟩) ?_
      conv => whnf
      cases v1 with
      | false =>
        repeat (conv => whnf); first|refine IndepAnd (by kernel_rfl) ?_|refine ⟨rfl,?_⟩|refine And.intro (by first|decide|exact trivial|exact ⟨_,rfl,rfl⟩|exact ⟨rfl,trivial⟩|exact ⟨rfl,rfl,trivial⟩) ?_
        conv => whnf
        exact LEP.of (congrArg PV.bool (by rw [eo]; rfl))
      | true =>
        repeat (conv => whnf); first|refine IndepAnd (by kernel_rfl) ?_|refine ⟨rfl,?_⟩|refine And.intro (by first|decide|exact trivial|exact ⟨_,rfl,rfl⟩|exact ⟨rfl,trivial⟩|exact ⟨rfl,rfl,trivial⟩) ?_
        conv => whnf
        refine ⟨_, CallVC.pr c2 rfl rfl, ?_⟩
        repeat (conv => whnf); first|refine IndepAnd (by kernel_rfl) ?_|refine ⟨rfl,?_⟩|refine And.intro (by first|decide|exact trivial|exact ⟨_,rfl,rfl⟩|exact ⟨rfl,trivial⟩|exact ⟨rfl,rfl,trivial⟩) ?_
        conv => whnf
        cases v2 with
        | false =>
          repeat (conv => whnf); first|refine IndepAnd (by kernel_rfl) ?_|refine ⟨rfl,?_⟩|refine And.intro (by first|decide|exact trivial|exact ⟨_,rfl,rfl⟩|exact ⟨rfl,trivial⟩|exact ⟨rfl,rfl,trivial⟩) ?_
          conv => whnf
          exact LEP.of (congrArg PV.bool (by rw [eo]; rfl))
        | true =>
          repeat (conv => whnf); first|refine IndepAnd (by kernel_rfl) ?_|refine ⟨rfl,?_⟩|refine And.intro (by first|decide|exact trivial|exact ⟨_,rfl,rfl⟩|exact ⟨rfl,trivial⟩|exact ⟨rfl,rfl,trivial⟩) ?_
          conv => whnf
          refine ⟨_, CallVC.pr c3 rfl rfl, ?_⟩
          repeat (conv => whnf); first|refine IndepAnd (by kernel_rfl) ?_|refine ⟨rfl,?_⟩|refine And.intro (by first|decide|exact trivial|exact ⟨_,rfl,rfl⟩|exact ⟨rfl,trivial⟩|exact ⟨rfl,rfl,trivial⟩) ?_
          conv => whnf
          exact LEP.of (congrArg PV.bool (by rw [eo]; rfl))
  · have eo : tstB V t = false := by unfold tstB; rw [if_neg k4, if_neg k5, if_neg k9, if_neg k10]
    refine PC_of_vc (cx_ok b) (mixed b) {} Tryd.func47 (by kernel_rfl) rfl rfl (by kernel_rfl) ?_
    repeat (conv => whnf); first|refine IndepAnd (by kernel_rfl) ?_|refine ⟨rfl,?_⟩|refine And.intro (by first|decide|exact trivial|exact ⟨_,rfl,rfl⟩|exact ⟨rfl,trivial⟩|exact ⟨rfl,rfl,trivial⟩) ?_
    conv => whnf
    refine ⟨_, CallVC.pr hH rfl rfl, ?_⟩
    repeat (conv => whnf); first|refine IndepAnd (by kernel_rfl) ?_|refine ⟨rfl,?_⟩|refine And.intro (by first|decide|exact trivial|exact ⟨_,rfl,rfl⟩|exact ⟨rfl,trivial⟩|exact ⟨rfl,rfl,trivial⟩) ?_
    conv => whnf
    rw [show decide (t.kind = 4) = false from decide_eq_false (by omega)]
    repeat (conv => whnf); first|refine IndepAnd (by kernel_rfl) ?_|refine ⟨rfl,?_⟩|refine And.intro (by first|decide|exact trivial|exact ⟨_,rfl,rfl⟩|exact ⟨rfl,trivial⟩|exact ⟨rfl,rfl,trivial⟩) ?_
    conv => whnf
    rw [show decide (t.kind = 5) = false from decide_eq_false (by omega)]
    repeat (conv => whnf); first|refine IndepAnd (by kernel_rfl) ?_|refine ⟨rfl,?_⟩|refine And.intro (by first|decide|exact trivial|exact ⟨_,rfl,rfl⟩|exact ⟨rfl,trivial⟩|exact ⟨rfl,rfl,trivial⟩) ?_
    conv => whnf
    rw [show decide (t.kind = 6) = false from decide_eq_false (by omega)]
    repeat (conv => whnf); first|refine IndepAnd (by kernel_rfl) ?_|refine ⟨rfl,?_⟩|refine And.intro (by first|decide|exact trivial|exact ⟨_,rfl,rfl⟩|exact ⟨rfl,trivial⟩|exact ⟨rfl,rfl,trivial⟩) ?_
    conv => whnf
    rw [show decide (t.kind = 7) = false from decide_eq_false (by omega)]
    repeat (conv => whnf); first|refine IndepAnd (by kernel_rfl) ?_|refine ⟨rfl,?_⟩|refine And.intro (by first|decide|exact trivial|exact ⟨_,rfl,rfl⟩|exact ⟨rfl,trivial⟩|exact ⟨rfl,rfl,trivial⟩) ?_
    conv => whnf
    rw [show decide (t.kind = 8) = false from decide_eq_false (by omega)]
    repeat (conv => whnf); first|refine IndepAnd (by kernel_rfl) ?_|refine ⟨rfl,?_⟩|refine And.intro (by first|decide|exact trivial|exact ⟨_,rfl,rfl⟩|exact ⟨rfl,trivial⟩|exact ⟨rfl,rfl,trivial⟩) ?_
    conv => whnf
    rw [show decide (t.kind = 9) = false from decide_eq_false (by omega)]
    repeat (conv => whnf); first|refine IndepAnd (by kernel_rfl) ?_|refine ⟨rfl,?_⟩|refine And.intro (by first|decide|exact trivial|exact ⟨_,rfl,rfl⟩|exact ⟨rfl,trivial⟩|exact ⟨rfl,rfl,trivial⟩) ?_
    conv => whnf
    rw [show decide (t.kind = 10) = false from decide_eq_false (by omega)]
    repeat (conv => whnf); first|refine IndepAnd (by kernel_rfl) ?_|refine ⟨rfl,?_⟩|refine And.intro (by first|decide|exact trivial|exact ⟨_,rfl,rfl⟩|exact ⟨rfl,trivial⟩|exact ⟨rfl,rfl,trivial⟩) ?_
    conv => whnf
    exact LEP.of (congrArg PV.bool eo.symm)
end Go.Sl
/- short -/
namespace Go.Sl
open Go Go.Vc Go.Proofs Go.RowKit

theorem seen9 {l : List Tm} {s : Tm} (h : FrmS l s) {t : Tm} (g : gdT t) : Seen (vwT l (canT s)) (anT l) (anT (l ++ [canT s])) t := by
  refine ⟨an_okl h.f0, an_okl h.f1, fun u hu => ?_, fun u hu => ?_, ?_⟩
  · rw [mdT_an h.f0, Bool.eq_iff_iff, knT_iff, hu.2]
    exact mkC_iff h.f0 hu
  · rw [mdT_an h.f1, Bool.eq_iff_iff, knT_iff, hu.2]
    exact mkC_iff h.f1 hu
  · rw [Bool.eq_iff_iff, decide_eq_true_iff, decide_eq_true_iff]
    exact mem_txt (fun u hu => (an_gd h.f0 u hu).1) g.1
theorem an_sml {l : List Tm} (h : Frm l) {t : Tm} (ht : t ∈ anT l) : Sml t := by
  have h1 := univ_size (h.wk.sub t ht)
  have h2 := h.sz
  exact ⟨h.wk.fit t ht, h.wk.wt t ht, by omega⟩
set_option maxHeartbeats 1000000 in
theorem testable9_ok (b : Bool) {l : List Tm} {s : Tm} (h : FrmS l s) (hs : s.size ≤ 10000) : K b 19 [lv l, tv s] (tsR (testT l s)) := by
  obtain ⟨c, ec⟩ : ∃ c, c = canT s := ⟨_, rfl⟩
  have hC := canon07_ok b s h.s.hf h.s.hw
  have cf := can_fit s h.s.hf
  have cw : wt (canT s) ≤ 1000000000 := by rw [can_wt]; exact h.s.hw
  have cs : (canT s).size ≤ 10000 := by rw [can_size]; exact hs
  have hR := Right07_ok b (canT s) cf cw
  have hA := analyze8_ok b l h.f0
  have hB := analyze8_ok b (l ++ [canT s]) h.f1
  have hM := made8_ok b (anT l) (canT s) (an_okl h.f0) cf cw cs
  rw [mdT_an h.f0] at hM
  have hl := h.f0.len
  have em : mkC (ofT (anT l)).s (canT s) = knT l (canT s) ∨ ¬ gdT (canT s) := by
    by_cases g : gdT (canT s)
    · refine .inl ?_
      rw [← mdT_an h.f0]
      exact (seen9 h g).q0 _ g
    · exact .inr g
  by_cases hr : rightT (canT s) = true
  · have g := gd_right hr
    have em := em.resolve_right fun h => h g
    rw [hr] at hR
    by_cases hk : knT l (canT s) = true
    · have e : testT l s = (canT s, true) := by unfold testT; rw [if_pos hr, if_pos (em.trans hk)]
      rw [e]
      rw [hk] at hM
      refine PC_of_vc (cx_ok b) (mixed b) { own := fun q => Nat.beq q 26 || Nat.beq q 28 || Nat.beq q 200028, ps := psT [(9, [26])] } Tryd.func19 (by kernel_rfl) rfl rfl (by kernel_rfl) ?_
      repeat (conv => whnf); first|refine IndepAnd (by kernel_rfl) ?_|refine ⟨rfl,?_⟩|refine And.intro (by first|decide|exact trivial|exact ⟨_,rfl,rfl⟩|exact ⟨rfl,trivial⟩|exact ⟨rfl,rfl,trivial⟩) ?_
      conv => whnf
      refine ⟨_, CallVC.pr hC rfl rfl, ?_⟩
      repeat (conv => whnf); first|refine IndepAnd (by kernel_rfl) ?_|refine ⟨rfl,?_⟩|refine And.intro (by first|decide|exact trivial|exact ⟨_,rfl,rfl⟩|exact ⟨rfl,trivial⟩|exact ⟨rfl,rfl,trivial⟩) ?_
      conv => whnf
      refine ⟨_, CallVC.pr hR rfl rfl, ?_⟩
      repeat (conv => whnf); first|refine IndepAnd (by kernel_rfl) ?_|refine ⟨rfl,?_⟩|refine And.intro (by first|decide|exact trivial|exact ⟨_,rfl,rfl⟩|exact ⟨rfl,trivial⟩|exact ⟨rfl,rfl,trivial⟩) ?_
      conv => whnf
      refine ⟨_, CallVC.pr hA rfl rfl, ?_⟩
      repeat (conv => whnf); first|refine IndepAnd (by kernel_rfl) ?_|refine ⟨rfl,?_⟩|refine And.intro (by first|decide|exact trivial|exact ⟨_,rfl,rfl⟩|exact ⟨rfl,trivial⟩|exact ⟨rfl,rfl,trivial⟩) ?_
      conv => whnf
      refine ⟨_, CallVC.pr hM rfl rfl, ?_⟩
      repeat (conv => whnf); first|refine IndepAnd (by kernel_rfl) ?_|refine ⟨rfl,?_⟩|refine And.intro (by first|decide|exact trivial|exact ⟨_,rfl,rfl⟩|exact ⟨rfl,trivial⟩|exact ⟨rfl,rfl,trivial⟩) ?_
      conv => whnf
      exact ⟨LEP.refl _, LEP.refl _, trivial⟩
    · have hk : knT l (canT s) = false := by simpa using hk
      obtain ⟨X, eX⟩ : ∃ X, X = anT l := ⟨_, rfl⟩
      obtain ⟨Y, eY⟩ : ∃ Y, Y = anT (l ++ [canT s]) := ⟨_, rfl⟩
      obtain ⟨V, eV⟩ : ∃ V, V = vwT l (canT s) := ⟨_, rfl⟩
      have e : testT l s = match Y.find? (tstB V) with | some t => (t, true) | none => (noTm, false) := by
        unfold testT; rw [if_pos hr, em, hk, eY, eV]; rfl
      rw [e]
      have hsn : ∀ t ∈ Y, Seen V X Y t ∧ gdT t ∧ Sml t := fun t ht => by
        rw [eY] at ht
        have g := an_gd h.f1 t ht
        rw [eV, eX, eY]
        exact ⟨seen9 h g, g, an_sml h.f1 ht⟩
      have hYl : Y.length ≤ 1000000 := by rw [eY]; exact (an_okl h.f1).len
      rw [hk] at hM
      rw [← eX] at hA hM
      rw [← eY] at hB
      rw [show lv (l ++ [canT s]) = .p (.lst ([] ++ tmvs l ++ [TV (canT s)])) from congrArg (fun l => SV.p (.lst l)) (tmvs_app1 l (canT s)).symm] at hB
      refine PC_of_vc (cx_ok b) (mixed b) { own := fun q => Nat.beq q 26 || Nat.beq q 28 || Nat.beq q 200028, ps := psT [(9, [26])] } Tryd.func19 (by kernel_rfl) rfl rfl (by kernel_rfl) ?_
      repeat (conv => whnf); first|refine IndepAnd (by kernel_rfl) ?_|refine ⟨rfl,?_⟩|refine And.intro (by first|decide|exact trivial|exact ⟨_,rfl,rfl⟩|exact ⟨rfl,trivial⟩|exact ⟨rfl,rfl,trivial⟩) ?_
      conv => whnf
      refine ⟨_, CallVC.pr hC rfl rfl, ?_⟩
      repeat (conv => whnf); first|refine IndepAnd (by kernel_rfl) ?_|refine ⟨rfl,?_⟩|refine And.intro (by first|decide|exact trivial|exact ⟨_,rfl,rfl⟩|exact ⟨rfl,trivial⟩|exact ⟨rfl,rfl,trivial⟩) ?_
      conv => whnf
      refine ⟨_, CallVC.pr hR rfl rfl, ?_⟩
      repeat (conv => whnf); first|refine IndepAnd (by kernel_rfl) ?_|refine ⟨rfl,?_⟩|refine And.intro (by first|decide|exact trivial|exact ⟨_,rfl,rfl⟩|exact ⟨rfl,trivial⟩|exact ⟨rfl,rfl,trivial⟩) ?_
      conv => whnf
      refine ⟨_, CallVC.pr hA rfl rfl, ?_⟩
      repeat (conv => whnf); first|refine IndepAnd (by kernel_rfl) ?_|refine ⟨rfl,?_⟩|refine And.intro (by first|decide|exact trivial|exact ⟨_,rfl,rfl⟩|exact ⟨rfl,trivial⟩|exact ⟨rfl,rfl,trivial⟩) ?_
      conv => whnf
      refine ⟨_, CallVC.pr hM rfl rfl, ?_⟩
      repeat (conv => whnf); first|refine IndepAnd (by kernel_rfl) ?_|refine ⟨rfl,?_⟩|refine And.intro (by first|decide|exact trivial|exact ⟨_,rfl,rfl⟩|exact ⟨rfl,trivial⟩|exact ⟨rfl,rfl,trivial⟩) ?_
      conv => whnf
      refine ⟨tmvs_sz l, ?_⟩
      repeat (conv => whnf); first|refine IndepAnd (by kernel_rfl) ?_|refine TreeAnd (by kernel_rfl) ?_|refine ⟨rfl,?_⟩|refine And.intro (by first|decide|exact trivial|exact ⟨rfl,trivial⟩|exact Nat.le_of_ble_eq_true rfl|exact ⟨_,rfl,rfl⟩|exact ⟨rfl,rfl,trivial⟩|exact ⟨rfl,rfl,rfl,trivial⟩|exact ⟨rfl,rfl,rfl,rfl,trivial⟩|exact ⟨rfl,rfl,rfl,rfl,rfl,trivial⟩) ?_
      conv => whnf
      refine ⟨by show (0 + (tmvs l).length) * 48 ≤ _; rw [tmvs_length]; omega, ?_⟩
      repeat (conv => whnf); first|refine IndepAnd (by kernel_rfl) ?_|refine TreeAnd (by kernel_rfl) ?_|refine ⟨rfl,?_⟩|refine And.intro (by first|decide|exact trivial|exact ⟨rfl,trivial⟩|exact Nat.le_of_ble_eq_true rfl|exact ⟨_,rfl,rfl⟩|exact ⟨rfl,rfl,trivial⟩|exact ⟨rfl,rfl,rfl,trivial⟩|exact ⟨rfl,rfl,rfl,rfl,trivial⟩|exact ⟨rfl,rfl,rfl,rfl,rfl,trivial⟩) ?_
      conv => whnf
      refine ⟨by show (([] ++ tmvs l).length + 1) * 48 ≤ _; rw [List.nil_append, tmvs_length]; omega, ?_⟩
      repeat (conv => whnf); first|refine IndepAnd (by kernel_rfl) ?_|refine TreeAnd (by kernel_rfl) ?_|refine ⟨rfl,?_⟩|refine And.intro (by first|decide|exact trivial|exact ⟨rfl,trivial⟩|exact Nat.le_of_ble_eq_true rfl|exact ⟨_,rfl,rfl⟩|exact ⟨rfl,rfl,trivial⟩|exact ⟨rfl,rfl,rfl,trivial⟩|exact ⟨rfl,rfl,rfl,rfl,trivial⟩|exact ⟨rfl,rfl,rfl,rfl,rfl,trivial⟩) ?_
      conv => whnf
      refine ⟨_, CallVC.pr hB rfl rfl, ?_⟩
      repeat (conv => whnf); first|refine IndepAnd (by kernel_rfl) ?_|refine ⟨rfl,?_⟩|refine And.intro (by first|decide|exact trivial|exact ⟨_,rfl,rfl⟩|exact ⟨rfl,trivial⟩|exact ⟨rfl,rfl,trivial⟩) ?_
      conv => whnf
      refine ⟨{ i : Nat // i ≤ Y.length ∧ ∀ u ∈ Y.take i, tstB V u = false }, fun i => S.of [(3, .ptr 3 0), (4, .ptr 4 0), (5, .p (.bool false)), (7, lv X), (9, lv Y), (10, iv i.1)] [(3, .var true 24 (tv (canT s))), (4, .var true 24 (.p tiTerm.zero))], fun i => Y.length - i.1, ⟨0, Nat.zero_le _, fun u hu => by cases hu⟩, ?_, ?_⟩
      · refine Ge.of rfl ?_ ?_
        · repeat (conv => whnf); refine ⟨LE.of rfl, ?_⟩
          trivial
        · repeat (conv => whnf); refine ⟨OLE.of rfl, ?_⟩
          trivial
      rintro ⟨i, hi, ha⟩
      have ha : ∀ u ∈ Y.take i, tstB V u = false := ha
      repeat (conv => whnf); first|refine IndepAnd (by kernel_rfl) ?_|refine ⟨rfl,?_⟩|refine And.intro (by first|decide|exact trivial|exact ⟨_,rfl,rfl⟩|exact ⟨rfl,trivial⟩|exact ⟨rfl,rfl,trivial⟩) ?_
      conv => whnf
      refine @bool_rec _ _ _ ?_ ?_ <;> intro h1
      · have hlt : i < Y.length := by have := of_decide_eq_true h1; rw [tmvs_length] at this; exact Int.ofNat_lt.1 this
        have hm := List.getElem_mem hlt
        obtain ⟨sn, tg, ts⟩ := hsn _ hm
        repeat (conv => whnf); first|refine IndepAnd (by kernel_rfl) ?_|refine ⟨rfl,?_⟩|refine And.intro (by first|decide|exact trivial|exact ⟨_,rfl,rfl⟩|exact ⟨rfl,trivial⟩|exact ⟨rfl,rfl,trivial⟩) ?_
        conv => whnf
        refine ⟨Int.natCast_nonneg _, TV Y[i], tmvs_getN hlt, rfl, rfl, ?_⟩
        repeat (conv => whnf); first|refine IndepAnd (by kernel_rfl) ?_|refine ⟨rfl,?_⟩|refine And.intro (by first|decide|exact trivial|exact ⟨_,rfl,rfl⟩|exact ⟨rfl,trivial⟩|exact ⟨rfl,rfl,trivial⟩) ?_
        conv => whnf
        refine ⟨_, CallVC.pr (test9_ok b V X Y Y[i] sn tg ts) rfl rfl, ?_⟩
        repeat (conv => whnf); first|refine IndepAnd (by kernel_rfl) ?_|refine ⟨rfl,?_⟩|refine And.intro (by first|decide|exact trivial|exact ⟨_,rfl,rfl⟩|exact ⟨rfl,trivial⟩|exact ⟨rfl,rfl,trivial⟩) ?_
        conv => whnf
        refine @bool_rec _ _ _ ?_ ?_ <;> intro h2
        · have h2 : tstB V Y[i] = true := h2
          rw [find_at hlt ha h2]
          repeat (conv => whnf); first|refine IndepAnd (by kernel_rfl) ?_|refine ⟨rfl,?_⟩|refine And.intro (by first|decide|exact trivial|exact ⟨_,rfl,rfl⟩|exact ⟨rfl,trivial⟩|exact ⟨rfl,rfl,trivial⟩) ?_
          conv => whnf
          refine ⟨Int.natCast_nonneg _, TV Y[i], tmvs_getN hlt, rfl, rfl, ?_⟩
          repeat (conv => whnf); first|refine IndepAnd (by kernel_rfl) ?_|refine ⟨rfl,?_⟩|refine And.intro (by first|decide|exact trivial|exact ⟨_,rfl,rfl⟩|exact ⟨rfl,trivial⟩|exact ⟨rfl,rfl,trivial⟩) ?_
          conv => whnf
          exact ⟨LEP.refl _, LEP.refl _, trivial⟩
        · have h2 : tstB V Y[i] = false := h2
          repeat (conv => whnf); first|refine IndepAnd (by kernel_rfl) ?_|refine ⟨rfl,?_⟩|refine And.intro (by first|decide|exact trivial|exact ⟨_,rfl,rfl⟩|exact ⟨rfl,trivial⟩|exact ⟨rfl,rfl,trivial⟩) ?_
          conv => whnf
          refine ⟨_, wrapN (n := i + 1) rfl (by omega), ?_⟩
          repeat (conv => whnf); first|refine IndepAnd (by kernel_rfl) ?_|refine ⟨rfl,?_⟩|refine And.intro (by first|decide|exact trivial|exact ⟨_,rfl,rfl⟩|exact ⟨rfl,trivial⟩|exact ⟨rfl,rfl,trivial⟩) ?_
          conv => whnf
          refine ⟨⟨i + 1, hlt, ?_⟩, ?_, by show Y.length - (i + 1) < Y.length - i; omega⟩
          · intro u hu
            rw [List.take_succ_eq_append_getElem hlt, List.mem_append, List.mem_singleton] at hu
            rcases hu with hu | rfl
            · exact ha u hu
            · exact h2
          · refine Ge.of rfl ?_ ?_
            · repeat (conv => whnf); refine ⟨LE.of rfl, ?_⟩
              trivial
            · repeat (conv => whnf); refine ⟨OLE.of rfl, ?_⟩
              trivial
      · have hge : Y.take i = Y := List.take_of_length_le (by have := of_decide_eq_false h1; rw [tmvs_length] at this; have h5 : ¬ ((i : Int) < Y.length) := this; omega)
        rw [hge] at ha
        have en : Y.find? (tstB V) = none := by
          rw [List.find?_eq_none]
          exact fun u hu => by rw [ha u hu]; decide
        rw [en]
        repeat (conv => whnf); first|refine IndepAnd (by kernel_rfl) ?_|refine ⟨rfl,?_⟩|refine And.intro (by first|decide|exact trivial|exact ⟨_,rfl,rfl⟩|exact ⟨rfl,trivial⟩|exact ⟨rfl,rfl,trivial⟩) ?_
        conv => whnf
        exact ⟨LE_leaf 0 [], LEP.refl _, trivial⟩
  · have hr : rightT (canT s) = false := by simpa using hr
    have e : testT l s = (noTm, false) := by unfold testT; rw [hr]; rfl
    rw [e]
    rw [hr] at hR
    refine PC_of_vc (cx_ok b) (mixed b) { own := fun q => Nat.beq q 26 || Nat.beq q 28 || Nat.beq q 200028, ps := psT [(9, [26])] } Tryd.func19 (by kernel_rfl) rfl rfl (by kernel_rfl) ?_
    repeat (conv => whnf); first|refine IndepAnd (by kernel_rfl) ?_|refine ⟨rfl,?_⟩|refine And.intro (by first|decide|exact trivial|exact ⟨_,rfl,rfl⟩|exact ⟨rfl,trivial⟩|exact ⟨rfl,rfl,trivial⟩) ?_
    conv => whnf
    refine ⟨_, CallVC.pr hC rfl rfl, ?_⟩
    repeat (conv => whnf); first|refine IndepAnd (by kernel_rfl) ?_|refine ⟨rfl,?_⟩|refine And.intro (by first|decide|exact trivial|exact ⟨_,rfl,rfl⟩|exact ⟨rfl,trivial⟩|exact ⟨rfl,rfl,trivial⟩) ?_
    conv => whnf
    refine ⟨_, CallVC.pr hR rfl rfl, ?_⟩
    repeat (conv => whnf); first|refine IndepAnd (by kernel_rfl) ?_|refine ⟨rfl,?_⟩|refine And.intro (by first|decide|exact trivial|exact ⟨_,rfl,rfl⟩|exact ⟨rfl,trivial⟩|exact ⟨rfl,rfl,trivial⟩) ?_
    conv => whnf
    exact ⟨LE_leaf 0 [], LEP.refl _, trivial⟩
/-- What is told can be looked at. -/
theorem test_fit {l : List Tm} {s : Tm} (h : FrmS l s) : Fit (testT l s).1 := by
  have h0 : Fit noTm := Fit.data 0 (by simp)
  unfold testT
  split
  · split
    · exact can_fit s h.s.hf
    · split
      · rename_i t e
        exact h.f1.wk.fit t (List.mem_of_find?_eq_some e)
      · exact h0
  · exact h0
end Go.Sl
/- short -/
namespace Go.Sl
open Go Go.Vc Go.Proofs Go.RowKit

theorem otells_ok (l : List Tm) (g : Tm) (hf : ∀ t ∈ l, Fit t) (hl : l.length ≤ 9223372036854775807) (fg : Fit g) (hw : wts l + wt g ≤ 1048576) : K true 4 [lv l, tv g] (.pv (.bool true)) := by
  obtain ⟨L, eL⟩ : ∃ L, L = few9 l := ⟨_, rfl⟩
  have hfew : K true 16 [lv l] (.pv (.lst (tmvs L))) := by rw [eL]; exact few9_ok l hf hl
  have hLl : L.length ≤ 7 := by rw [eL]; exact few_len9 l
  have hLs : Tm.sizes L ≤ 105 := by rw [eL]; exact few_sizes9 l
  have hLt : ∀ t ∈ L, TmOk t := fun t ht => by
    rw [eL] at ht
    have h1 := few_mem9 ht
    have h2 := wts_mem h1.1
    exact ⟨hf t h1.1, by omega⟩
  have hG : TmOk g := ⟨fg, by omega⟩
  refine PC_of_vc (cx_ok true) (mixed true) { own := fun q => Nat.beq q 19 || Nat.beq q 21, fz := fun r => cond (Nat.beq r 6) [19] [] } Tryd.func4 (by kernel_rfl) rfl rfl (by kernel_rfl) ?_
  repeat (conv => whnf); first|refine IndepAnd (by kernel_rfl) ?_|refine ⟨rfl,?_⟩|refine And.intro (by first|decide|exact trivial|exact ⟨_,rfl,rfl⟩|exact ⟨rfl,trivial⟩|exact ⟨rfl,rfl,trivial⟩) ?_
  conv => whnf
  refine ⟨_, CallVC.pr shown9_ok rfl rfl, ?_⟩
  repeat (conv => whnf); first|refine IndepAnd (by kernel_rfl) ?_|refine ⟨rfl,?_⟩|refine And.intro (by first|decide|exact trivial|exact ⟨_,rfl,rfl⟩|exact ⟨rfl,trivial⟩|exact ⟨rfl,rfl,trivial⟩) ?_
  conv => whnf
  refine ⟨_, CallVC.pr hfew rfl rfl, ?_⟩
  repeat (conv => whnf); first|refine IndepAnd (by kernel_rfl) ?_|refine ⟨rfl,?_⟩|refine And.intro (by first|decide|exact trivial|exact ⟨_,rfl,rfl⟩|exact ⟨rfl,trivial⟩|exact ⟨rfl,rfl,trivial⟩) ?_
  conv => whnf
  refine ⟨_, CallVC.pr (count9_ok true g fg) rfl rfl, ?_⟩
  repeat (conv => whnf); first|refine IndepAnd (by kernel_rfl) ?_|refine ⟨rfl,?_⟩|refine And.intro (by first|decide|exact trivial|exact ⟨_,rfl,rfl⟩|exact ⟨rfl,trivial⟩|exact ⟨rfl,rfl,trivial⟩) ?_
  conv => whnf
  refine @bool_rec _ _ _ ?_ ?_ <;> intro h1
  · repeat (conv => whnf); first|refine IndepAnd (by kernel_rfl) ?_|refine ⟨rfl,?_⟩|refine And.intro (by first|decide|exact trivial|exact ⟨_,rfl,rfl⟩|exact ⟨rfl,trivial⟩|exact ⟨rfl,rfl,trivial⟩) ?_
    conv => whnf
    exact LEP.refl _
  have hx : g.size ≤ 15 := by have h1 : ¬ (15 : Int) < ((min g.size 16 : Nat) : Int) := of_decide_eq_false h1; omega
  have hF : FrmS L g := frmS_of hLt hG (by omega) (by omega)
  have hT := testable_ok hF
  have hT9 := testable9_ok true hF (by omega)
  obtain ⟨x, ex⟩ : ∃ x, x = testT L g := ⟨_, rfl⟩
  have hfx : Fit x.1 := by
    rw [ex]
    exact test_fit hF
  rw [← ex] at hT hT9
  obtain ⟨u, v⟩ := x
  have hS1 := sameall_ok true L L (by omega) (fun t ht => (hLt t ht).hf)
  rw [decide_eq_true rfl] at hS1
  have hS2 := same07_ok true u hfx u
  rw [decide_eq_true rfl] at hS2
  repeat (conv => whnf); first|refine IndepAnd (by kernel_rfl) ?_|refine ⟨rfl,?_⟩|refine And.intro (by first|decide|exact trivial|exact ⟨_,rfl,rfl⟩|exact ⟨rfl,trivial⟩|exact ⟨rfl,rfl,trivial⟩) ?_
  conv => whnf
  refine ⟨tmvs_sz L, ?_⟩
  repeat (conv => whnf); first|refine IndepAnd (by kernel_rfl) ?_|refine ⟨rfl,?_⟩|refine And.intro (by first|decide|exact trivial|exact ⟨_,rfl,rfl⟩|exact ⟨rfl,trivial⟩|exact ⟨rfl,rfl,trivial⟩) ?_
  conv => whnf
  refine ⟨len_app0 (by omega), ?_⟩
  repeat (conv => whnf); first|refine IndepAnd (by kernel_rfl) ?_|refine ⟨rfl,?_⟩|refine And.intro (by first|decide|exact trivial|exact ⟨_,rfl,rfl⟩|exact ⟨rfl,trivial⟩|exact ⟨rfl,rfl,trivial⟩) ?_
  conv => whnf
  refine ⟨_, CallVC.pr hT rfl rfl, ?_⟩
  repeat (conv => whnf); first|refine IndepAnd (by kernel_rfl) ?_|refine ⟨rfl,?_⟩|refine And.intro (by first|decide|exact trivial|exact ⟨_,rfl,rfl⟩|exact ⟨rfl,trivial⟩|exact ⟨rfl,rfl,trivial⟩) ?_
  conv => whnf
  refine ⟨_, CallVC.pr hT9 rfl rfl, ?_⟩
  repeat (conv => whnf); first|refine IndepAnd (by kernel_rfl) ?_|refine ⟨rfl,?_⟩|refine And.intro (by first|decide|exact trivial|exact ⟨_,rfl,rfl⟩|exact ⟨rfl,trivial⟩|exact ⟨rfl,rfl,trivial⟩) ?_
  conv => whnf
  rw [show (v == v) = true from beq_self_eq_true v]
  repeat (conv => whnf); first|refine IndepAnd (by kernel_rfl) ?_|refine ⟨rfl,?_⟩|refine And.intro (by first|decide|exact trivial|exact ⟨_,rfl,rfl⟩|exact ⟨rfl,trivial⟩|exact ⟨rfl,rfl,trivial⟩) ?_
  conv => whnf
  refine ⟨_, CallVC.pr hS2 rfl rfl, ?_⟩
  repeat (conv => whnf); first|refine IndepAnd (by kernel_rfl) ?_|refine ⟨rfl,?_⟩|refine And.intro (by first|decide|exact trivial|exact ⟨_,rfl,rfl⟩|exact ⟨rfl,trivial⟩|exact ⟨rfl,rfl,trivial⟩) ?_
  conv => whnf
  refine ⟨_, CallVC.pr hS1 rfl rfl, ?_⟩
  repeat (conv => whnf); first|refine IndepAnd (by kernel_rfl) ?_|refine ⟨rfl,?_⟩|refine And.intro (by first|decide|exact trivial|exact ⟨_,rfl,rfl⟩|exact ⟨rfl,trivial⟩|exact ⟨rfl,rfl,trivial⟩) ?_
  conv => whnf
  exact LEP.refl _
end Go.Sl
