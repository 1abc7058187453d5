/- OfflineOrder: in which order terms were sent does not matter. -/
import Derived.Test.YtjabfkeppaoegaaDoorOi
set_option linter.unusedVariables false
set_option linter.unusedSimpArgs false
namespace Go.Sl
open Go Go.Vc Go.Proofs Go.RowKit

theorem Tst.mono {K0 K1 A0 K0' K1' A0' : Tm → Prop} {t : Tm} (h0 : ∀ u, K0' u → K0 u) (h0' : ∀ u, K0 u → K0' u) (h1 : ∀ u, K1 u → K1' u) (hA : A0 t → A0' t) (h : Tst K0 K1 A0 t) : Tst K0' K1' A0' t := by
  cases h with
  | enc k e a b => exact .enc k e (h1 _ a) fun hc => b (h0 _ hc)
  | part k a b c => exact .part k (hA a) (fun u hu => h1 u (b u hu)) fun hc => c fun u hu => h0 u (hc u hu)
  | share k e a b c => exact .share k e (hA a) (b.imp (fun x => ⟨h1 _ x.1, h1 _ x.2⟩) (fun x => ⟨h1 _ x.1, h1 _ x.2⟩)) fun hc => c (hc.imp (fun x => ⟨h0 _ x.1, h0 _ x.2⟩) (fun x => ⟨h0 _ x.1, h0 _ x.2⟩))
  | mask k e a b c d => exact .mask k e (hA a) (h0' _ b) (h1 _ c) fun hc => d (h0 _ hc)
/-- What counts is what was sent. -/
theorem test_same {l m : List Tm} {s : Tm} (h : ∀ u, Fr l u ↔ Fr m u) (hl : FrmS l s) (hm : FrmS m s) : (testT l s).2 = (testT m s).2 := by
  rw [Bool.eq_iff_iff, (test_is hl).iff, (test_is hm).iff]
  have key : ∀ {l m : List Tm}, (∀ u, Fr l u ↔ Fr m u) → (Cl (Fr l) (canT s) ∨ HasT l (canT s)) → (Cl (Fr m) (canT s) ∨ HasT m (canT s)) := by
    intro l m h hx
    have h0 : ∀ u, Fr l u → Fr m u := fun u => (h u).1
    have h1 : ∀ u, Fr m u → Fr l u := fun u => (h u).2
    have h2 : ∀ u, Fr (l ++ [canT s]) u → Fr (m ++ [canT s]) u := fun u hu => fr_app.2 ((fr_app.1 hu).imp (h0 u) id)
    refine hx.imp (fun hc => hc.mono h0) fun ⟨t, a, b⟩ => ⟨t, a.mono h2, ?_⟩
    exact b.mono (fun u hc => hc.mono h1) (fun u hc => hc.mono h0) (fun u hc => hc.mono h2) fun ha => ha.mono h0
  exact and_congr Iff.rfl ⟨key h, key fun u => (h u).symm⟩
theorem fr_rev {l : List Tm} {u : Tm} : Fr l u ↔ Fr l.reverse u := ⟨fun ⟨v, hv, e⟩ => ⟨v, List.mem_reverse.2 hv, e⟩, fun ⟨v, hv, e⟩ => ⟨v, List.mem_reverse.1 hv, e⟩⟩
theorem fr_dup {l : List Tm} {u : Tm} : Fr l u ↔ Fr (l ++ l) u := by rw [fr_app]; exact ⟨.inl, fun h => h.elim id id⟩
set_option maxHeartbeats 1000000 in
theorem oorder_ok (l : List Tm) (s : Tm) (hf : ∀ t ∈ l, Fit t) (hl : l.length ≤ 9223372036854775807) (fs : Fit s) (hw : wts l + wt s ≤ 1048576) : K true 4 [lv l, tv s] (.pv (.bool true)) := by
  obtain ⟨L, eL⟩ : ∃ L, L = few9 l := ⟨_, rfl⟩
  have h9 : Few9 L := by rw [eL]; exact few9_is hf (by omega)
  have hfew : K true 12 [lv l] (.pv (.lst (tmvs L))) := by rw [eL]; exact few9_ok l hf hl
  have hLl : L.length ≤ 7 := h9.len
  have hLz := h9.sz
  have hs : TmOk s := ⟨fs, by omega⟩
  have l0 := len_app0 (l := L) (by omega)
  have l1 := len_appL (l := L) (m := L) (by omega)
  refine PC_of_vc (cx_ok true) (mixed true) { own := fun q => Nat.beq q 6 || Nat.beq q 34 || Nat.beq q 48 || Nat.beq q 50 || Nat.beq q 200050, fz := fun r => cond (Nat.beq r 11) [6] [], ps := psT [(12, [48, 12])], tr := trT [(12, [0, 0, 3, 0, 15, 0, 63, 127, 255, 255, 0, 1535, 4095], .one 0 (.one 1 (.one 2 (.one 3 (.alt (.one 4 (.one 5 (.one 6 (.one 7 (.one 8 (.one 9 (.one 10 (.one 11 (.one 12 (.fin)))))))))) (.alt (.one 5 (.alt (.one 4 (.one 6 (.one 7 (.one 8 (.one 9 (.one 10 (.one 11 (.one 12 (.fin))))))))) (.one 10 (.one 4 (.one 6 (.one 7 (.one 8 (.one 9 (.one 11 (.one 12 (.fin))))))))))) (.one 10 (.alt (.one 4 (.one 5 (.one 6 (.one 7 (.one 8 (.one 9 (.one 11 (.one 12 (.fin))))))))) (.one 5 (.one 4 (.one 6 (.one 7 (.one 8 (.one 9 (.one 11 (.one 12 (.fin)))))))))))))))))], kp := kpT [(10, [0, 3, 4, 5, 6], [3, 6]), (11, [0, 3, 4, 5, 6, 9], [3, 6]), (12, [0, 3, 4, 5, 9, 11], [3]), (13, [4, 5, 9, 11, 13], [])] } Tryd.func4 (by kernel_rfl) rfl rfl (by kernel_rfl) ?_
  repeat (conv => whnf); first | refine IndepAnd (by kernel_rfl) ?_ | refine TreeAnd (by kernel_rfl) ?_ | refine ⟨rfl, ?_⟩ | refine ⟨by decide, ?_⟩ | refine ⟨trivial, ?_⟩ | refine ⟨⟨rfl, trivial⟩, ?_⟩ | refine ⟨Nat.le_of_ble_eq_true rfl, ?_⟩ | refine ⟨⟨_, rfl, rfl⟩, ?_⟩ | refine ⟨⟨rfl, rfl, trivial⟩, ?_⟩ | refine ⟨⟨rfl, rfl, rfl, trivial⟩, ?_⟩ | refine ⟨⟨rfl, rfl, rfl, rfl, trivial⟩, ?_⟩ | refine ⟨⟨rfl, rfl, rfl, rfl, rfl, trivial⟩, ?_⟩
  conv => whnf
  refine ⟨_, CallVC.pr shown9_ok rfl rfl, ?_⟩
  repeat (conv => whnf); first | refine IndepAnd (by kernel_rfl) ?_ | refine TreeAnd (by kernel_rfl) ?_ | refine ⟨rfl, ?_⟩ | refine ⟨by decide, ?_⟩ | refine ⟨trivial, ?_⟩ | refine ⟨⟨rfl, trivial⟩, ?_⟩ | refine ⟨Nat.le_of_ble_eq_true rfl, ?_⟩ | refine ⟨⟨_, rfl, rfl⟩, ?_⟩ | refine ⟨⟨rfl, rfl, trivial⟩, ?_⟩ | refine ⟨⟨rfl, rfl, rfl, trivial⟩, ?_⟩ | refine ⟨⟨rfl, rfl, rfl, rfl, trivial⟩, ?_⟩ | refine ⟨⟨rfl, rfl, rfl, rfl, rfl, trivial⟩, ?_⟩
  conv => whnf
  refine ⟨_, CallVC.pr hfew rfl rfl, ?_⟩
  repeat (conv => whnf); first | refine IndepAnd (by kernel_rfl) ?_ | refine TreeAnd (by kernel_rfl) ?_ | refine ⟨rfl, ?_⟩ | refine ⟨by decide, ?_⟩ | refine ⟨trivial, ?_⟩ | refine ⟨⟨rfl, trivial⟩, ?_⟩ | refine ⟨Nat.le_of_ble_eq_true rfl, ?_⟩ | refine ⟨⟨_, rfl, rfl⟩, ?_⟩ | refine ⟨⟨rfl, rfl, trivial⟩, ?_⟩ | refine ⟨⟨rfl, rfl, rfl, trivial⟩, ?_⟩ | refine ⟨⟨rfl, rfl, rfl, rfl, trivial⟩, ?_⟩ | refine ⟨⟨rfl, rfl, rfl, rfl, rfl, trivial⟩, ?_⟩
  conv => whnf
  refine ⟨_, CallVC.pr (count9_ok true s hs.hf) rfl rfl, ?_⟩
  repeat (conv => whnf); first | refine IndepAnd (by kernel_rfl) ?_ | refine TreeAnd (by kernel_rfl) ?_ | refine ⟨rfl, ?_⟩ | refine ⟨by decide, ?_⟩ | refine ⟨trivial, ?_⟩ | refine ⟨⟨rfl, trivial⟩, ?_⟩ | refine ⟨Nat.le_of_ble_eq_true rfl, ?_⟩ | refine ⟨⟨_, rfl, rfl⟩, ?_⟩ | refine ⟨⟨rfl, rfl, trivial⟩, ?_⟩ | refine ⟨⟨rfl, rfl, rfl, trivial⟩, ?_⟩ | refine ⟨⟨rfl, rfl, rfl, rfl, trivial⟩, ?_⟩ | refine ⟨⟨rfl, rfl, rfl, rfl, rfl, trivial⟩, ?_⟩
  conv => whnf
  by_cases hc : s.size ≤ 15
  case neg =>
    have hcnt : decide ((15 : Int) < ((min s.size 16 : Nat) : Int)) = true := decide_eq_true (by omega)
    rw [hcnt]
    repeat (conv => whnf); first | refine IndepAnd (by kernel_rfl) ?_ | refine TreeAnd (by kernel_rfl) ?_ | refine ⟨rfl, ?_⟩ | refine ⟨by decide, ?_⟩ | refine ⟨trivial, ?_⟩ | refine ⟨⟨rfl, trivial⟩, ?_⟩ | refine ⟨Nat.le_of_ble_eq_true rfl, ?_⟩ | refine ⟨⟨_, rfl, rfl⟩, ?_⟩ | refine ⟨⟨rfl, rfl, trivial⟩, ?_⟩ | refine ⟨⟨rfl, rfl, rfl, trivial⟩, ?_⟩ | refine ⟨⟨rfl, rfl, rfl, rfl, trivial⟩, ?_⟩ | refine ⟨⟨rfl, rfl, rfl, rfl, rfl, trivial⟩, ?_⟩
    conv => whnf
    exact LEP.refl _
  have hcnt : decide ((15 : Int) < ((min s.size 16 : Nat) : Int)) = false := decide_eq_false (by omega)
  rw [hcnt]
  repeat (conv => whnf); first | refine IndepAnd (by kernel_rfl) ?_ | refine TreeAnd (by kernel_rfl) ?_ | refine ⟨rfl, ?_⟩ | refine ⟨by decide, ?_⟩ | refine ⟨trivial, ?_⟩ | refine ⟨⟨rfl, trivial⟩, ?_⟩ | refine ⟨Nat.le_of_ble_eq_true rfl, ?_⟩ | refine ⟨⟨_, rfl, rfl⟩, ?_⟩ | refine ⟨⟨rfl, rfl, trivial⟩, ?_⟩ | refine ⟨⟨rfl, rfl, rfl, trivial⟩, ?_⟩ | refine ⟨⟨rfl, rfl, rfl, rfl, trivial⟩, ?_⟩ | refine ⟨⟨rfl, rfl, rfl, rfl, rfl, trivial⟩, ?_⟩
  conv => whnf
  refine ⟨((L.length : Nat) : Int) - 1, by rw [tmvs_length]; exact wrap64 (by omega) (by omega), ?_⟩
  repeat (conv => whnf); first | refine IndepAnd (by kernel_rfl) ?_ | refine TreeAnd (by kernel_rfl) ?_ | refine ⟨rfl, ?_⟩ | refine ⟨by decide, ?_⟩ | refine ⟨trivial, ?_⟩ | refine ⟨⟨rfl, trivial⟩, ?_⟩ | refine ⟨Nat.le_of_ble_eq_true rfl, ?_⟩ | refine ⟨⟨_, rfl, rfl⟩, ?_⟩ | refine ⟨⟨rfl, rfl, trivial⟩, ?_⟩ | refine ⟨⟨rfl, rfl, rfl, trivial⟩, ?_⟩ | refine ⟨⟨rfl, rfl, rfl, rfl, trivial⟩, ?_⟩ | refine ⟨⟨rfl, rfl, rfl, rfl, rfl, trivial⟩, ?_⟩
  conv => whnf
  refine ⟨{ j : Nat // j ≤ L.length }, fun j => Vc.S.of [(0, lv L), (3, .ptr 3 0), (4, .p (.bool false)), (5, .p (.bool true)), (6, .slc 6), (7, iv ((j.1 : Int) - 1))] [(3, .var true 24 (tv s)), (6, .row 24 3 (tmvs (L.drop j.1).reverse))], fun j => j.1, ⟨L.length, Nat.le_refl _⟩, ?_, ?_⟩
  · refine Ge.of rfl ?_ ?_
    · repeat (conv => whnf); refine ⟨LE.of rfl, ?_⟩
      trivial
    · repeat (conv => whnf); first | refine ⟨OLE.of rfl, ?_⟩ | refine ⟨OLE.of (congrArg (AO.row 24 3) (show [] = tmvs (L.drop L.length).reverse by rw [List.drop_length]; rfl)), ?_⟩
      trivial
  rintro ⟨j, hj⟩
  have hj : j ≤ L.length := hj
  repeat (conv => whnf); first | refine IndepAnd (by kernel_rfl) ?_ | refine TreeAnd (by kernel_rfl) ?_ | refine ⟨rfl, ?_⟩ | refine ⟨by decide, ?_⟩ | refine ⟨trivial, ?_⟩ | refine ⟨⟨rfl, trivial⟩, ?_⟩ | refine ⟨Nat.le_of_ble_eq_true rfl, ?_⟩ | refine ⟨⟨_, rfl, rfl⟩, ?_⟩ | refine ⟨⟨rfl, rfl, trivial⟩, ?_⟩ | refine ⟨⟨rfl, rfl, rfl, trivial⟩, ?_⟩ | refine ⟨⟨rfl, rfl, rfl, rfl, trivial⟩, ?_⟩ | refine ⟨⟨rfl, rfl, rfl, rfl, rfl, trivial⟩, ?_⟩
  conv => whnf
  refine @bool_rec _ _ _ ?_ ?_ <;> intro h1
  · have hj0 : 0 < j := by have h6 := of_decide_eq_true h1; have h6 : (0 : Int) ≤ (j : Int) - 1 := h6; omega
    have hlt : j - 1 < L.length := by omega
    repeat (conv => whnf); first | refine IndepAnd (by kernel_rfl) ?_ | refine TreeAnd (by kernel_rfl) ?_ | refine ⟨rfl, ?_⟩ | refine ⟨by decide, ?_⟩ | refine ⟨trivial, ?_⟩ | refine ⟨⟨rfl, trivial⟩, ?_⟩ | refine ⟨Nat.le_of_ble_eq_true rfl, ?_⟩ | refine ⟨⟨_, rfl, rfl⟩, ?_⟩ | refine ⟨⟨rfl, rfl, trivial⟩, ?_⟩ | refine ⟨⟨rfl, rfl, rfl, trivial⟩, ?_⟩ | refine ⟨⟨rfl, rfl, rfl, rfl, trivial⟩, ?_⟩ | refine ⟨⟨rfl, rfl, rfl, rfl, rfl, trivial⟩, ?_⟩
    conv => whnf
    refine ⟨by show (0 : Int) ≤ (j : Int) - 1; omega, TV L[j - 1], by rw [show ((j : Int) - 1).toNat = j - 1 by omega]; exact tmvs_get hlt, rfl, rfl, ?_⟩
    repeat (conv => whnf); first | refine IndepAnd (by kernel_rfl) ?_ | refine TreeAnd (by kernel_rfl) ?_ | refine ⟨rfl, ?_⟩ | refine ⟨by decide, ?_⟩ | refine ⟨trivial, ?_⟩ | refine ⟨⟨rfl, trivial⟩, ?_⟩ | refine ⟨Nat.le_of_ble_eq_true rfl, ?_⟩ | refine ⟨⟨_, rfl, rfl⟩, ?_⟩ | refine ⟨⟨rfl, rfl, trivial⟩, ?_⟩ | refine ⟨⟨rfl, rfl, rfl, trivial⟩, ?_⟩ | refine ⟨⟨rfl, rfl, rfl, rfl, trivial⟩, ?_⟩ | refine ⟨⟨rfl, rfl, rfl, rfl, rfl, trivial⟩, ?_⟩
    conv => whnf
    have hb : (tmvs (L.drop j).reverse).length + 1 ≤ 100 := by rw [tmvs_length, List.length_reverse, List.length_drop]; omega
    refine ⟨by have : ((tmvs (L.drop j).reverse).length + 1) * 48 ≤ 140737488355328 := by omega
               exact this, ?_⟩
    repeat (conv => whnf); first | refine IndepAnd (by kernel_rfl) ?_ | refine TreeAnd (by kernel_rfl) ?_ | refine ⟨rfl, ?_⟩ | refine ⟨by decide, ?_⟩ | refine ⟨trivial, ?_⟩ | refine ⟨⟨rfl, trivial⟩, ?_⟩ | refine ⟨Nat.le_of_ble_eq_true rfl, ?_⟩ | refine ⟨⟨_, rfl, rfl⟩, ?_⟩ | refine ⟨⟨rfl, rfl, trivial⟩, ?_⟩ | refine ⟨⟨rfl, rfl, rfl, trivial⟩, ?_⟩ | refine ⟨⟨rfl, rfl, rfl, rfl, trivial⟩, ?_⟩ | refine ⟨⟨rfl, rfl, rfl, rfl, rfl, trivial⟩, ?_⟩
    conv => whnf
    refine ⟨((j - 1 : Nat) : Int) - 1, by rw [show (j : Int) - 1 - 1 = ((j - 1 : Nat) : Int) - 1 by omega]; exact wrap64 (by omega) (by omega), ?_⟩
    repeat (conv => whnf); first | refine IndepAnd (by kernel_rfl) ?_ | refine TreeAnd (by kernel_rfl) ?_ | refine ⟨rfl, ?_⟩ | refine ⟨by decide, ?_⟩ | refine ⟨trivial, ?_⟩ | refine ⟨⟨rfl, trivial⟩, ?_⟩ | refine ⟨Nat.le_of_ble_eq_true rfl, ?_⟩ | refine ⟨⟨_, rfl, rfl⟩, ?_⟩ | refine ⟨⟨rfl, rfl, trivial⟩, ?_⟩ | refine ⟨⟨rfl, rfl, rfl, trivial⟩, ?_⟩ | refine ⟨⟨rfl, rfl, rfl, rfl, trivial⟩, ?_⟩ | refine ⟨⟨rfl, rfl, rfl, rfl, rfl, trivial⟩, ?_⟩
    conv => whnf
    refine ⟨⟨j - 1, by omega⟩, ?_, by show j - 1 < j; omega⟩
    have ed : tmvs (L.drop j).reverse ++ [TV L[j - 1]] = tmvs (L.drop (j - 1)).reverse := by
      rw [List.drop_eq_getElem_cons hlt, List.reverse_cons, tmvs_append, tmvs1, show j - 1 + 1 = j by omega]
    refine Ge.of rfl ?_ ?_
    · repeat (conv => whnf); refine ⟨LE.of rfl, ?_⟩
      trivial
    · repeat (conv => whnf); first | refine ⟨OLE.of rfl, ?_⟩ | refine ⟨OLE.of (congrArg (AO.row 24 3) ed), ?_⟩
      trivial
  have hj0 : j = 0 := by have h6 := of_decide_eq_false h1; have h6 : ¬ (0 : Int) ≤ (j : Int) - 1 := h6; omega
  have ej : tmvs (L.drop j).reverse = tmvs L.reverse := by rw [hj0]; rfl
  rw [ej]
  have f0 : FrmS L s := h9.frmS0 hs (by omega)
  have f1 : FrmS L.reverse s := frmS_of (fun t ht => h9.tm t (List.mem_reverse.1 ht)) hs (by
    have : ∀ m : List Tm, Tm.sizes m.reverse = Tm.sizes m := by
      intro m
      induction m with
      | nil => rfl
      | cons t m ih => rw [List.reverse_cons, Tm.sizes_append, ih]; simp only [Tm.sizes]; omega
    rw [this]; omega) (by rw [List.length_reverse]; omega)
  have f2 : FrmS (L ++ L) s := frmS_of (fun t ht => (List.mem_append.1 ht).elim (h9.tm t) (h9.tm t)) hs (by rw [Tm.sizes_append]; omega) (by rw [List.length_append]; omega)
  have k1 := test_same (fun u => fr_rev) f0 f1
  have k2 := test_same (fun u => fr_dup) f0 f2
  have t0 := testable_ok f0
  have t1 := testable_ok f1
  have t2 := testV_ok (tmvs_appL L L) f2 rfl
  generalize testT L s = x0 at k1 k2 t0
  generalize testT L.reverse s = x1 at k1 t1
  generalize testT (L ++ L) s = x2 at k2 t2
  obtain ⟨u0, b0⟩ := x0
  obtain ⟨u1, b1⟩ := x1
  obtain ⟨u2, b2⟩ := x2
  have k1 : b0 = b1 := k1
  have k2 : b0 = b2 := k2
  subst k1 k2
  have hbb : (b0 == b0) = true := by cases b0 <;> rfl
  repeat (conv => whnf); first | refine IndepAnd (by kernel_rfl) ?_ | refine TreeAnd (by kernel_rfl) ?_ | refine ⟨rfl, ?_⟩ | refine ⟨by decide, ?_⟩ | refine ⟨trivial, ?_⟩ | refine ⟨⟨rfl, trivial⟩, ?_⟩ | refine ⟨Nat.le_of_ble_eq_true rfl, ?_⟩ | refine ⟨⟨_, rfl, rfl⟩, ?_⟩ | refine ⟨⟨rfl, rfl, trivial⟩, ?_⟩ | refine ⟨⟨rfl, rfl, rfl, trivial⟩, ?_⟩ | refine ⟨⟨rfl, rfl, rfl, rfl, trivial⟩, ?_⟩ | refine ⟨⟨rfl, rfl, rfl, rfl, rfl, trivial⟩, ?_⟩
  conv => whnf
  refine ⟨_, CallVC.pr t0 rfl rfl, ?_⟩
  repeat (conv => whnf); first | refine IndepAnd (by kernel_rfl) ?_ | refine TreeAnd (by kernel_rfl) ?_ | refine ⟨rfl, ?_⟩ | refine ⟨by decide, ?_⟩ | refine ⟨trivial, ?_⟩ | refine ⟨⟨rfl, trivial⟩, ?_⟩ | refine ⟨Nat.le_of_ble_eq_true rfl, ?_⟩ | refine ⟨⟨_, rfl, rfl⟩, ?_⟩ | refine ⟨⟨rfl, rfl, trivial⟩, ?_⟩ | refine ⟨⟨rfl, rfl, rfl, trivial⟩, ?_⟩ | refine ⟨⟨rfl, rfl, rfl, rfl, trivial⟩, ?_⟩ | refine ⟨⟨rfl, rfl, rfl, rfl, rfl, trivial⟩, ?_⟩
  conv => whnf
  refine ⟨_, CallVC.pr t1 rfl rfl, ?_⟩
  repeat (conv => whnf); first | refine IndepAnd (by kernel_rfl) ?_ | refine TreeAnd (by kernel_rfl) ?_ | refine ⟨rfl, ?_⟩ | refine ⟨by decide, ?_⟩ | refine ⟨trivial, ?_⟩ | refine ⟨⟨rfl, trivial⟩, ?_⟩ | refine ⟨Nat.le_of_ble_eq_true rfl, ?_⟩ | refine ⟨⟨_, rfl, rfl⟩, ?_⟩ | refine ⟨⟨rfl, rfl, trivial⟩, ?_⟩ | refine ⟨⟨rfl, rfl, rfl, trivial⟩, ?_⟩ | refine ⟨⟨rfl, rfl, rfl, rfl, trivial⟩, ?_⟩ | refine ⟨⟨rfl, rfl, rfl, rfl, rfl, trivial⟩, ?_⟩
  conv => whnf
  cases b0
  all_goals
    repeat' ((conv => whnf); first | refine IndepAnd (by kernel_rfl) ?_ | refine TreeAnd (by kernel_rfl) ?_ | refine ⟨rfl, ?_⟩ | refine ⟨by decide, ?_⟩ | refine ⟨trivial, ?_⟩ | refine ⟨⟨rfl, trivial⟩, ?_⟩ | refine ⟨Nat.le_of_ble_eq_true rfl, ?_⟩ | refine ⟨⟨_, rfl, rfl⟩, ?_⟩ | refine ⟨⟨rfl, rfl, trivial⟩, ?_⟩ | refine ⟨⟨rfl, rfl, rfl, trivial⟩, ?_⟩ | refine ⟨⟨rfl, rfl, rfl, rfl, trivial⟩, ?_⟩ | refine ⟨⟨rfl, rfl, rfl, rfl, rfl, trivial⟩, ?_⟩ | refine AltAnd ?_ ?_ | refine ⟨tmvs_sz L, ?_⟩ | refine ⟨l0, ?_⟩ | refine ⟨l1, ?_⟩ | refine ⟨_, CallVC.pr t2 rfl rfl, ?_⟩ | fail)
    all_goals (conv => whnf)
    all_goals exact LEP.refl _
end Go.Sl
