/- Contracts: what the statements on terms share. -/
import Derived.Test.YtcdbgkcijelopaaDoorGe
set_option linter.unusedVariables false
set_option linter.unusedSimpArgs false
namespace Go.Sl
open Go Go.Vc Go.Proofs Go.RowKit

abbrev exT : Tm := encT (atomT [107]) (pairT [dataT [120]])
abbrev exS : Tm := .mk 9 [] [atomT [120], atomT [121]]
theorem txt_leaf (k : Int) (c : UInt8) : (Tm.mk k [c] []).text = Tm.letter k :: (49 :: 58 :: c :: (if k ≠ 3 then [] else [40, 41])) := by
  rw [Tm.text]
  simp [Tm.nameText, Lib.decDigits_one, Tm.texts]
theorem exT_text : exT.text = [101, 40, 97, 49, 58, 107, 44, 112, 40, 100, 49, 58, 120, 41, 41] := by
  rw [exT, encT, Tm.text, pairT]
  simp only [Tm.texts, Tm.texts', Tm.text, Tm.nameText]
  simp [Lib.decDigits_one, Tm.letter]
theorem exT_shp : shpD exT 60 = true := by rfl
theorem exT_ord : ordT exT = true := by
  simp [exT, encT, atomT, pairT, dataT, ordT, ordTs]
theorem exS_less : lessT (atomT [120]) (atomT [121]) = true := by
  rw [lessT, txtT, txtT, if_pos (by rfl), if_pos (by rfl), txt_leaf, txt_leaf]
  rfl
theorem exS_ord : ordT exS = true := by
  rw [exS, ordT]
  simp only [List.getD_cons_zero, List.getD_cons_succ, atomT, txt_leaf, ordTs, ordT]
  rfl
theorem exS_shp : shpD exS 60 = true := by rfl
theorem zero_shp : shpD (.mk 0 [] []) 60 = false := by rfl
theorem exT_sub : (subT exT).length = 4 := by decide
theorem exS_text : exS.text.length ≤ 1099511627776 := by
  rw [exS, Tm.text]
  simp only [Tm.texts, Tm.texts', txt_leaf]
  decide
theorem LE_leafS (k : Int) (n : Bs) : LE (.p (.agg [.int .i64 k, .str n, .nilS])) (tv (.mk k n [])) := fun ok β w v h => LE_leaf k n ok w v h
theorem shown7_ok : K true 38 [] (.pv (.bool true)) := by
  have fx : Fit (atomT [120]) := Fit.mk (by decide) (by decide) (fun t h => by cases h)
  have fy : Fit (atomT [121]) := Fit.mk (by decide) (by decide) (fun t h => by cases h)
  have fk : Fit (atomT [107]) := Fit.mk (by decide) (by decide) (fun t h => by cases h)
  have fd : Fit (dataT [120]) := Fit.mk (by decide) (by decide) (fun t h => by cases h)
  have fp : Fit (pairT [dataT [120]]) := Fit.mk (by simp) (by decide) (fun t h => by rw [List.mem_singleton.1 h]; exact fd)
  have ft : Fit exT := Fit.mk (by simp) (by decide) (fun t h => by simp at h; rcases h with rfl | rfl <;> assumption)
  have fs : Fit exS := Fit.mk (by simp) (by decide) (fun t h => by simp at h; rcases h with rfl | rfl <;> assumption)
  have fz : Fit (.mk 0 [] []) := Fit.mk (by decide) (by decide) (fun t h => by cases h)
  have hT := Text_ok exT ft (fun _ => by rw [exT_text]; decide)
  rw [txtT, if_pos exT_shp, exT_text] at hT
  have hR := right_ok exT ft (fun _ => by rw [exT_text]; decide)
  rw [rightT, exT_shp, exT_ord] at hR
  have hZ := right_ok (.mk 0 [] []) fz (fun h => by rw [zero_shp] at h; cases h)
  rw [rightT, zero_shp] at hZ
  have hS := share_ok (atomT [121]) (atomT [120]) fy fx (fun _ => by rw [txt_leaf]; decide) (fun _ => by rw [txt_leaf]; decide)
  rw [shareT, if_pos exS_less] at hS
  have hRS := right_ok exS fs (fun _ => exS_text)
  rw [rightT, exS_shp, exS_ord] at hRS
  have hD := Depth_ok true exT ft
  have hN := size_ok true exT ft
  have hU := sub_ok true exT ft (by decide)
  have hUl : (tmvs (subT exT)).length = 4 := by rw [tmvs_length, exT_sub]
  rw [show depT exT 61 = 3 by rfl] at hD
  rw [show IntKind.i64.wrap (exT.size : Nat) = 4 by rfl] at hN
  revert hU hUl
  generalize subT exT = l
  intro hU hUl
  refine PC_of_vc (cx_ok true) (mixed true) {} Tryd.func38 (by kernel_rfl) rfl rfl (by kernel_rfl) ?_
  repeat (conv => whnf); first | refine IndepAnd (by kernel_rfl) ?_ | refine TreeAnd (by kernel_rfl) ?_ | refine ⟨rfl, ?_⟩ | refine ⟨by decide, ?_⟩ | refine ⟨trivial, ?_⟩ | refine ⟨⟨rfl, trivial⟩, ?_⟩ | refine ⟨Nat.le_of_ble_eq_true rfl, ?_⟩ | refine ⟨⟨_, rfl, rfl⟩, ?_⟩ | refine ⟨⟨rfl, rfl, trivial⟩, ?_⟩ | refine ⟨⟨rfl, rfl, rfl, trivial⟩, ?_⟩ | refine ⟨⟨rfl, rfl, rfl, rfl, trivial⟩, ?_⟩ | refine ⟨⟨rfl, rfl, rfl, rfl, rfl, trivial⟩, ?_⟩
  conv => whnf
  refine ⟨_, CallVC.pr (atom_ok true [107]) rfl rfl, ?_⟩
  repeat (conv => whnf); first | refine IndepAnd (by kernel_rfl) ?_ | refine TreeAnd (by kernel_rfl) ?_ | refine ⟨rfl, ?_⟩ | refine ⟨by decide, ?_⟩ | refine ⟨trivial, ?_⟩ | refine ⟨⟨rfl, trivial⟩, ?_⟩ | refine ⟨Nat.le_of_ble_eq_true rfl, ?_⟩ | refine ⟨⟨_, rfl, rfl⟩, ?_⟩ | refine ⟨⟨rfl, rfl, trivial⟩, ?_⟩ | refine ⟨⟨rfl, rfl, rfl, trivial⟩, ?_⟩ | refine ⟨⟨rfl, rfl, rfl, rfl, trivial⟩, ?_⟩ | refine ⟨⟨rfl, rfl, rfl, rfl, rfl, trivial⟩, ?_⟩
  conv => whnf
  refine ⟨_, CallVC.pr (data_ok true [120]) rfl rfl, ?_⟩
  repeat (conv => whnf); first | refine IndepAnd (by kernel_rfl) ?_ | refine TreeAnd (by kernel_rfl) ?_ | refine ⟨rfl, ?_⟩ | refine ⟨by decide, ?_⟩ | refine ⟨trivial, ?_⟩ | refine ⟨⟨rfl, trivial⟩, ?_⟩ | refine ⟨Nat.le_of_ble_eq_true rfl, ?_⟩ | refine ⟨⟨_, rfl, rfl⟩, ?_⟩ | refine ⟨⟨rfl, rfl, trivial⟩, ?_⟩ | refine ⟨⟨rfl, rfl, rfl, trivial⟩, ?_⟩ | refine ⟨⟨rfl, rfl, rfl, rfl, trivial⟩, ?_⟩ | refine ⟨⟨rfl, rfl, rfl, rfl, rfl, trivial⟩, ?_⟩
  conv => whnf
  refine ⟨_, CallVC.pr (pair_ok true _ [dataT [120]] (tmvs1 _) (by simp)) rfl rfl, ?_⟩
  repeat (conv => whnf); first | refine IndepAnd (by kernel_rfl) ?_ | refine TreeAnd (by kernel_rfl) ?_ | refine ⟨rfl, ?_⟩ | refine ⟨by decide, ?_⟩ | refine ⟨trivial, ?_⟩ | refine ⟨⟨rfl, trivial⟩, ?_⟩ | refine ⟨Nat.le_of_ble_eq_true rfl, ?_⟩ | refine ⟨⟨_, rfl, rfl⟩, ?_⟩ | refine ⟨⟨rfl, rfl, trivial⟩, ?_⟩ | refine ⟨⟨rfl, rfl, rfl, trivial⟩, ?_⟩ | refine ⟨⟨rfl, rfl, rfl, rfl, trivial⟩, ?_⟩ | refine ⟨⟨rfl, rfl, rfl, rfl, rfl, trivial⟩, ?_⟩
  conv => whnf
  refine ⟨_, CallVC.pr (enc_ok true (atomT [107]) (pairT [dataT [120]])) rfl rfl, ?_⟩
  repeat (conv => whnf); first | refine IndepAnd (by kernel_rfl) ?_ | refine TreeAnd (by kernel_rfl) ?_ | refine ⟨rfl, ?_⟩ | refine ⟨by decide, ?_⟩ | refine ⟨trivial, ?_⟩ | refine ⟨⟨rfl, trivial⟩, ?_⟩ | refine ⟨Nat.le_of_ble_eq_true rfl, ?_⟩ | refine ⟨⟨_, rfl, rfl⟩, ?_⟩ | refine ⟨⟨rfl, rfl, trivial⟩, ?_⟩ | refine ⟨⟨rfl, rfl, rfl, trivial⟩, ?_⟩ | refine ⟨⟨rfl, rfl, rfl, rfl, trivial⟩, ?_⟩ | refine ⟨⟨rfl, rfl, rfl, rfl, rfl, trivial⟩, ?_⟩
  conv => whnf
  refine ⟨_, CallVC.pr (atom_ok true [121]) rfl rfl, ?_⟩
  repeat (conv => whnf); first | refine IndepAnd (by kernel_rfl) ?_ | refine TreeAnd (by kernel_rfl) ?_ | refine ⟨rfl, ?_⟩ | refine ⟨by decide, ?_⟩ | refine ⟨trivial, ?_⟩ | refine ⟨⟨rfl, trivial⟩, ?_⟩ | refine ⟨Nat.le_of_ble_eq_true rfl, ?_⟩ | refine ⟨⟨_, rfl, rfl⟩, ?_⟩ | refine ⟨⟨rfl, rfl, trivial⟩, ?_⟩ | refine ⟨⟨rfl, rfl, rfl, trivial⟩, ?_⟩ | refine ⟨⟨rfl, rfl, rfl, rfl, trivial⟩, ?_⟩ | refine ⟨⟨rfl, rfl, rfl, rfl, rfl, trivial⟩, ?_⟩
  conv => whnf
  refine ⟨_, CallVC.pr (atom_ok true [120]) rfl rfl, ?_⟩
  repeat (conv => whnf); first | refine IndepAnd (by kernel_rfl) ?_ | refine TreeAnd (by kernel_rfl) ?_ | refine ⟨rfl, ?_⟩ | refine ⟨by decide, ?_⟩ | refine ⟨trivial, ?_⟩ | refine ⟨⟨rfl, trivial⟩, ?_⟩ | refine ⟨Nat.le_of_ble_eq_true rfl, ?_⟩ | refine ⟨⟨_, rfl, rfl⟩, ?_⟩ | refine ⟨⟨rfl, rfl, trivial⟩, ?_⟩ | refine ⟨⟨rfl, rfl, rfl, trivial⟩, ?_⟩ | refine ⟨⟨rfl, rfl, rfl, rfl, trivial⟩, ?_⟩ | refine ⟨⟨rfl, rfl, rfl, rfl, rfl, trivial⟩, ?_⟩
  conv => whnf
  refine ⟨_, CallVC.pr hS rfl rfl, ?_⟩
  repeat (conv => whnf); first | refine IndepAnd (by kernel_rfl) ?_ | refine TreeAnd (by kernel_rfl) ?_ | refine ⟨rfl, ?_⟩ | refine ⟨by decide, ?_⟩ | refine ⟨trivial, ?_⟩ | refine ⟨⟨rfl, trivial⟩, ?_⟩ | refine ⟨Nat.le_of_ble_eq_true rfl, ?_⟩ | refine ⟨⟨_, rfl, rfl⟩, ?_⟩ | refine ⟨⟨rfl, rfl, trivial⟩, ?_⟩ | refine ⟨⟨rfl, rfl, rfl, trivial⟩, ?_⟩ | refine ⟨⟨rfl, rfl, rfl, rfl, trivial⟩, ?_⟩ | refine ⟨⟨rfl, rfl, rfl, rfl, rfl, trivial⟩, ?_⟩
  conv => whnf
  refine ⟨_, CallVC.pr hT rfl rfl, ?_⟩
  repeat (conv => whnf); first | refine IndepAnd (by kernel_rfl) ?_ | refine TreeAnd (by kernel_rfl) ?_ | refine ⟨rfl, ?_⟩ | refine ⟨by decide, ?_⟩ | refine ⟨trivial, ?_⟩ | refine ⟨⟨rfl, trivial⟩, ?_⟩ | refine ⟨Nat.le_of_ble_eq_true rfl, ?_⟩ | refine ⟨⟨_, rfl, rfl⟩, ?_⟩ | refine ⟨⟨rfl, rfl, trivial⟩, ?_⟩ | refine ⟨⟨rfl, rfl, rfl, trivial⟩, ?_⟩ | refine ⟨⟨rfl, rfl, rfl, rfl, trivial⟩, ?_⟩ | refine ⟨⟨rfl, rfl, rfl, rfl, rfl, trivial⟩, ?_⟩
  conv => whnf
  refine ⟨_, CallVC.pr hR rfl rfl, ?_⟩
  repeat (conv => whnf); first | refine IndepAnd (by kernel_rfl) ?_ | refine TreeAnd (by kernel_rfl) ?_ | refine ⟨rfl, ?_⟩ | refine ⟨by decide, ?_⟩ | refine ⟨trivial, ?_⟩ | refine ⟨⟨rfl, trivial⟩, ?_⟩ | refine ⟨Nat.le_of_ble_eq_true rfl, ?_⟩ | refine ⟨⟨_, rfl, rfl⟩, ?_⟩ | refine ⟨⟨rfl, rfl, trivial⟩, ?_⟩ | refine ⟨⟨rfl, rfl, rfl, trivial⟩, ?_⟩ | refine ⟨⟨rfl, rfl, rfl, rfl, trivial⟩, ?_⟩ | refine ⟨⟨rfl, rfl, rfl, rfl, rfl, trivial⟩, ?_⟩
  conv => whnf
  refine ⟨_, CallVC.le hZ (LEL.cons (LE_leafS 0 []) LEL.nil) rfl rfl, ?_⟩
  repeat (conv => whnf); first | refine IndepAnd (by kernel_rfl) ?_ | refine TreeAnd (by kernel_rfl) ?_ | refine ⟨rfl, ?_⟩ | refine ⟨by decide, ?_⟩ | refine ⟨trivial, ?_⟩ | refine ⟨⟨rfl, trivial⟩, ?_⟩ | refine ⟨Nat.le_of_ble_eq_true rfl, ?_⟩ | refine ⟨⟨_, rfl, rfl⟩, ?_⟩ | refine ⟨⟨rfl, rfl, trivial⟩, ?_⟩ | refine ⟨⟨rfl, rfl, rfl, trivial⟩, ?_⟩ | refine ⟨⟨rfl, rfl, rfl, rfl, trivial⟩, ?_⟩ | refine ⟨⟨rfl, rfl, rfl, rfl, rfl, trivial⟩, ?_⟩
  conv => whnf
  refine ⟨_, rfl, rfl, rfl, ?_⟩
  repeat (conv => whnf); first | refine IndepAnd (by kernel_rfl) ?_ | refine TreeAnd (by kernel_rfl) ?_ | refine ⟨rfl, ?_⟩ | refine ⟨by decide, ?_⟩ | refine ⟨trivial, ?_⟩ | refine ⟨⟨rfl, trivial⟩, ?_⟩ | refine ⟨Nat.le_of_ble_eq_true rfl, ?_⟩ | refine ⟨⟨_, rfl, rfl⟩, ?_⟩ | refine ⟨⟨rfl, rfl, trivial⟩, ?_⟩ | refine ⟨⟨rfl, rfl, rfl, trivial⟩, ?_⟩ | refine ⟨⟨rfl, rfl, rfl, rfl, trivial⟩, ?_⟩ | refine ⟨⟨rfl, rfl, rfl, rfl, rfl, trivial⟩, ?_⟩
  conv => whnf
  refine ⟨_, CallVC.pr hRS rfl rfl, ?_⟩
  repeat (conv => whnf); first | refine IndepAnd (by kernel_rfl) ?_ | refine TreeAnd (by kernel_rfl) ?_ | refine ⟨rfl, ?_⟩ | refine ⟨by decide, ?_⟩ | refine ⟨trivial, ?_⟩ | refine ⟨⟨rfl, trivial⟩, ?_⟩ | refine ⟨Nat.le_of_ble_eq_true rfl, ?_⟩ | refine ⟨⟨_, rfl, rfl⟩, ?_⟩ | refine ⟨⟨rfl, rfl, trivial⟩, ?_⟩ | refine ⟨⟨rfl, rfl, rfl, trivial⟩, ?_⟩ | refine ⟨⟨rfl, rfl, rfl, rfl, trivial⟩, ?_⟩ | refine ⟨⟨rfl, rfl, rfl, rfl, rfl, trivial⟩, ?_⟩
  conv => whnf
  refine ⟨_, CallVC.pr hD rfl rfl, ?_⟩
  repeat (conv => whnf); first | refine IndepAnd (by kernel_rfl) ?_ | refine TreeAnd (by kernel_rfl) ?_ | refine ⟨rfl, ?_⟩ | refine ⟨by decide, ?_⟩ | refine ⟨trivial, ?_⟩ | refine ⟨⟨rfl, trivial⟩, ?_⟩ | refine ⟨Nat.le_of_ble_eq_true rfl, ?_⟩ | refine ⟨⟨_, rfl, rfl⟩, ?_⟩ | refine ⟨⟨rfl, rfl, trivial⟩, ?_⟩ | refine ⟨⟨rfl, rfl, rfl, trivial⟩, ?_⟩ | refine ⟨⟨rfl, rfl, rfl, rfl, trivial⟩, ?_⟩ | refine ⟨⟨rfl, rfl, rfl, rfl, rfl, trivial⟩, ?_⟩
  conv => whnf
  refine ⟨_, CallVC.pr hN rfl rfl, ?_⟩
  repeat (conv => whnf); first | refine IndepAnd (by kernel_rfl) ?_ | refine TreeAnd (by kernel_rfl) ?_ | refine ⟨rfl, ?_⟩ | refine ⟨by decide, ?_⟩ | refine ⟨trivial, ?_⟩ | refine ⟨⟨rfl, trivial⟩, ?_⟩ | refine ⟨Nat.le_of_ble_eq_true rfl, ?_⟩ | refine ⟨⟨_, rfl, rfl⟩, ?_⟩ | refine ⟨⟨rfl, rfl, trivial⟩, ?_⟩ | refine ⟨⟨rfl, rfl, rfl, trivial⟩, ?_⟩ | refine ⟨⟨rfl, rfl, rfl, rfl, trivial⟩, ?_⟩ | refine ⟨⟨rfl, rfl, rfl, rfl, rfl, trivial⟩, ?_⟩
  conv => whnf
  refine ⟨_, CallVC.pr hU rfl rfl, ?_⟩
  repeat (conv => whnf); first | refine IndepAnd (by kernel_rfl) ?_ | refine TreeAnd (by kernel_rfl) ?_ | refine ⟨rfl, ?_⟩ | refine ⟨by decide, ?_⟩ | refine ⟨trivial, ?_⟩ | refine ⟨⟨rfl, trivial⟩, ?_⟩ | refine ⟨Nat.le_of_ble_eq_true rfl, ?_⟩ | refine ⟨⟨_, rfl, rfl⟩, ?_⟩ | refine ⟨⟨rfl, rfl, trivial⟩, ?_⟩ | refine ⟨⟨rfl, rfl, rfl, trivial⟩, ?_⟩ | refine ⟨⟨rfl, rfl, rfl, rfl, trivial⟩, ?_⟩ | refine ⟨⟨rfl, rfl, rfl, rfl, rfl, trivial⟩, ?_⟩
  conv => whnf
  refine @bool_rec _ _ _ ?_ ?_ <;> intro h1
  · repeat (conv => whnf); first | refine IndepAnd (by kernel_rfl) ?_ | refine TreeAnd (by kernel_rfl) ?_ | refine ⟨rfl, ?_⟩ | refine ⟨by decide, ?_⟩ | refine ⟨trivial, ?_⟩ | refine ⟨⟨rfl, trivial⟩, ?_⟩ | refine ⟨Nat.le_of_ble_eq_true rfl, ?_⟩ | refine ⟨⟨_, rfl, rfl⟩, ?_⟩ | refine ⟨⟨rfl, rfl, trivial⟩, ?_⟩ | refine ⟨⟨rfl, rfl, rfl, trivial⟩, ?_⟩ | refine ⟨⟨rfl, rfl, rfl, rfl, trivial⟩, ?_⟩ | refine ⟨⟨rfl, rfl, rfl, rfl, rfl, trivial⟩, ?_⟩
    conv => whnf
    exact LEP.refl _
  · rw [hUl] at h1
    simp at h1
end Go.Sl
