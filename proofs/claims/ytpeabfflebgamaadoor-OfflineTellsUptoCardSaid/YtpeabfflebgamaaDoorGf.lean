/- Contracts: what the statements on terms share. -/
import Derived.Test.YtpeabfflebgamaaDoorGe
set_option linter.unusedVariables false
set_option linter.unusedSimpArgs false
namespace Go.Sl
open Go Go.Vc Go.Proofs Go.RowKit

abbrev exT : Tm := encT (atomT [107]) (pairT [dataT [120]])
abbrev exS : Tm := .mk 9 [] [atomT [120], atomT [121]]
theorem txt_leaf (k : Int) (c : UInt8) : (Tm.mk k [c] []).text = Tm.letter k :: (49 :: 58 :: c :: (if k ≠ 3 then [] else [40, 41])) := by
  rw [Tm.text]
  simp [Tm.nameText, Lib.decDigits_one, Tm.texts]
theorem exT_text : exT.text = [101, 40, 97, 49, 58, 107, 44, 112, 40, 100, 49, 58, 120, 41, 41] := by
  rw [exT, encT, Tm.text, pairT]
  simp only [Tm.texts, Tm.texts', Tm.text, Tm.nameText]
  simp [Lib.decDigits_one, Tm.letter]
theorem exT_shp : shpD exT 60 = true := by rfl
theorem exT_ord : ordT exT = true := by
  simp [exT, encT, atomT, pairT, dataT, ordT, ordTs]
theorem exS_less : lessT (atomT [120]) (atomT [121]) = true := by
  rw [lessT, txtT, txtT, if_pos (by rfl), if_pos (by rfl), txt_leaf, txt_leaf]
  rfl
theorem exS_ord : ordT exS = true := by
  rw [exS, ordT]
  simp only [List.getD_cons_zero, List.getD_cons_succ, atomT, txt_leaf, ordTs, ordT]
  rfl
theorem exS_shp : shpD exS 60 = true := by rfl
theorem zero_shp : shpD (.mk 0 [] []) 60 = false := by rfl
theorem exT_sub : (subT exT).length = 4 := by decide
theorem exS_text : exS.text.length ≤ 1099511627776 := by
  rw [exS, Tm.text]
  simp only [Tm.texts, Tm.texts', txt_leaf]
  decide
theorem LE_leafS (k : Int) (n : Bs) : LE (.p (.agg [.int .i64 k, .str n, .nilS])) (tv (.mk k n [])) := fun ok β w v h => LE_leaf k n ok w v h
end Go.Sl
