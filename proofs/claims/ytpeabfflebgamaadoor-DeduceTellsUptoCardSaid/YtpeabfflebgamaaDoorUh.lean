/- DeduceTells: what somebody knows is what the document says. -/
/- short -/
import Derived.Test.YtpeabfflebgamaaDoorUg
set_option linter.unusedVariables false
set_option linter.unusedSimpArgs false
namespace Go.Sl
open Go Go.Vc Go.Proofs Go.RowKit

theorem dtells_ok (l : List Tm) (g : Tm) (hf : ∀ t ∈ l, Fit t) (hl : l.length ≤ 9223372036854775807) (fg : Fit g) (hw : wts l + wt g ≤ 1048576) : K true 3 [lv l, tv g] (.pv (.bool true)) := by
  obtain ⟨L, eL⟩ : ∃ L, L = few8 l := ⟨_, rfl⟩
  have hF : Frm L := by rw [eL]; exact frm_few0 hf (by omega)
  have hfew : K true 6 [lv l] (.pv (.lst (tmvs L))) := by rw [eL]; exact few8_ok l hf hl
  have hLl : L.length ≤ 1000 := by have := few_len8 l; rw [eL]; omega
  have hok : Okl L := ⟨hF.fit, hF.wt, by omega⟩
  have hAn := analyze_ok hF
  have hAn8 := analyze8_ok true L hF
  have gw : wt g ≤ 1000000000 := by omega
  have hMd := madeL_ok hF fg gw
  have hKn := knowsF_ok hF fg gw
  have hS1 := sameall_ok true L L (by omega) hF.fit
  rw [decide_eq_true rfl] at hS1
  have hS2 := sameall_ok true (anT L) (anT L) (by have := (an_okl hF).len; omega) (an_okl hF).fit
  rw [decide_eq_true rfl] at hS2
  obtain ⟨vm, evm⟩ : ∃ v, v = mdT L g := ⟨_, rfl⟩
  obtain ⟨vk, evk⟩ : ∃ v, v = knT L g := ⟨_, rfl⟩
  rw [← evm] at hMd
  rw [← evk] at hKn
  refine PC_of_vc (cx_ok true) (mixed true) { own := fun q => Nat.beq q 19 || Nat.beq q 21, fz := fun r => cond (Nat.beq r 6) [19] [] } Tryd.func3 (by kernel_rfl) rfl rfl (by kernel_rfl) ?_
  repeat (conv => whnf); first | refine IndepAnd (by kernel_rfl) ?_ | refine ⟨rfl, ?_⟩ | refine ⟨by decide, ?_⟩ | refine ⟨trivial, ?_⟩ | refine ⟨⟨_, rfl, rfl⟩, ?_⟩ | refine ⟨⟨rfl, trivial⟩, ?_⟩ | refine ⟨⟨rfl, rfl, trivial⟩, ?_⟩
  conv => whnf
  refine ⟨_, CallVC.pr shown8_ok rfl rfl, ?_⟩
  repeat (conv => whnf); first | refine IndepAnd (by kernel_rfl) ?_ | refine ⟨rfl, ?_⟩ | refine ⟨by decide, ?_⟩ | refine ⟨trivial, ?_⟩ | refine ⟨⟨_, rfl, rfl⟩, ?_⟩ | refine ⟨⟨rfl, trivial⟩, ?_⟩ | refine ⟨⟨rfl, rfl, trivial⟩, ?_⟩
  conv => whnf
  refine ⟨_, CallVC.pr hfew rfl rfl, ?_⟩
  repeat (conv => whnf); first | refine IndepAnd (by kernel_rfl) ?_ | refine ⟨rfl, ?_⟩ | refine ⟨by decide, ?_⟩ | refine ⟨trivial, ?_⟩ | refine ⟨⟨_, rfl, rfl⟩, ?_⟩ | refine ⟨⟨rfl, trivial⟩, ?_⟩ | refine ⟨⟨rfl, rfl, trivial⟩, ?_⟩
  conv => whnf
  refine ⟨_, CallVC.pr (small8_ok true g fg) rfl rfl, ?_⟩
  repeat (conv => whnf); first | refine IndepAnd (by kernel_rfl) ?_ | refine ⟨rfl, ?_⟩ | refine ⟨by decide, ?_⟩ | refine ⟨trivial, ?_⟩ | refine ⟨⟨_, rfl, rfl⟩, ?_⟩ | refine ⟨⟨rfl, trivial⟩, ?_⟩ | refine ⟨⟨rfl, rfl, trivial⟩, ?_⟩
  conv => whnf
  refine @bool_rec _ _ _ ?_ ?_ <;> intro h1
  · repeat (conv => whnf); first | refine IndepAnd (by kernel_rfl) ?_ | refine ⟨rfl, ?_⟩ | refine ⟨by decide, ?_⟩ | refine ⟨trivial, ?_⟩ | refine ⟨⟨_, rfl, rfl⟩, ?_⟩ | refine ⟨⟨rfl, trivial⟩, ?_⟩ | refine ⟨⟨rfl, rfl, trivial⟩, ?_⟩
    conv => whnf
    exact LEP.refl _
  have hx : g.size ≤ 20 := by have h1 : (!decide (g.size ≤ 20)) = false := h1; simpa using h1
  have hMd8 := made8_ok true L g hok fg gw (by omega)
  have hKn8 := knows8_ok true L g hF fg gw (by omega)
  rw [← evm] at hMd8
  rw [← evk] at hKn8
  repeat (conv => whnf); first | refine IndepAnd (by kernel_rfl) ?_ | refine ⟨rfl, ?_⟩ | refine ⟨by decide, ?_⟩ | refine ⟨trivial, ?_⟩ | refine ⟨⟨_, rfl, rfl⟩, ?_⟩ | refine ⟨⟨rfl, trivial⟩, ?_⟩ | refine ⟨⟨rfl, rfl, trivial⟩, ?_⟩
  conv => whnf
  refine ⟨tmvs_sz L, ?_⟩
  repeat (conv => whnf); first | refine IndepAnd (by kernel_rfl) ?_ | refine ⟨rfl, ?_⟩ | refine ⟨by decide, ?_⟩ | refine ⟨trivial, ?_⟩ | refine ⟨⟨_, rfl, rfl⟩, ?_⟩ | refine ⟨⟨rfl, trivial⟩, ?_⟩ | refine ⟨⟨rfl, rfl, trivial⟩, ?_⟩
  conv => whnf
  refine ⟨len_app0 hLl, ?_⟩
  repeat (conv => whnf); first | refine IndepAnd (by kernel_rfl) ?_ | refine ⟨rfl, ?_⟩ | refine ⟨by decide, ?_⟩ | refine ⟨trivial, ?_⟩ | refine ⟨⟨_, rfl, rfl⟩, ?_⟩ | refine ⟨⟨rfl, trivial⟩, ?_⟩ | refine ⟨⟨rfl, rfl, trivial⟩, ?_⟩
  conv => whnf
  refine ⟨_, CallVC.pr hAn rfl rfl, ?_⟩
  repeat (conv => whnf); first | refine IndepAnd (by kernel_rfl) ?_ | refine ⟨rfl, ?_⟩ | refine ⟨by decide, ?_⟩ | refine ⟨trivial, ?_⟩ | refine ⟨⟨_, rfl, rfl⟩, ?_⟩ | refine ⟨⟨rfl, trivial⟩, ?_⟩ | refine ⟨⟨rfl, rfl, trivial⟩, ?_⟩
  conv => whnf
  refine ⟨_, CallVC.pr hMd rfl rfl, ?_⟩
  repeat (conv => whnf); first | refine IndepAnd (by kernel_rfl) ?_ | refine ⟨rfl, ?_⟩ | refine ⟨by decide, ?_⟩ | refine ⟨trivial, ?_⟩ | refine ⟨⟨_, rfl, rfl⟩, ?_⟩ | refine ⟨⟨rfl, trivial⟩, ?_⟩ | refine ⟨⟨rfl, rfl, trivial⟩, ?_⟩
  conv => whnf
  refine ⟨_, CallVC.pr hKn rfl rfl, ?_⟩
  repeat (conv => whnf); first | refine IndepAnd (by kernel_rfl) ?_ | refine ⟨rfl, ?_⟩ | refine ⟨by decide, ?_⟩ | refine ⟨trivial, ?_⟩ | refine ⟨⟨_, rfl, rfl⟩, ?_⟩ | refine ⟨⟨rfl, trivial⟩, ?_⟩ | refine ⟨⟨rfl, rfl, trivial⟩, ?_⟩
  conv => whnf
  refine ⟨_, CallVC.pr hS1 rfl rfl, ?_⟩
  repeat (conv => whnf); first | refine IndepAnd (by kernel_rfl) ?_ | refine ⟨rfl, ?_⟩ | refine ⟨by decide, ?_⟩ | refine ⟨trivial, ?_⟩ | refine ⟨⟨_, rfl, rfl⟩, ?_⟩ | refine ⟨⟨rfl, trivial⟩, ?_⟩ | refine ⟨⟨rfl, rfl, trivial⟩, ?_⟩
  conv => whnf
  refine ⟨_, CallVC.pr hAn8 rfl rfl, ?_⟩
  repeat (conv => whnf); first | refine IndepAnd (by kernel_rfl) ?_ | refine ⟨rfl, ?_⟩ | refine ⟨by decide, ?_⟩ | refine ⟨trivial, ?_⟩ | refine ⟨⟨_, rfl, rfl⟩, ?_⟩ | refine ⟨⟨rfl, trivial⟩, ?_⟩ | refine ⟨⟨rfl, rfl, trivial⟩, ?_⟩
  conv => whnf
  refine ⟨_, CallVC.pr hS2 rfl rfl, ?_⟩
  repeat (conv => whnf); first | refine IndepAnd (by kernel_rfl) ?_ | refine ⟨rfl, ?_⟩ | refine ⟨by decide, ?_⟩ | refine ⟨trivial, ?_⟩ | refine ⟨⟨_, rfl, rfl⟩, ?_⟩ | refine ⟨⟨rfl, trivial⟩, ?_⟩ | refine ⟨⟨rfl, rfl, trivial⟩, ?_⟩
  conv => whnf
  refine ⟨_, CallVC.pr hMd8 rfl rfl, ?_⟩
  repeat (conv => whnf); first | refine IndepAnd (by kernel_rfl) ?_ | refine ⟨rfl, ?_⟩ | refine ⟨by decide, ?_⟩ | refine ⟨trivial, ?_⟩ | refine ⟨⟨_, rfl, rfl⟩, ?_⟩ | refine ⟨⟨rfl, trivial⟩, ?_⟩ | refine ⟨⟨rfl, rfl, trivial⟩, ?_⟩
  conv => whnf
  rw [show (vm == vm) = true from beq_self_eq_true vm]
  repeat (conv => whnf); first | refine IndepAnd (by kernel_rfl) ?_ | refine ⟨rfl, ?_⟩ | refine ⟨by decide, ?_⟩ | refine ⟨trivial, ?_⟩ | refine ⟨⟨_, rfl, rfl⟩, ?_⟩ | refine ⟨⟨rfl, trivial⟩, ?_⟩ | refine ⟨⟨rfl, rfl, trivial⟩, ?_⟩
  conv => whnf
  refine ⟨_, CallVC.pr hKn8 rfl rfl, ?_⟩
  repeat (conv => whnf); first | refine IndepAnd (by kernel_rfl) ?_ | refine ⟨rfl, ?_⟩ | refine ⟨by decide, ?_⟩ | refine ⟨trivial, ?_⟩ | refine ⟨⟨_, rfl, rfl⟩, ?_⟩ | refine ⟨⟨rfl, trivial⟩, ?_⟩ | refine ⟨⟨rfl, rfl, trivial⟩, ?_⟩
  conv => whnf
  exact LEP.of (congrArg PV.bool (beq_self_eq_true vk))
end Go.Sl
