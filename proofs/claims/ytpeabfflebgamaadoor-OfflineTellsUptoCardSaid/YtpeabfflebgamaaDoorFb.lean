/- Contracts: terms made. -/
import Derived.Test.YtpeabfflebgamaaDoorFa
set_option linter.unusedVariables false
namespace Go.Sl
open Go Go.Vc Go.Proofs

abbrev dataT (s : Bs) : Tm := .mk 1 s []
abbrev atomT (s : Bs) : Tm := .mk 2 s []
abbrev pairT (l : List Tm) : Tm := .mk 3 [] l
abbrev encT (k m : Tm) : Tm := .mk 4 [] [k, m]
abbrev hashT (t : Tm) : Tm := .mk 6 [] [t]
abbrev kdfT (k : Tm) (s : Bs) : Tm := .mk 7 s [k]
theorem mk_eq {L : List PV} {k : Int} {s : Bs} {l : List Tm} (h : L = tmvs l) : PV.agg [.int .i64 k, .str s, .lst L] = TV (.mk k s l) := by rw [h]; rfl
/-- slices.Clone. -/
theorem Fit.data (k : Int) {s : Bs} (h : s.length ≤ 9223372036854775807) : Fit (.mk k s []) := .mk (by decide) h (fun t h => by cases h)
theorem Fit.one (k : Int) {s : Bs} {t : Tm} (h : s.length ≤ 9223372036854775807) (ht : Fit t) : Fit (.mk k s [t]) := .mk (by simp) h (fun u hu => by simp at hu; rw [hu]; exact ht)
theorem Fit.two (k : Int) {s : Bs} {t u : Tm} (h : s.length ≤ 9223372036854775807) (ht : Fit t) (hu : Fit u) : Fit (.mk k s [t, u]) := .mk (by simp) h (fun v hv => by simp at hv; rcases hv with rfl | rfl <;> assumption)
theorem clone_ok (b : Bool) (L : List PV) (l : List Tm) (hL : L = tmvs l) (hl : l.length * 48 ≤ 140737488355328) : K b 44 [.p (.lst L)] (.pv (.lst (tmvs l))) := by
  subst hL
  refine PC_of_vc (cx_ok b) (mixed b) { own := fun t => Nat.beq t 5 } Tryd.func44 (by kernel_rfl) rfl rfl (by kernel_rfl) ?_
  repeat (conv => whnf); first|refine IndepAnd (by kernel_rfl) ?_|refine TreeAnd (by kernel_rfl) ?_|refine ⟨rfl,?_⟩|refine And.intro (by first|decide|exact trivial|exact ⟨rfl,trivial⟩|exact Nat.le_of_ble_eq_true rfl|exact ⟨_,rfl,rfl⟩|exact ⟨rfl,rfl,trivial⟩|exact ⟨rfl,rfl,rfl,trivial⟩|exact ⟨rfl,rfl,rfl,rfl,trivial⟩|exact ⟨rfl,rfl,rfl,rfl,rfl,trivial⟩) ?_
  conv => whnf
  refine ⟨fun h => ?_, ?_⟩
  · repeat (conv => whnf); first|refine IndepAnd (by kernel_rfl) ?_|refine TreeAnd (by kernel_rfl) ?_|refine ⟨rfl,?_⟩|refine And.intro (by first|decide|exact trivial|exact ⟨rfl,trivial⟩|exact Nat.le_of_ble_eq_true rfl|exact ⟨_,rfl,rfl⟩|exact ⟨rfl,rfl,trivial⟩|exact ⟨rfl,rfl,rfl,trivial⟩|exact ⟨rfl,rfl,rfl,rfl,trivial⟩|exact ⟨rfl,rfl,rfl,rfl,rfl,trivial⟩) ?_
    conv => whnf
    rw [h]
    exact LEP.refl _
  · repeat (conv => whnf); first|refine IndepAnd (by kernel_rfl) ?_|refine TreeAnd (by kernel_rfl) ?_|refine ⟨rfl,?_⟩|refine And.intro (by first|decide|exact trivial|exact ⟨rfl,trivial⟩|exact Nat.le_of_ble_eq_true rfl|exact ⟨_,rfl,rfl⟩|exact ⟨rfl,rfl,trivial⟩|exact ⟨rfl,rfl,rfl,trivial⟩|exact ⟨rfl,rfl,rfl,rfl,trivial⟩|exact ⟨rfl,rfl,rfl,rfl,rfl,trivial⟩) ?_
    conv => whnf
    refine ⟨tmvs_sz l, ?_⟩
    repeat (conv => whnf); first|refine IndepAnd (by kernel_rfl) ?_|refine TreeAnd (by kernel_rfl) ?_|refine ⟨rfl,?_⟩|refine And.intro (by first|decide|exact trivial|exact ⟨rfl,trivial⟩|exact Nat.le_of_ble_eq_true rfl|exact ⟨_,rfl,rfl⟩|exact ⟨rfl,rfl,trivial⟩|exact ⟨rfl,rfl,rfl,trivial⟩|exact ⟨rfl,rfl,rfl,rfl,trivial⟩|exact ⟨rfl,rfl,rfl,rfl,rfl,trivial⟩) ?_
    conv => whnf
    refine ⟨by rw [tmvs_length]; show (0 + l.length) * 48 ≤ _; omega, ?_⟩
    repeat (conv => whnf); first|refine IndepAnd (by kernel_rfl) ?_|refine TreeAnd (by kernel_rfl) ?_|refine ⟨rfl,?_⟩|refine And.intro (by first|decide|exact trivial|exact ⟨rfl,trivial⟩|exact Nat.le_of_ble_eq_true rfl|exact ⟨_,rfl,rfl⟩|exact ⟨rfl,rfl,trivial⟩|exact ⟨rfl,rfl,rfl,trivial⟩|exact ⟨rfl,rfl,rfl,rfl,trivial⟩|exact ⟨rfl,rfl,rfl,rfl,rfl,trivial⟩) ?_
    conv => whnf
    exact LEP.refl _
theorem made_ok (b : Bool) (k : Int) (s : Bs) (L : List PV) (l : List Tm) (hL : L = tmvs l) (hl : l.length * 48 ≤ 140737488355328) : K b 48 [iv k, sv s, .p (.lst L)] (.pv (TV (.mk k s l))) := by
  refine PC_of_vc (cx_ok b) (mixed b) {} Tryd.func48 (by kernel_rfl) rfl rfl (by kernel_rfl) ?_
  repeat (conv => whnf); first|refine IndepAnd (by kernel_rfl) ?_|refine TreeAnd (by kernel_rfl) ?_|refine ⟨rfl,?_⟩|refine And.intro (by first|decide|exact trivial|exact ⟨rfl,trivial⟩|exact Nat.le_of_ble_eq_true rfl|exact ⟨_,rfl,rfl⟩|exact ⟨rfl,rfl,trivial⟩|exact ⟨rfl,rfl,rfl,trivial⟩|exact ⟨rfl,rfl,rfl,rfl,trivial⟩|exact ⟨rfl,rfl,rfl,rfl,rfl,trivial⟩) ?_
  conv => whnf
  refine ⟨_, CallVC.pr (clone_ok b L l hL hl) rfl rfl, ?_⟩
  repeat (conv => whnf); first|refine IndepAnd (by kernel_rfl) ?_|refine TreeAnd (by kernel_rfl) ?_|refine ⟨rfl,?_⟩|refine And.intro (by first|decide|exact trivial|exact ⟨rfl,trivial⟩|exact Nat.le_of_ble_eq_true rfl|exact ⟨_,rfl,rfl⟩|exact ⟨rfl,rfl,trivial⟩|exact ⟨rfl,rfl,rfl,trivial⟩|exact ⟨rfl,rfl,rfl,rfl,trivial⟩|exact ⟨rfl,rfl,rfl,rfl,rfl,trivial⟩) ?_
  conv => whnf
  exact LEP.refl _
theorem made0_ok (b : Bool) (k : Int) (s : Bs) : K b 48 [iv k, sv s, .p .nilS] (.pv (TV (.mk k s []))) := by
  refine PC_of_vc (cx_ok b) (mixed b) {} Tryd.func48 (by kernel_rfl) rfl rfl (by kernel_rfl) ?_
  repeat (conv => whnf); first|refine IndepAnd (by kernel_rfl) ?_|refine TreeAnd (by kernel_rfl) ?_|refine ⟨rfl,?_⟩|refine And.intro (by first|decide|exact trivial|exact ⟨rfl,trivial⟩|exact Nat.le_of_ble_eq_true rfl|exact ⟨_,rfl,rfl⟩|exact ⟨rfl,rfl,trivial⟩|exact ⟨rfl,rfl,rfl,trivial⟩|exact ⟨rfl,rfl,rfl,rfl,trivial⟩|exact ⟨rfl,rfl,rfl,rfl,rfl,trivial⟩) ?_
  conv => whnf
  refine ⟨_, CallVC.le (clone_ok b [] [] rfl (by decide)) (LEL.cons LE_nil LEL.nil) rfl rfl, ?_⟩
  repeat (conv => whnf); first|refine IndepAnd (by kernel_rfl) ?_|refine TreeAnd (by kernel_rfl) ?_|refine ⟨rfl,?_⟩|refine And.intro (by first|decide|exact trivial|exact ⟨rfl,trivial⟩|exact Nat.le_of_ble_eq_true rfl|exact ⟨_,rfl,rfl⟩|exact ⟨rfl,rfl,trivial⟩|exact ⟨rfl,rfl,rfl,trivial⟩|exact ⟨rfl,rfl,rfl,rfl,trivial⟩|exact ⟨rfl,rfl,rfl,rfl,rfl,trivial⟩) ?_
  conv => whnf
  exact LEP.refl _
theorem atom_ok (b : Bool) (s : Bs) : K b 21 [sv s] (.pv (TV (atomT s))) := by
  refine PC_of_vc (cx_ok b) (mixed b) {} Tryd.func21 (by kernel_rfl) rfl rfl (by kernel_rfl) ?_
  repeat (conv => whnf); first|refine IndepAnd (by kernel_rfl) ?_|refine TreeAnd (by kernel_rfl) ?_|refine ⟨rfl,?_⟩|refine And.intro (by first|decide|exact trivial|exact ⟨rfl,trivial⟩|exact Nat.le_of_ble_eq_true rfl|exact ⟨_,rfl,rfl⟩|exact ⟨rfl,rfl,trivial⟩|exact ⟨rfl,rfl,rfl,trivial⟩|exact ⟨rfl,rfl,rfl,rfl,trivial⟩|exact ⟨rfl,rfl,rfl,rfl,rfl,trivial⟩) ?_
  conv => whnf
  refine ⟨_, CallVC.pr (made0_ok b 2 s) rfl rfl, ?_⟩
  repeat (conv => whnf); first|refine IndepAnd (by kernel_rfl) ?_|refine TreeAnd (by kernel_rfl) ?_|refine ⟨rfl,?_⟩|refine And.intro (by first|decide|exact trivial|exact ⟨rfl,trivial⟩|exact Nat.le_of_ble_eq_true rfl|exact ⟨_,rfl,rfl⟩|exact ⟨rfl,rfl,trivial⟩|exact ⟨rfl,rfl,rfl,trivial⟩|exact ⟨rfl,rfl,rfl,rfl,trivial⟩|exact ⟨rfl,rfl,rfl,rfl,rfl,trivial⟩) ?_
  conv => whnf
  exact LEP.refl _
theorem enc_ok (b : Bool) (k m : Tm) : K b 22 [tv k, tv m] (.pv (TV (encT k m))) := by
  refine PC_of_vc (cx_ok b) (mixed b) {} Tryd.func22 (by kernel_rfl) rfl rfl (by kernel_rfl) ?_
  repeat (conv => whnf); first|refine IndepAnd (by kernel_rfl) ?_|refine TreeAnd (by kernel_rfl) ?_|refine ⟨rfl,?_⟩|refine And.intro (by first|decide|exact trivial|exact ⟨rfl,trivial⟩|exact Nat.le_of_ble_eq_true rfl|exact ⟨_,rfl,rfl⟩|exact ⟨rfl,rfl,trivial⟩|exact ⟨rfl,rfl,rfl,trivial⟩|exact ⟨rfl,rfl,rfl,rfl,trivial⟩|exact ⟨rfl,rfl,rfl,rfl,rfl,trivial⟩) ?_
  conv => whnf
  refine ⟨_, CallVC.pr (made_ok b 4 [] _ [k, m] (tmvs2 k m) (by simp)) rfl rfl, ?_⟩
  repeat (conv => whnf); first|refine IndepAnd (by kernel_rfl) ?_|refine TreeAnd (by kernel_rfl) ?_|refine ⟨rfl,?_⟩|refine And.intro (by first|decide|exact trivial|exact ⟨rfl,trivial⟩|exact Nat.le_of_ble_eq_true rfl|exact ⟨_,rfl,rfl⟩|exact ⟨rfl,rfl,trivial⟩|exact ⟨rfl,rfl,rfl,trivial⟩|exact ⟨rfl,rfl,rfl,rfl,trivial⟩|exact ⟨rfl,rfl,rfl,rfl,rfl,trivial⟩) ?_
  conv => whnf
  exact LEP.refl _
theorem hash_ok (b : Bool) (k : Tm) : K b 25 [tv k] (.pv (TV (hashT k))) := by
  refine PC_of_vc (cx_ok b) (mixed b) {} Tryd.func25 (by kernel_rfl) rfl rfl (by kernel_rfl) ?_
  repeat (conv => whnf); first|refine IndepAnd (by kernel_rfl) ?_|refine TreeAnd (by kernel_rfl) ?_|refine ⟨rfl,?_⟩|refine And.intro (by first|decide|exact trivial|exact ⟨rfl,trivial⟩|exact Nat.le_of_ble_eq_true rfl|exact ⟨_,rfl,rfl⟩|exact ⟨rfl,rfl,trivial⟩|exact ⟨rfl,rfl,rfl,trivial⟩|exact ⟨rfl,rfl,rfl,rfl,trivial⟩|exact ⟨rfl,rfl,rfl,rfl,rfl,trivial⟩) ?_
  conv => whnf
  refine ⟨_, CallVC.pr (made_ok b 6 [] _ [k] (tmvs1 k) (by simp)) rfl rfl, ?_⟩
  repeat (conv => whnf); first|refine IndepAnd (by kernel_rfl) ?_|refine TreeAnd (by kernel_rfl) ?_|refine ⟨rfl,?_⟩|refine And.intro (by first|decide|exact trivial|exact ⟨rfl,trivial⟩|exact Nat.le_of_ble_eq_true rfl|exact ⟨_,rfl,rfl⟩|exact ⟨rfl,rfl,trivial⟩|exact ⟨rfl,rfl,rfl,trivial⟩|exact ⟨rfl,rfl,rfl,rfl,trivial⟩|exact ⟨rfl,rfl,rfl,rfl,rfl,trivial⟩) ?_
  conv => whnf
  exact LEP.refl _
theorem kdf_ok (b : Bool) (k : Tm) (s : Bs) : K b 39 [tv k, sv s] (.pv (TV (kdfT k s))) := by
  refine PC_of_vc (cx_ok b) (mixed b) {} Tryd.func39 (by kernel_rfl) rfl rfl (by kernel_rfl) ?_
  repeat (conv => whnf); first|refine IndepAnd (by kernel_rfl) ?_|refine TreeAnd (by kernel_rfl) ?_|refine ⟨rfl,?_⟩|refine And.intro (by first|decide|exact trivial|exact ⟨rfl,trivial⟩|exact Nat.le_of_ble_eq_true rfl|exact ⟨_,rfl,rfl⟩|exact ⟨rfl,rfl,trivial⟩|exact ⟨rfl,rfl,rfl,trivial⟩|exact ⟨rfl,rfl,rfl,rfl,trivial⟩|exact ⟨rfl,rfl,rfl,rfl,rfl,trivial⟩) ?_
  conv => whnf
  refine ⟨_, CallVC.pr (made_ok b 7 s _ [k] (tmvs1 k) (by simp)) rfl rfl, ?_⟩
  repeat (conv => whnf); first|refine IndepAnd (by kernel_rfl) ?_|refine TreeAnd (by kernel_rfl) ?_|refine ⟨rfl,?_⟩|refine And.intro (by first|decide|exact trivial|exact ⟨rfl,trivial⟩|exact Nat.le_of_ble_eq_true rfl|exact ⟨_,rfl,rfl⟩|exact ⟨rfl,rfl,trivial⟩|exact ⟨rfl,rfl,rfl,trivial⟩|exact ⟨rfl,rfl,rfl,rfl,trivial⟩|exact ⟨rfl,rfl,rfl,rfl,rfl,trivial⟩) ?_
  conv => whnf
  exact LEP.refl _
/-! the document's own -/
end Go.Sl
