/- Contracts of layer 9's laws: what is shown first. -/
/- short -/
import Derived.Test.YtpeabfflebgamaaDoorJk
import Derived.Test.YtpeabfflebgamaaDoorPa
set_option linter.unusedVariables false
set_option linter.unusedSimpArgs false
namespace Go.Sl
open Go Go.Vc Go.Proofs Go.RowKit

theorem maskt_ok (b : Bool) (k m : Tm) : K b 40 [tv k, tv m] (.pv (TV (maskT k m))) := by
  refine PC_of_vc (cx_ok b) (mixed b) {} Tryd.func40 (by kernel_rfl) rfl rfl (by kernel_rfl) ?_
  repeat (conv => whnf); first|refine IndepAnd (by kernel_rfl) ?_|refine ⟨rfl,?_⟩|refine And.intro (by first|decide|exact trivial|exact ⟨_,rfl,rfl⟩|exact ⟨rfl,trivial⟩|exact ⟨rfl,rfl,trivial⟩) ?_
  conv => whnf
  refine ⟨_, CallVC.pr (made_ok b 10 [] _ [k, m] (tmvs2 k m) (by simp)) rfl rfl, ?_⟩
  repeat (conv => whnf); first|refine IndepAnd (by kernel_rfl) ?_|refine ⟨rfl,?_⟩|refine And.intro (by first|decide|exact trivial|exact ⟨_,rfl,rfl⟩|exact ⟨rfl,trivial⟩|exact ⟨rfl,rfl,trivial⟩) ?_
  conv => whnf
  exact LEP.refl _
theorem testV_ok {l : List Tm} {s : Tm} {x : Tm × Bool} {L : List PV} (hL : L = tmvs l) (h : FrmS l s) (e : testT l s = x) : K true 18 [.p (.lst L), tv s] (tsR x) := by
  rw [hL, ← e]; exact testable_ok h
/-- A frame of small terms. -/
theorem frmS_of {l : List Tm} {s : Tm} (h : ∀ t ∈ l, TmOk t) (hs : TmOk s) (hz : Tm.sizes l + s.size ≤ 2000) (hl : l.length + 1 ≤ 2000) : FrmS l s := by
  refine ⟨⟨fun t ht => (h t ht).hf, fun t ht => (h t ht).hw, by omega, by omega⟩, ⟨?_, ?_, ?_, by simp; omega⟩, hs⟩
  · intro t ht
    rcases List.mem_append.1 ht with ht | ht
    · exact (h t ht).hf
    · rw [List.mem_singleton.1 ht]; exact (can_ok hs).hf
  · intro t ht
    rcases List.mem_append.1 ht with ht | ht
    · exact (h t ht).hw
    · rw [List.mem_singleton.1 ht]; exact (can_ok hs).hw
  · rw [Tm.sizes_append]
    simp only [Tm.sizes, can_size]
    omega
theorem TmOk.leaf (k : Int) {n : Bs} (h : n.length ≤ 1048576) : TmOk (.mk k n []) := ⟨Fit.data k (by omega), by simp [wt, wts]; omega⟩
abbrev pwN : Bs := [112, 119]
abbrev pwK : Tm := atomT pwN
abbrev stN : Bs := [115, 116, 97, 109, 112]
abbrev w1K : Tm := kdfT pwK [120]
abbrev e1K : Tm := encT w1K (atomT stN)
abbrev m1K : Tm := maskT (pubT xK) (kdfT pwK [121])
theorem g_pw : gdT pwK := gd_atom (by simp)
theorem g_w1 : gdT w1K := gd_kdf (by simp) g_pw (by rw [dA]; decide)
theorem g_e1 : gdT e1K := gd_encT g_w1 (gd_atom (by simp)) (by simp [Tm.depth, Tm.depths]) (by rw [dA]; decide)
theorem fr_e1 {u : Tm} (h : Fr [e1K] u) : u = e1K := by have := fr_one h; rw [g_e1.2] at this; exact this
theorem no_w1 : ¬ Mk (Fr [e1K]) w1K := fun h => by
  rcases ((mk_comp (by decide) (by decide) (by decide)).1 h).2 with h | h
  · have := fr_e1 h; cases this
  · have := (mk_atom.1 (h pwK (List.mem_singleton.2 rfl))).2
    have := fr_e1 this; cases this
theorem ap_e1 : Apart (Fr [e1K]) := fun t ht _ => by
  rw [fr_e1 ht]
  exact ⟨fun k => absurd k (by decide), fun _ x y e h => by cases e; exact absurd h no_w1, fun k => absurd k (by decide)⟩
theorem test_e1 (h : FrmS [e1K] pwK) : testT [e1K] pwK = (e1K, true) := by
  have hT := test_is h
  rw [g_pw.2] at hT
  have nk : ¬ Cl (Fr [e1K]) pwK := fun hc => by
    have := (mk_atom.1 (hc.mk ap_e1)).2
    have := fr_e1 this; cases this
  have f2 : ∀ {u}, Fr ([e1K] ++ [pwK]) u → u = e1K ∨ u = pwK := fun hu => (fr_gone g_pw hu).imp fr_e1 id
  have han : ∀ t, An (Fr ([e1K] ++ [pwK])) t → t = e1K ∨ t = pwK ∨ t = atomT stN := fun t ha => by
    induction ha with
    | base hb _ => exact (f2 hb).imp id .inl
    | pair _ k _ ih => rcases ih with rfl | rfl | rfl <;> exact absurd k (by decide)
    | enc _ k e _ ih =>
      rcases ih with rfl | rfl | rfl
      · cases e; exact .inr (.inr rfl)
      · exact absurd k (by decide)
      · exact absurd k (by decide)
    | mask _ k _ _ ih => rcases ih with rfl | rfl | rfl <;> exact absurd k (by decide)
  have bE : Fr [e1K] e1K := in_fr (List.mem_singleton.2 rfl) g_e1
  generalize testT [e1K] pwK = x at hT
  cases hT with
  | known g k => exact absurd k nk
  | test g k a t =>
    rcases han _ a with rfl | rfl | rfl
    · rfl
    · exact absurd (tst_kind t) (by decide)
    · exact absurd (tst_kind t) (by decide)
  | none g k n =>
    refine absurd ⟨e1K, .base (fr_app.2 (.inl bE)) g_e1, ?_⟩ n
    refine .enc rfl rfl ?_ fun hc => no_w1 (hc.mk ap_e1)
    exact .comp g_w1 (by decide) (by decide) (by decide) fun u hu => by
      rw [List.mem_singleton.1 hu]
      exact .base (fr_app.2 (.inr (in_fr (List.mem_singleton.2 rfl) g_pw))) g_pw
  | no g => exact absurd g_pw g
theorem test_two (h : FrmS [m1K] pwK) : (testT [m1K] pwK).2 = false := by
  have hT := (test_is h).iff
  rw [g_pw.2] at hT
  have h2 : Two [] pwN [120] := ⟨by decide, by decide, by decide, fun v hv => by cases hv⟩
  have := masked_not (n := [121]) h2 (by decide)
  rw [← Bool.not_eq_true, hT]
  exact fun hx => hx.2.elim this.1 this.2
theorem test_known {l : List Tm} {s : Tm} (h : FrmS l s) (g : gdT (canT s)) (hk : Cl (Fr l) (canT s)) : testT l s = (canT s, true) := by
  have hT := test_is h
  generalize testT l s = x at hT
  cases hT with
  | known => rfl
  | test _ k => exact absurd hk k
  | none _ k => exact absurd hk k
  | no n => exact absurd g n
theorem test_nil (h : FrmS [] noTm) : testT [] noTm = (noTm, false) := by
  have hT := test_is h
  have hn : ¬ gdT (canT noTm) := by
    rw [show canT noTm = noTm from canT_atom 0 []]
    intro g
    have := ((shp_mk noTm).1 (txt_ne.1 g.1).1).1.1
    exact absurd this (by decide)
  generalize testT [] noTm = x at hT
  cases hT with
  | known g => exact absurd g hn
  | test g => exact absurd g hn
  | none g => exact absurd g hn
  | no => rfl
theorem LE_nilS : LE (.p .nilS) (.p (.lst (tmvs []))) := by
  intro ok β w v h
  rw [R, RP] at h
  rw [R, RP, h]
  exact ⟨none, 0, 0, rfl, Nat.le_refl _, by simp [maxLen], trivial⟩
theorem shown9_ok : K true 15 [] (.pv (.bool true)) := by
  have tp : TmOk pwK := .leaf 2 (by simp)
  have o1 : TmOk e1K := ⟨Fit.two 4 (by simp) (Fit.one 7 (by simp) tp.hf) (Fit.data 2 (by simp)), by simp [wt, wts]⟩
  have o2 : TmOk m1K := ⟨Fit.two 10 (by simp) (Fit.one 8 (by simp) (Fit.data 2 (by simp))) (Fit.one 7 (by simp) tp.hf), by simp [wt, wts]⟩
  have f1 : FrmS [e1K] pwK := frmS_of (fun t ht => by rw [List.mem_singleton.1 ht]; exact o1) tp (by simp [Tm.size, Tm.sizes]) (by simp)
  have f2 : FrmS [m1K] pwK := frmS_of (fun t ht => by rw [List.mem_singleton.1 ht]; exact o2) tp (by simp [Tm.size, Tm.sizes]) (by simp)
  have f3 : FrmS [pwK] pwK := frmS_of (fun t ht => by rw [List.mem_singleton.1 ht]; exact tp) tp (by simp [Tm.size, Tm.sizes]) (by simp)
  have f4 : FrmS [] noTm := frmS_of (fun t ht => by cases ht) (.leaf 0 (by simp)) (by simp [Tm.size, Tm.sizes, noTm]) (by simp)
  obtain ⟨⟨t2, b2⟩, e2⟩ : ∃ x, testT [m1K] pwK = x := ⟨_, rfl⟩
  have hb2 := test_two f2
  rw [e2] at hb2
  have hb2 : b2 = false := hb2
  subst hb2
  have e3 := test_known f3 (by rw [g_pw.2]; exact g_pw) (by rw [g_pw.2]; exact .base (in_fr (List.mem_singleton.2 rfl) g_pw) g_pw)
  rw [g_pw.2] at e3
  have k1 := testV_ok (tmvs1 e1K) f1 (test_e1 f1)
  have k2 := testV_ok (tmvs1 m1K) f2 e2
  have k3 := testV_ok (tmvs1 pwK) f3 e3
  have k4 := testV_ok (L := []) rfl f4 (test_nil f4)
  have s1 : K true 41 [tv e1K, tv e1K] (.pv (.bool true)) := by have := same_ok true e1K o1.hf e1K; rwa [decide_eq_true rfl] at this
  have s2 : K true 41 [tv pwK, tv pwK] (.pv (.bool true)) := by have := same_ok true pwK tp.hf pwK; rwa [decide_eq_true rfl] at this
  refine PC_of_vc (cx_ok true) (mixed true) { ps := psT [(4, [5])] } Tryd.func15 (by kernel_rfl) rfl rfl (by kernel_rfl) ?_
  repeat (conv => whnf); first|refine IndepAnd (by kernel_rfl) ?_|refine ⟨rfl,?_⟩|refine And.intro (by first|decide|exact trivial|exact ⟨_,rfl,rfl⟩|exact ⟨rfl,trivial⟩|exact ⟨rfl,rfl,trivial⟩) ?_
  conv => whnf
  refine ⟨_, CallVC.pr (atom_ok true pwN) rfl rfl, ?_⟩
  repeat (conv => whnf); first|refine IndepAnd (by kernel_rfl) ?_|refine ⟨rfl,?_⟩|refine And.intro (by first|decide|exact trivial|exact ⟨_,rfl,rfl⟩|exact ⟨rfl,trivial⟩|exact ⟨rfl,rfl,trivial⟩) ?_
  conv => whnf
  refine ⟨_, CallVC.pr (kdf_ok true pwK [120]) rfl rfl, ?_⟩
  repeat (conv => whnf); first|refine IndepAnd (by kernel_rfl) ?_|refine ⟨rfl,?_⟩|refine And.intro (by first|decide|exact trivial|exact ⟨_,rfl,rfl⟩|exact ⟨rfl,trivial⟩|exact ⟨rfl,rfl,trivial⟩) ?_
  conv => whnf
  refine ⟨_, CallVC.pr (atom_ok true stN) rfl rfl, ?_⟩
  repeat (conv => whnf); first|refine IndepAnd (by kernel_rfl) ?_|refine ⟨rfl,?_⟩|refine And.intro (by first|decide|exact trivial|exact ⟨_,rfl,rfl⟩|exact ⟨rfl,trivial⟩|exact ⟨rfl,rfl,trivial⟩) ?_
  conv => whnf
  refine ⟨_, CallVC.pr (enc_ok true w1K (atomT stN)) rfl rfl, ?_⟩
  repeat (conv => whnf); first|refine IndepAnd (by kernel_rfl) ?_|refine ⟨rfl,?_⟩|refine And.intro (by first|decide|exact trivial|exact ⟨_,rfl,rfl⟩|exact ⟨rfl,trivial⟩|exact ⟨rfl,rfl,trivial⟩) ?_
  conv => whnf
  refine ⟨_, CallVC.pr k1 rfl rfl, ?_⟩
  repeat (conv => whnf); first|refine IndepAnd (by kernel_rfl) ?_|refine ⟨rfl,?_⟩|refine And.intro (by first|decide|exact trivial|exact ⟨_,rfl,rfl⟩|exact ⟨rfl,trivial⟩|exact ⟨rfl,rfl,trivial⟩) ?_
  conv => whnf
  refine ⟨_, CallVC.pr (atom_ok true [120]) rfl rfl, ?_⟩
  repeat (conv => whnf); first|refine IndepAnd (by kernel_rfl) ?_|refine ⟨rfl,?_⟩|refine And.intro (by first|decide|exact trivial|exact ⟨_,rfl,rfl⟩|exact ⟨rfl,trivial⟩|exact ⟨rfl,rfl,trivial⟩) ?_
  conv => whnf
  refine ⟨_, CallVC.pr (pub_ok true xK) rfl rfl, ?_⟩
  repeat (conv => whnf); first|refine IndepAnd (by kernel_rfl) ?_|refine ⟨rfl,?_⟩|refine And.intro (by first|decide|exact trivial|exact ⟨_,rfl,rfl⟩|exact ⟨rfl,trivial⟩|exact ⟨rfl,rfl,trivial⟩) ?_
  conv => whnf
  refine ⟨_, CallVC.pr (kdf_ok true pwK [121]) rfl rfl, ?_⟩
  repeat (conv => whnf); first|refine IndepAnd (by kernel_rfl) ?_|refine ⟨rfl,?_⟩|refine And.intro (by first|decide|exact trivial|exact ⟨_,rfl,rfl⟩|exact ⟨rfl,trivial⟩|exact ⟨rfl,rfl,trivial⟩) ?_
  conv => whnf
  refine ⟨_, CallVC.pr (maskt_ok true (pubT xK) (kdfT pwK [121])) rfl rfl, ?_⟩
  repeat (conv => whnf); first|refine IndepAnd (by kernel_rfl) ?_|refine ⟨rfl,?_⟩|refine And.intro (by first|decide|exact trivial|exact ⟨_,rfl,rfl⟩|exact ⟨rfl,trivial⟩|exact ⟨rfl,rfl,trivial⟩) ?_
  conv => whnf
  refine ⟨_, CallVC.pr k2 rfl rfl, ?_⟩
  repeat (conv => whnf); first|refine IndepAnd (by kernel_rfl) ?_|refine ⟨rfl,?_⟩|refine And.intro (by first|decide|exact trivial|exact ⟨_,rfl,rfl⟩|exact ⟨rfl,trivial⟩|exact ⟨rfl,rfl,trivial⟩) ?_
  conv => whnf
  refine ⟨_, CallVC.pr k3 rfl rfl, ?_⟩
  repeat (conv => whnf); first|refine IndepAnd (by kernel_rfl) ?_|refine ⟨rfl,?_⟩|refine And.intro (by first|decide|exact trivial|exact ⟨_,rfl,rfl⟩|exact ⟨rfl,trivial⟩|exact ⟨rfl,rfl,trivial⟩) ?_
  conv => whnf
  refine ⟨_, CallVC.le k4 (LEL.cons LE_nilS (LEL.cons (LE_leafS 0 []) LEL.nil)) rfl rfl, ?_⟩
  repeat (conv => whnf); first|refine IndepAnd (by kernel_rfl) ?_|refine ⟨rfl,?_⟩|refine And.intro (by first|decide|exact trivial|exact ⟨_,rfl,rfl⟩|exact ⟨rfl,trivial⟩|exact ⟨rfl,rfl,trivial⟩) ?_
  conv => whnf
  refine ⟨_, CallVC.pr s1 rfl rfl, ?_⟩
  repeat (conv => whnf); first|refine IndepAnd (by kernel_rfl) ?_|refine ⟨rfl,?_⟩|refine And.intro (by first|decide|exact trivial|exact ⟨_,rfl,rfl⟩|exact ⟨rfl,trivial⟩|exact ⟨rfl,rfl,trivial⟩) ?_
  conv => whnf
  refine ⟨_, CallVC.pr s2 rfl rfl, ?_⟩
  repeat (conv => whnf); first|refine IndepAnd (by kernel_rfl) ?_|refine ⟨rfl,?_⟩|refine And.intro (by first|decide|exact trivial|exact ⟨_,rfl,rfl⟩|exact ⟨rfl,trivial⟩|exact ⟨rfl,rfl,trivial⟩) ?_
  conv => whnf
  exact LEP.refl _
end Go.Sl
