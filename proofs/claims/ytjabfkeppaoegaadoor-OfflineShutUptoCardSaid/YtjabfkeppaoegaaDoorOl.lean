/- OfflineFresh: what stands nowhere can not be tested. -/
import Derived.Test.YtjabfkeppaoegaaDoorOi
import Derived.Test.YtjabfkeppaoegaaDoorQc
set_option linter.unusedVariables false
set_option linter.unusedSimpArgs false
namespace Go.Sl
open Go Go.Vc Go.Proofs Go.RowKit

abbrev shutL (a k : Tm) : List Tm := [encT k a, encT k (hashT a), .mk 5 [] [k, a], hashT (pairT [k, a])]
section
variable {L : List Tm} {s s' : Bs}
theorem Two.gh (h : Two L s s') : gdT (hashT (frA s)) := gd_hash h.ga (by rw [dA]; decide)
theorem Two.gpr (h : Two L s s') : gdT (pairT [frA s', frA s]) := gd_pair (fun x hx => by
  simp only [List.mem_cons, List.not_mem_nil, or_false] at hx
  rcases hx with rfl | rfl
  · exact h.gx
  · exact h.ga) (by simp [Tm.depth, Tm.depths])
theorem Two.gS (h : Two L s s') : ∀ v ∈ shutL (frA s) (frA s'), gdT v := fun v hv => by
  simp only [List.mem_cons, List.not_mem_nil, or_false] at hv
  rcases hv with rfl | rfl | rfl | rfl
  · exact gd_encT h.gx h.ga (by rw [dA]; decide) (by rw [dA]; decide)
  · exact gd_encT h.gx h.gh (by rw [dA]; decide) (by simp [Tm.depth, Tm.depths])
  · exact gd_macT h.gx h.ga (by rw [dA]; decide) (by rw [dA]; decide)
  · exact gd_hash h.gpr (by simp [Tm.depth, Tm.depths])
theorem nP_pr : ¬ P2 s s' (pairT [frA s', frA s]) := nP_of (u := frA s') (by simp [Tm.kids]) nP_x
theorem nP_S : ∀ v ∈ shutL (frA s) (frA s'), ¬ P2 s s' v := fun v hv => by
  simp only [List.mem_cons, List.not_mem_nil, or_false] at hv
  rcases hv with rfl | rfl | rfl | rfl
  · exact nP_of (u := frA s') (by simp [Tm.kids]) nP_x
  · exact nP_of (u := frA s') (by simp [Tm.kids]) nP_x
  · exact nP_of (u := frA s') (by simp [Tm.kids]) nP_x
  · exact nP_of (u := pairT [frA s', frA s]) (by simp [Tm.kids]) nP_pr
/-- What is shut up under a key that nobody knows, and the secret or not. -/
theorem shut_not (h : Two L s s') : ¬ Cl (Fr (L ++ shutL (frA s) (frA s'))) (frA s) ∧ ¬ HasT (L ++ shutL (frA s) (frA s')) (frA s) := by
  obtain ⟨S, eS⟩ : ∃ S, S = shutL (frA s) (frA s') := ⟨_, rfl⟩
  have gS : ∀ v ∈ S, gdT v := by rw [eS]; exact h.gS
  have hP := free_two s s'
  have nS : ∀ v ∈ S, ¬ P2 s s' v := by rw [eS]; exact nP_S
  have aS : frA s ∉ S := fun hm => by rw [eS] at hm; simp at hm
  have xS : frA s' ∉ S := fun hm => by rw [eS] at hm; simp at hm
  have pS : pairT [frA s', frA s] ∉ S := fun hm => by rw [eS] at hm; simp at hm
  have kS : ∀ v ∈ S, v.kind ≠ 3 ∧ v.kind ≠ 10 ∧ (v.kind = 4 → ∃ y, v.kids = [frA s', y]) ∧ (v.kind = 4 ∨ v.kind = 5 ∧ frA s' ∈ v.kids ∨ v.kind = 6 ∧ pairT [frA s', frA s] ∈ v.kids) := fun v hv => by
    rw [eS] at hv
    simp only [List.mem_cons, List.not_mem_nil, or_false] at hv
    rcases hv with rfl | rfl | rfl | rfl
    · exact ⟨show (4 : Int) ≠ 3 by decide, show (4 : Int) ≠ 10 by decide, fun _ => ⟨_, rfl⟩, .inl rfl⟩
    · exact ⟨show (4 : Int) ≠ 3 by decide, show (4 : Int) ≠ 10 by decide, fun _ => ⟨_, rfl⟩, .inl rfl⟩
    · exact ⟨show (5 : Int) ≠ 3 by decide, show (5 : Int) ≠ 10 by decide, fun k => absurd k (show (5 : Int) ≠ 4 by decide), .inr (.inl ⟨rfl, by simp [Tm.kids]⟩)⟩
    · exact ⟨show (6 : Int) ≠ 3 by decide, show (6 : Int) ≠ 10 by decide, fun k => absurd k (show (6 : Int) ≠ 4 by decide), .inr (.inr ⟨rfl, by simp [Tm.kids]⟩)⟩
  rw [← eS]
  -- in general: the shut terms, and others that tell nothing of the key
  have gen : ∀ (X : Tm → Prop), (∀ u, X u → u = frA s) → (∀ u, (u ∈ S ∨ X u) → ¬ P2 s s' u) ∧ ApF L (fun u => u ∈ S ∨ X u) ∧ ¬ Mk (BF L fun u => u ∈ S ∨ X u) (frA s') := by
    intro X hX
    have nx : ¬ Mk (BF L fun u => u ∈ S ∨ X u) (frA s') := no_atom hP h.fr nP_x fun hm => hm.elim xS fun hx => h.ne (by have := hX _ hx; injection this with _ e _; exact e.symm)
    refine ⟨fun u hu => hu.elim (nS u) fun hx => by rw [hX u hx]; exact nP_a, fun t ht _ => ?_, nx⟩
    rcases ht with ht | ht
    · obtain ⟨k3, k10, k4, _⟩ := kS t ht
      refine ⟨fun k => absurd k k3, fun k x y e hm => ?_, fun k => absurd k k10⟩
      obtain ⟨z, ez⟩ := k4 k
      rw [e] at ez
      injection ez with e1 _
      rw [e1] at hm
      exact absurd hm nx
    · rw [hX t ht]
      exact ⟨fun k => absurd k (kA (by decide)), fun k => absurd k (kA (by decide)), fun k => absurd k (kA (by decide))⟩
  obtain ⟨F0, A0, _⟩ := gen (fun _ => False) fun u hu => hu.elim
  obtain ⟨F1, A1, nx1⟩ := gen (fun u => u = frA s) fun u hu => hu
  have M0 : ∀ u, Fr (L ++ S) u → gdT u → Mk (BF L fun u => u ∈ S ∨ False) u := fun u hu hg => by
    rcases fr_app.1 hu with hu | hu
    · exact .base (.inl (.base hu hg)) hg
    · exact .base (.inr (.inl ((fr_gd gS).1 hu))) hg
  have M1 : ∀ u, Fr (L ++ S ++ [frA s]) u → gdT u → Mk (BF L fun u => u ∈ S ∨ u = frA s) u := fun u hu hg => by
    rcases fr_gone h.ga hu with hu | hu
    · rcases fr_app.1 hu with hu | hu
      · exact .base (.inl (.base hu hg)) hg
      · exact .base (.inr (.inl ((fr_gd gS).1 hu))) hg
    · exact .base (.inr (.inr hu)) hg
  have K1m : ∀ {u}, Cl (Fr (L ++ S ++ [frA s])) u → Mk (BF L fun u => u ∈ S ∨ u = frA s) u := fun hc => frP hP h.fr F1 A1 M1 hc
  have K1 : ∀ u, P2 s s' u → Cl (Fr (L ++ S ++ [frA s])) u → Cl (Fr (L ++ S)) u := fun u hu hc =>
    (mkP hP F1 (K1m hc) hu).mono fun v hv => fr_app.2 (.inl hv)
  have nx : ¬ Cl (Fr (L ++ S ++ [frA s])) (frA s') := fun hc => nx1 (K1m hc)
  have npr : ¬ Cl (Fr (L ++ S ++ [frA s])) (pairT [frA s', frA s]) := fun hc =>
    no_comp hP h.fr (by decide) (by decide) (by decide) nP_pr (fun hm => hm.elim pS fun e => by cases e) (fun hc => nx1 (hc _ (by simp))) (K1m hc)
  refine ⟨fun hc => no_atom hP h.fr nP_a (fun hm => hm.elim aS id) (frP hP h.fr F0 A0 M0 hc), fun ⟨t, h1, h2⟩ => ?_⟩
  have key : P2 s s' t ∨ t ∈ S ∨ t = frA s := by
    clear h2
    induction h1 with
    | base hb hg =>
      rcases fr_gone h.ga hb with hb | hb
      · rcases fr_app.1 hb with hb | hb
        · exact .inl (h.fr _ hb)
        · exact .inr (.inl ((fr_gd gS).1 hb))
      · exact .inr (.inr hb)
    | pair _ k hu ih =>
      rcases ih with ih | ih | rfl
      · exact .inl (hP.kid ih hu)
      · exact absurd k (kS _ ih).1
      · exact absurd k (kA (by decide))
    | enc _ k e hx ih =>
      rcases ih with ih | ih | rfl
      · exact .inl (hP.kid ih (by rw [e]; simp))
      · obtain ⟨z, ez⟩ := (kS _ ih).2.2.1 k
        rw [e] at ez
        injection ez with e1 _
        rw [e1] at hx
        exact absurd hx nx
      · exact absurd k (kA (by decide))
    | mask _ k e _ ih =>
      rcases ih with ih | ih | rfl
      · exact .inl (hP.kid ih (by rw [e]; simp))
      · exact absurd k (kS _ ih).2.1
      · exact absurd k (kA (by decide))
  rcases key with ht | ht | rfl
  · exact no_tst hP K1 ht h2
  · obtain ⟨_, k10, k4, kk⟩ := kS t ht
    cases h2 with
    | enc k e hx =>
      obtain ⟨z, ez⟩ := k4 k
      rw [e] at ez
      injection ez with e1 _
      rw [e1] at hx
      exact nx hx
    | part k a hk =>
      rcases kk with kk | ⟨_, kk⟩ | ⟨_, kk⟩
      · omega
      · exact nx (hk _ kk)
      · exact npr (hk _ kk)
    | share k => rcases kk with kk | kk | kk <;> omega
    | mask k => exact k10 k
  · exact absurd (tst_kind h2) (show ¬ (4 : Int) ≤ 2 by decide)
end
theorem TestIs.not {l : List Tm} {c : Tm} {x : Tm × Bool} (h : TestIs l c x) (h1 : ¬ Cl (Fr l) c) (h2 : ¬ HasT l c) : x = (noTm, false) := by
  cases h with
  | known _ k => exact absurd k h1
  | test _ _ a t => exact absurd ⟨_, a, t⟩ h2
  | none => rfl
  | no => rfl
abbrev keyW : Bs := [107, 101, 121]
theorem lenT {l : List Tm} {n : Nat} (h : l.length ≤ 1000) (hn : n ≤ 1000) : (([] ++ tmvs l).length + n) * 48 ≤ 140737488355328 := len_app1 h hn
set_option maxHeartbeats 2000000 in
theorem ofresh_ok (l : List Tm) (n : Bs) (hf : ∀ t ∈ l, Fit t) (hl : l.length ≤ 9223372036854775807) (hn : n.length ≤ 1048576) (hw : wts l ≤ 1048576) : K true 8 [lv l, sv n] (.pv (.bool true)) := by
  obtain ⟨L, eL⟩ : ∃ L, L = few9 l := ⟨_, rfl⟩
  have h9 : Few9 L := by rw [eL]; exact few9_is hf (by omega)
  have hfew : K true 12 [lv l] (.pv (.lst (tmvs L))) := by rw [eL]; exact few9_ok l hf hl
  have hLl : L.length ≤ 7 := h9.len
  have hLs : ∀ t ∈ L, t.size ≤ 15 := fun t ht => (few_mem9 (by rw [← eL]; exact ht)).2
  obtain ⟨c, ec⟩ : ∃ c : Bs, c = cut n 0 (min (n.length : Int) 20).toNat := ⟨_, rfl⟩
  have hcl : c.length ≤ 20 := by rw [ec]; simp [cut]; omega
  obtain ⟨s, es⟩ : ∃ s, s = freshW ++ c := ⟨_, rfl⟩
  obtain ⟨s', es'⟩ : ∃ s', s' = keyW ++ c := ⟨_, rfl⟩
  have hs : s ≠ [] := by rw [es]; simp
  have hs' : s' ≠ [] := by rw [es']; simp
  have hne : s ≠ s' := by rw [es, es']; simp
  have hsl : s.length ≤ 25 := by rw [es]; simp; omega
  have hsl' : s'.length ≤ 23 := by rw [es']; simp; omega
  have ta : TmOk (frA s) := .leaf 2 (by omega)
  have tk : TmOk (frA s') := .leaf 2 (by omega)
  have at1 : K true 22 [sv (freshW ++ cut n 0 (min (n.length : Int) 20).toNat)] (.pv (TV (frA s))) := by rw [es, ec]; exact atom_ok true _
  have at2 : K true 22 [sv (keyW ++ cut n 0 (min (n.length : Int) 20).toNat)] (.pv (TV (frA s'))) := by rw [es', ec]; exact atom_ok true _
  refine PC_of_vc (cx_ok true) (mixed true) { own := fun q => Nat.beq q 55 || Nat.beq q 57 || Nat.beq q 74 || Nat.beq q 200057 || Nat.beq q 200074, ps := psT [(13, [55, 57])], fz := fun r => cond (Nat.beq r 14) [74] [], kp := kpT [(12, [0, 4, 5, 6, 7], [6, 7]), (13, [0, 4, 5, 6, 7, 11], [6, 7]), (14, [4, 5, 6, 11, 12], [6, 74])] } Tryd.func8 (by kernel_rfl) rfl rfl (by kernel_rfl) ?_
  repeat (conv => whnf); first | refine IndepAnd (by kernel_rfl) ?_ | refine TreeAnd (by kernel_rfl) ?_ | refine ⟨rfl, ?_⟩ | refine ⟨by decide, ?_⟩ | refine ⟨trivial, ?_⟩ | refine ⟨⟨rfl, trivial⟩, ?_⟩ | refine ⟨Nat.le_of_ble_eq_true rfl, ?_⟩ | refine ⟨⟨_, rfl, rfl⟩, ?_⟩ | refine ⟨⟨rfl, rfl, trivial⟩, ?_⟩ | refine ⟨⟨rfl, rfl, rfl, trivial⟩, ?_⟩ | refine ⟨⟨rfl, rfl, rfl, rfl, trivial⟩, ?_⟩ | refine ⟨⟨rfl, rfl, rfl, rfl, rfl, trivial⟩, ?_⟩
  conv => whnf
  refine ⟨_, CallVC.pr shown9_ok rfl rfl, ?_⟩
  repeat (conv => whnf); first | refine IndepAnd (by kernel_rfl) ?_ | refine TreeAnd (by kernel_rfl) ?_ | refine ⟨rfl, ?_⟩ | refine ⟨by decide, ?_⟩ | refine ⟨trivial, ?_⟩ | refine ⟨⟨rfl, trivial⟩, ?_⟩ | refine ⟨Nat.le_of_ble_eq_true rfl, ?_⟩ | refine ⟨⟨_, rfl, rfl⟩, ?_⟩ | refine ⟨⟨rfl, rfl, trivial⟩, ?_⟩ | refine ⟨⟨rfl, rfl, rfl, trivial⟩, ?_⟩ | refine ⟨⟨rfl, rfl, rfl, rfl, trivial⟩, ?_⟩ | refine ⟨⟨rfl, rfl, rfl, rfl, rfl, trivial⟩, ?_⟩
  conv => whnf
  refine ⟨_, CallVC.pr hfew rfl rfl, ?_⟩
  repeat (conv => whnf); first | refine IndepAnd (by kernel_rfl) ?_ | refine TreeAnd (by kernel_rfl) ?_ | refine ⟨rfl, ?_⟩ | refine ⟨by decide, ?_⟩ | refine ⟨trivial, ?_⟩ | refine ⟨⟨rfl, trivial⟩, ?_⟩ | refine ⟨Nat.le_of_ble_eq_true rfl, ?_⟩ | refine ⟨⟨_, rfl, rfl⟩, ?_⟩ | refine ⟨⟨rfl, rfl, trivial⟩, ?_⟩ | refine ⟨⟨rfl, rfl, rfl, trivial⟩, ?_⟩ | refine ⟨⟨rfl, rfl, rfl, rfl, trivial⟩, ?_⟩ | refine ⟨⟨rfl, rfl, rfl, rfl, rfl, trivial⟩, ?_⟩
  conv => whnf
  refine ⟨by omega, ?_⟩
  repeat (conv => whnf); first | refine IndepAnd (by kernel_rfl) ?_ | refine TreeAnd (by kernel_rfl) ?_ | refine ⟨rfl, ?_⟩ | refine ⟨by decide, ?_⟩ | refine ⟨trivial, ?_⟩ | refine ⟨⟨rfl, trivial⟩, ?_⟩ | refine ⟨Nat.le_of_ble_eq_true rfl, ?_⟩ | refine ⟨⟨_, rfl, rfl⟩, ?_⟩ | refine ⟨⟨rfl, rfl, trivial⟩, ?_⟩ | refine ⟨⟨rfl, rfl, rfl, trivial⟩, ?_⟩ | refine ⟨⟨rfl, rfl, rfl, rfl, trivial⟩, ?_⟩ | refine ⟨⟨rfl, rfl, rfl, rfl, rfl, trivial⟩, ?_⟩
  conv => whnf
  refine ⟨by omega, ?_⟩
  repeat (conv => whnf); first | refine IndepAnd (by kernel_rfl) ?_ | refine TreeAnd (by kernel_rfl) ?_ | refine ⟨rfl, ?_⟩ | refine ⟨by decide, ?_⟩ | refine ⟨trivial, ?_⟩ | refine ⟨⟨rfl, trivial⟩, ?_⟩ | refine ⟨Nat.le_of_ble_eq_true rfl, ?_⟩ | refine ⟨⟨_, rfl, rfl⟩, ?_⟩ | refine ⟨⟨rfl, rfl, trivial⟩, ?_⟩ | refine ⟨⟨rfl, rfl, rfl, trivial⟩, ?_⟩ | refine ⟨⟨rfl, rfl, rfl, rfl, trivial⟩, ?_⟩ | refine ⟨⟨rfl, rfl, rfl, rfl, rfl, trivial⟩, ?_⟩
  conv => whnf
  refine ⟨by show 5 + (cut n 0 (min (n.length : Int) 20).toNat).length ≤ _; rw [← ec]; omega, ?_⟩
  repeat (conv => whnf); first | refine IndepAnd (by kernel_rfl) ?_ | refine TreeAnd (by kernel_rfl) ?_ | refine ⟨rfl, ?_⟩ | refine ⟨by decide, ?_⟩ | refine ⟨trivial, ?_⟩ | refine ⟨⟨rfl, trivial⟩, ?_⟩ | refine ⟨Nat.le_of_ble_eq_true rfl, ?_⟩ | refine ⟨⟨_, rfl, rfl⟩, ?_⟩ | refine ⟨⟨rfl, rfl, trivial⟩, ?_⟩ | refine ⟨⟨rfl, rfl, rfl, trivial⟩, ?_⟩ | refine ⟨⟨rfl, rfl, rfl, rfl, trivial⟩, ?_⟩ | refine ⟨⟨rfl, rfl, rfl, rfl, rfl, trivial⟩, ?_⟩
  conv => whnf
  refine ⟨_, CallVC.pr at1 rfl rfl, ?_⟩
  repeat (conv => whnf); first | refine IndepAnd (by kernel_rfl) ?_ | refine TreeAnd (by kernel_rfl) ?_ | refine ⟨rfl, ?_⟩ | refine ⟨by decide, ?_⟩ | refine ⟨trivial, ?_⟩ | refine ⟨⟨rfl, trivial⟩, ?_⟩ | refine ⟨Nat.le_of_ble_eq_true rfl, ?_⟩ | refine ⟨⟨_, rfl, rfl⟩, ?_⟩ | refine ⟨⟨rfl, rfl, trivial⟩, ?_⟩ | refine ⟨⟨rfl, rfl, rfl, trivial⟩, ?_⟩ | refine ⟨⟨rfl, rfl, rfl, rfl, trivial⟩, ?_⟩ | refine ⟨⟨rfl, rfl, rfl, rfl, rfl, trivial⟩, ?_⟩
  conv => whnf
  refine ⟨by show 3 + (cut n 0 (min (n.length : Int) 20).toNat).length ≤ _; rw [← ec]; omega, ?_⟩
  repeat (conv => whnf); first | refine IndepAnd (by kernel_rfl) ?_ | refine TreeAnd (by kernel_rfl) ?_ | refine ⟨rfl, ?_⟩ | refine ⟨by decide, ?_⟩ | refine ⟨trivial, ?_⟩ | refine ⟨⟨rfl, trivial⟩, ?_⟩ | refine ⟨Nat.le_of_ble_eq_true rfl, ?_⟩ | refine ⟨⟨_, rfl, rfl⟩, ?_⟩ | refine ⟨⟨rfl, rfl, trivial⟩, ?_⟩ | refine ⟨⟨rfl, rfl, rfl, trivial⟩, ?_⟩ | refine ⟨⟨rfl, rfl, rfl, rfl, trivial⟩, ?_⟩ | refine ⟨⟨rfl, rfl, rfl, rfl, rfl, trivial⟩, ?_⟩
  conv => whnf
  refine ⟨_, CallVC.pr at2 rfl rfl, ?_⟩
  repeat (conv => whnf); first | refine IndepAnd (by kernel_rfl) ?_ | refine TreeAnd (by kernel_rfl) ?_ | refine ⟨rfl, ?_⟩ | refine ⟨by decide, ?_⟩ | refine ⟨trivial, ?_⟩ | refine ⟨⟨rfl, trivial⟩, ?_⟩ | refine ⟨Nat.le_of_ble_eq_true rfl, ?_⟩ | refine ⟨⟨_, rfl, rfl⟩, ?_⟩ | refine ⟨⟨rfl, rfl, trivial⟩, ?_⟩ | refine ⟨⟨rfl, rfl, rfl, trivial⟩, ?_⟩ | refine ⟨⟨rfl, rfl, rfl, rfl, trivial⟩, ?_⟩ | refine ⟨⟨rfl, rfl, rfl, rfl, rfl, trivial⟩, ?_⟩
  conv => whnf
  refine ⟨{ i : Nat // i ≤ L.length ∧ ∀ v ∈ L.take i, frA s ∉ inT v ∧ frA s' ∉ inT v }, fun i => Vc.S.of [(0, lv L), (4, .p (.bool false)), (5, .p (.bool true)), (6, .ptr 6 0), (7, .ptr 7 0), (8, iv (i.1 : Int))] [(6, .var true 24 (tv (frA s))), (7, .var true 24 (tv (frA s')))], fun i => L.length - i.1, ⟨0, Nat.zero_le _, by simp⟩, ?_, ?_⟩
  · refine Ge.of rfl ?_ ?_
    · repeat (conv => whnf); refine ⟨LE.of rfl, ?_⟩
      trivial
    · repeat (conv => whnf); refine ⟨OLE.of rfl, ?_⟩
      trivial
  rintro ⟨i, hi, hn⟩
  repeat (conv => whnf); first | refine IndepAnd (by kernel_rfl) ?_ | refine TreeAnd (by kernel_rfl) ?_ | refine ⟨rfl, ?_⟩ | refine ⟨by decide, ?_⟩ | refine ⟨trivial, ?_⟩ | refine ⟨⟨rfl, trivial⟩, ?_⟩ | refine ⟨Nat.le_of_ble_eq_true rfl, ?_⟩ | refine ⟨⟨_, rfl, rfl⟩, ?_⟩ | refine ⟨⟨rfl, rfl, trivial⟩, ?_⟩ | refine ⟨⟨rfl, rfl, rfl, trivial⟩, ?_⟩ | refine ⟨⟨rfl, rfl, rfl, rfl, trivial⟩, ?_⟩ | refine ⟨⟨rfl, rfl, rfl, rfl, rfl, trivial⟩, ?_⟩
  conv => whnf
  refine @bool_rec _ _ _ ?_ ?_ <;> intro h3
  · have hlt : i < L.length := by have := of_decide_eq_true h3; rw [tmvs_length] at this; exact Int.ofNat_lt.1 this
    have fi : Fit L[i] := (h9.tm _ (List.getElem_mem hlt)).hf
    have si : L[i].size ≤ 15 := hLs _ (List.getElem_mem hlt)
    have has1 := hasSub_ok (a := frA s) fi (by omega)
    have has2 := hasSub_ok (a := frA s') fi (by omega)
    repeat (conv => whnf); first | refine IndepAnd (by kernel_rfl) ?_ | refine TreeAnd (by kernel_rfl) ?_ | refine ⟨rfl, ?_⟩ | refine ⟨by decide, ?_⟩ | refine ⟨trivial, ?_⟩ | refine ⟨⟨rfl, trivial⟩, ?_⟩ | refine ⟨Nat.le_of_ble_eq_true rfl, ?_⟩ | refine ⟨⟨_, rfl, rfl⟩, ?_⟩ | refine ⟨⟨rfl, rfl, trivial⟩, ?_⟩ | refine ⟨⟨rfl, rfl, rfl, trivial⟩, ?_⟩ | refine ⟨⟨rfl, rfl, rfl, rfl, trivial⟩, ?_⟩ | refine ⟨⟨rfl, rfl, rfl, rfl, rfl, trivial⟩, ?_⟩
    conv => whnf
    refine ⟨Int.natCast_nonneg _, TV L[i], tmvs_getN hlt, rfl, rfl, ?_⟩
    repeat (conv => whnf); first | refine IndepAnd (by kernel_rfl) ?_ | refine TreeAnd (by kernel_rfl) ?_ | refine ⟨rfl, ?_⟩ | refine ⟨by decide, ?_⟩ | refine ⟨trivial, ?_⟩ | refine ⟨⟨rfl, trivial⟩, ?_⟩ | refine ⟨Nat.le_of_ble_eq_true rfl, ?_⟩ | refine ⟨⟨_, rfl, rfl⟩, ?_⟩ | refine ⟨⟨rfl, rfl, trivial⟩, ?_⟩ | refine ⟨⟨rfl, rfl, rfl, trivial⟩, ?_⟩ | refine ⟨⟨rfl, rfl, rfl, rfl, trivial⟩, ?_⟩ | refine ⟨⟨rfl, rfl, rfl, rfl, rfl, trivial⟩, ?_⟩
    conv => whnf
    refine ⟨_, CallVC.pr (subs_ok true L[i] fi (by omega)) rfl rfl, ?_⟩
    repeat (conv => whnf); first | refine IndepAnd (by kernel_rfl) ?_ | refine TreeAnd (by kernel_rfl) ?_ | refine ⟨rfl, ?_⟩ | refine ⟨by decide, ?_⟩ | refine ⟨trivial, ?_⟩ | refine ⟨⟨rfl, trivial⟩, ?_⟩ | refine ⟨Nat.le_of_ble_eq_true rfl, ?_⟩ | refine ⟨⟨_, rfl, rfl⟩, ?_⟩ | refine ⟨⟨rfl, rfl, trivial⟩, ?_⟩ | refine ⟨⟨rfl, rfl, rfl, trivial⟩, ?_⟩ | refine ⟨⟨rfl, rfl, rfl, rfl, trivial⟩, ?_⟩ | refine ⟨⟨rfl, rfl, rfl, rfl, rfl, trivial⟩, ?_⟩
    conv => whnf
    by_cases h4 : frA s ∈ inT L[i]
    · rw [decide_eq_true h4] at has1
      refine ⟨_, CallVC.pr has1 rfl rfl, ?_⟩
      repeat (conv => whnf); first | refine IndepAnd (by kernel_rfl) ?_ | refine TreeAnd (by kernel_rfl) ?_ | refine ⟨rfl, ?_⟩ | refine ⟨by decide, ?_⟩ | refine ⟨trivial, ?_⟩ | refine ⟨⟨rfl, trivial⟩, ?_⟩ | refine ⟨Nat.le_of_ble_eq_true rfl, ?_⟩ | refine ⟨⟨_, rfl, rfl⟩, ?_⟩ | refine ⟨⟨rfl, rfl, trivial⟩, ?_⟩ | refine ⟨⟨rfl, rfl, rfl, trivial⟩, ?_⟩ | refine ⟨⟨rfl, rfl, rfl, rfl, trivial⟩, ?_⟩ | refine ⟨⟨rfl, rfl, rfl, rfl, rfl, trivial⟩, ?_⟩
      conv => whnf
      exact LEP.refl _
    rw [decide_eq_false h4] at has1
    refine ⟨_, CallVC.pr has1 rfl rfl, ?_⟩
    repeat (conv => whnf); first | refine IndepAnd (by kernel_rfl) ?_ | refine TreeAnd (by kernel_rfl) ?_ | refine ⟨rfl, ?_⟩ | refine ⟨by decide, ?_⟩ | refine ⟨trivial, ?_⟩ | refine ⟨⟨rfl, trivial⟩, ?_⟩ | refine ⟨Nat.le_of_ble_eq_true rfl, ?_⟩ | refine ⟨⟨_, rfl, rfl⟩, ?_⟩ | refine ⟨⟨rfl, rfl, trivial⟩, ?_⟩ | refine ⟨⟨rfl, rfl, rfl, trivial⟩, ?_⟩ | refine ⟨⟨rfl, rfl, rfl, rfl, trivial⟩, ?_⟩ | refine ⟨⟨rfl, rfl, rfl, rfl, rfl, trivial⟩, ?_⟩
    conv => whnf
    by_cases h5 : frA s' ∈ inT L[i]
    · rw [decide_eq_true h5] at has2
      refine ⟨_, CallVC.pr has2 rfl rfl, ?_⟩
      repeat (conv => whnf); first | refine IndepAnd (by kernel_rfl) ?_ | refine TreeAnd (by kernel_rfl) ?_ | refine ⟨rfl, ?_⟩ | refine ⟨by decide, ?_⟩ | refine ⟨trivial, ?_⟩ | refine ⟨⟨rfl, trivial⟩, ?_⟩ | refine ⟨Nat.le_of_ble_eq_true rfl, ?_⟩ | refine ⟨⟨_, rfl, rfl⟩, ?_⟩ | refine ⟨⟨rfl, rfl, trivial⟩, ?_⟩ | refine ⟨⟨rfl, rfl, rfl, trivial⟩, ?_⟩ | refine ⟨⟨rfl, rfl, rfl, rfl, trivial⟩, ?_⟩ | refine ⟨⟨rfl, rfl, rfl, rfl, rfl, trivial⟩, ?_⟩
      conv => whnf
      exact LEP.refl _
    rw [decide_eq_false h5] at has2
    refine ⟨_, CallVC.pr has2 rfl rfl, ?_⟩
    repeat (conv => whnf); first | refine IndepAnd (by kernel_rfl) ?_ | refine TreeAnd (by kernel_rfl) ?_ | refine ⟨rfl, ?_⟩ | refine ⟨by decide, ?_⟩ | refine ⟨trivial, ?_⟩ | refine ⟨⟨rfl, trivial⟩, ?_⟩ | refine ⟨Nat.le_of_ble_eq_true rfl, ?_⟩ | refine ⟨⟨_, rfl, rfl⟩, ?_⟩ | refine ⟨⟨rfl, rfl, trivial⟩, ?_⟩ | refine ⟨⟨rfl, rfl, rfl, trivial⟩, ?_⟩ | refine ⟨⟨rfl, rfl, rfl, rfl, trivial⟩, ?_⟩ | refine ⟨⟨rfl, rfl, rfl, rfl, rfl, trivial⟩, ?_⟩
    conv => whnf
    refine ⟨_, wrapN (n := i + 1) rfl (by omega), ?_⟩
    repeat (conv => whnf); first | refine IndepAnd (by kernel_rfl) ?_ | refine TreeAnd (by kernel_rfl) ?_ | refine ⟨rfl, ?_⟩ | refine ⟨by decide, ?_⟩ | refine ⟨trivial, ?_⟩ | refine ⟨⟨rfl, trivial⟩, ?_⟩ | refine ⟨Nat.le_of_ble_eq_true rfl, ?_⟩ | refine ⟨⟨_, rfl, rfl⟩, ?_⟩ | refine ⟨⟨rfl, rfl, trivial⟩, ?_⟩ | refine ⟨⟨rfl, rfl, rfl, trivial⟩, ?_⟩ | refine ⟨⟨rfl, rfl, rfl, rfl, trivial⟩, ?_⟩ | refine ⟨⟨rfl, rfl, rfl, rfl, rfl, trivial⟩, ?_⟩
    conv => whnf
    refine ⟨⟨i + 1, hlt, ?_⟩, ?_, by show L.length - (i + 1) < L.length - i; omega⟩
    · rw [List.take_succ_eq_append_getElem hlt]
      intro v hv
      rcases List.mem_append.1 hv with hv | hv
      · exact hn v hv
      · rw [List.mem_singleton.1 hv]; exact ⟨h4, h5⟩
    · refine Ge.of rfl ?_ ?_
      · repeat (conv => whnf); refine ⟨LE.of rfl, ?_⟩
        trivial
      · repeat (conv => whnf); refine ⟨OLE.of rfl, ?_⟩
        trivial
  have hge : L.take i = L := List.take_of_length_le (by have := of_decide_eq_false h3; rw [tmvs_length] at this; have h5 : ¬ ((i : Int) < L.length) := this; omega)
  have hL : ∀ v ∈ L, frA s ∉ inT v ∧ frA s' ∉ inT v := fun v hv => hn v (by show v ∈ L.take i; rw [hge]; exact hv)
  have h2 : Two L s s' := ⟨hs, hs', hne, hL⟩
  have fS : FrmS L (frA s) := h9.frmS0 ta (by simp [Tm.size, Tm.sizes])
  have tS : ∀ x ∈ shutL (frA s) (frA s'), TmOk x ∧ x.size ≤ 100 := fun x hx => by
    simp only [List.mem_cons, List.not_mem_nil, or_false] at hx
    rcases hx with rfl | rfl | rfl | rfl
    · exact ⟨⟨Fit.two 4 (by simp) tk.hf ta.hf, by simp [wt, wts]; omega⟩, by simp [Tm.size, Tm.sizes]⟩
    · exact ⟨⟨Fit.two 4 (by simp) tk.hf (Fit.one 6 (by simp) ta.hf), by simp [wt, wts]; omega⟩, by simp [Tm.size, Tm.sizes]⟩
    · exact ⟨⟨Fit.two 5 (by simp) tk.hf ta.hf, by simp [wt, wts]; omega⟩, by simp [Tm.size, Tm.sizes]⟩
    · exact ⟨⟨Fit.one 6 (by simp) (Fit.two 3 (by simp) tk.hf ta.hf), by simp [wt, wts]; omega⟩, by simp [Tm.size, Tm.sizes]⟩
  have fS2 : FrmS (L ++ shutL (frA s) (frA s')) (frA s) := h9.frmS tS (by simp) ta (by simp [Tm.size, Tm.sizes])
  have ca : canT (frA s) = frA s := h2.ga.2
  have e1 : testT L (frA s) = (noTm, false) := by
    have hI := test_is fS
    rw [ca] at hI
    have := fresh_not hs fun v hv => (hL v hv).1
    exact hI.not this.1 this.2
  have e2 : testT (L ++ shutL (frA s) (frA s')) (frA s) = (noTm, false) := by
    have hI := test_is fS2
    rw [ca] at hI
    exact hI.not (shut_not h2).1 (shut_not h2).2
  have k1 := testV_ok rfl fS e1
  have eM : [] ++ tmvs L ++ [TV (encT (frA s') (frA s)), TV (encT (frA s') (hashT (frA s))), TV (.mk 5 [] [frA s', frA s]), TV (hashT (pairT [frA s', frA s]))] = tmvs (L ++ shutL (frA s) (frA s')) := by
    rw [tmvs_append, tmvs_eq (shutL (frA s) (frA s'))]; rfl
  have k2 := testV_ok eM fS2 e2
  repeat (conv => whnf); first | refine IndepAnd (by kernel_rfl) ?_ | refine TreeAnd (by kernel_rfl) ?_ | refine ⟨rfl, ?_⟩ | refine ⟨by decide, ?_⟩ | refine ⟨trivial, ?_⟩ | refine ⟨⟨rfl, trivial⟩, ?_⟩ | refine ⟨Nat.le_of_ble_eq_true rfl, ?_⟩ | refine ⟨⟨_, rfl, rfl⟩, ?_⟩ | refine ⟨⟨rfl, rfl, trivial⟩, ?_⟩ | refine ⟨⟨rfl, rfl, rfl, trivial⟩, ?_⟩ | refine ⟨⟨rfl, rfl, rfl, rfl, trivial⟩, ?_⟩ | refine ⟨⟨rfl, rfl, rfl, rfl, rfl, trivial⟩, ?_⟩
  conv => whnf
  refine ⟨_, CallVC.pr k1 rfl rfl, ?_⟩
  repeat (conv => whnf); first | refine IndepAnd (by kernel_rfl) ?_ | refine TreeAnd (by kernel_rfl) ?_ | refine ⟨rfl, ?_⟩ | refine ⟨by decide, ?_⟩ | refine ⟨trivial, ?_⟩ | refine ⟨⟨rfl, trivial⟩, ?_⟩ | refine ⟨Nat.le_of_ble_eq_true rfl, ?_⟩ | refine ⟨⟨_, rfl, rfl⟩, ?_⟩ | refine ⟨⟨rfl, rfl, trivial⟩, ?_⟩ | refine ⟨⟨rfl, rfl, rfl, trivial⟩, ?_⟩ | refine ⟨⟨rfl, rfl, rfl, rfl, trivial⟩, ?_⟩ | refine ⟨⟨rfl, rfl, rfl, rfl, rfl, trivial⟩, ?_⟩
  conv => whnf
  refine ⟨tmvs_sz L, ?_⟩
  repeat (conv => whnf); first | refine IndepAnd (by kernel_rfl) ?_ | refine TreeAnd (by kernel_rfl) ?_ | refine ⟨rfl, ?_⟩ | refine ⟨by decide, ?_⟩ | refine ⟨trivial, ?_⟩ | refine ⟨⟨rfl, trivial⟩, ?_⟩ | refine ⟨Nat.le_of_ble_eq_true rfl, ?_⟩ | refine ⟨⟨_, rfl, rfl⟩, ?_⟩ | refine ⟨⟨rfl, rfl, trivial⟩, ?_⟩ | refine ⟨⟨rfl, rfl, rfl, trivial⟩, ?_⟩ | refine ⟨⟨rfl, rfl, rfl, rfl, trivial⟩, ?_⟩ | refine ⟨⟨rfl, rfl, rfl, rfl, rfl, trivial⟩, ?_⟩
  conv => whnf
  refine ⟨len_app0 (by omega), ?_⟩
  repeat (conv => whnf); first | refine IndepAnd (by kernel_rfl) ?_ | refine TreeAnd (by kernel_rfl) ?_ | refine ⟨rfl, ?_⟩ | refine ⟨by decide, ?_⟩ | refine ⟨trivial, ?_⟩ | refine ⟨⟨rfl, trivial⟩, ?_⟩ | refine ⟨Nat.le_of_ble_eq_true rfl, ?_⟩ | refine ⟨⟨_, rfl, rfl⟩, ?_⟩ | refine ⟨⟨rfl, rfl, trivial⟩, ?_⟩ | refine ⟨⟨rfl, rfl, rfl, trivial⟩, ?_⟩ | refine ⟨⟨rfl, rfl, rfl, rfl, trivial⟩, ?_⟩ | refine ⟨⟨rfl, rfl, rfl, rfl, rfl, trivial⟩, ?_⟩
  conv => whnf
  refine ⟨_, CallVC.pr (enc_ok true (frA s') (frA s)) rfl rfl, ?_⟩
  repeat (conv => whnf); first | refine IndepAnd (by kernel_rfl) ?_ | refine TreeAnd (by kernel_rfl) ?_ | refine ⟨rfl, ?_⟩ | refine ⟨by decide, ?_⟩ | refine ⟨trivial, ?_⟩ | refine ⟨⟨rfl, trivial⟩, ?_⟩ | refine ⟨Nat.le_of_ble_eq_true rfl, ?_⟩ | refine ⟨⟨_, rfl, rfl⟩, ?_⟩ | refine ⟨⟨rfl, rfl, trivial⟩, ?_⟩ | refine ⟨⟨rfl, rfl, rfl, trivial⟩, ?_⟩ | refine ⟨⟨rfl, rfl, rfl, rfl, trivial⟩, ?_⟩ | refine ⟨⟨rfl, rfl, rfl, rfl, rfl, trivial⟩, ?_⟩
  conv => whnf
  refine ⟨_, CallVC.pr (hash_ok true (frA s)) rfl rfl, ?_⟩
  repeat (conv => whnf); first | refine IndepAnd (by kernel_rfl) ?_ | refine TreeAnd (by kernel_rfl) ?_ | refine ⟨rfl, ?_⟩ | refine ⟨by decide, ?_⟩ | refine ⟨trivial, ?_⟩ | refine ⟨⟨rfl, trivial⟩, ?_⟩ | refine ⟨Nat.le_of_ble_eq_true rfl, ?_⟩ | refine ⟨⟨_, rfl, rfl⟩, ?_⟩ | refine ⟨⟨rfl, rfl, trivial⟩, ?_⟩ | refine ⟨⟨rfl, rfl, rfl, trivial⟩, ?_⟩ | refine ⟨⟨rfl, rfl, rfl, rfl, trivial⟩, ?_⟩ | refine ⟨⟨rfl, rfl, rfl, rfl, rfl, trivial⟩, ?_⟩
  conv => whnf
  refine ⟨_, CallVC.pr (enc_ok true (frA s') (hashT (frA s))) rfl rfl, ?_⟩
  repeat (conv => whnf); first | refine IndepAnd (by kernel_rfl) ?_ | refine TreeAnd (by kernel_rfl) ?_ | refine ⟨rfl, ?_⟩ | refine ⟨by decide, ?_⟩ | refine ⟨trivial, ?_⟩ | refine ⟨⟨rfl, trivial⟩, ?_⟩ | refine ⟨Nat.le_of_ble_eq_true rfl, ?_⟩ | refine ⟨⟨_, rfl, rfl⟩, ?_⟩ | refine ⟨⟨rfl, rfl, trivial⟩, ?_⟩ | refine ⟨⟨rfl, rfl, rfl, trivial⟩, ?_⟩ | refine ⟨⟨rfl, rfl, rfl, rfl, trivial⟩, ?_⟩ | refine ⟨⟨rfl, rfl, rfl, rfl, rfl, trivial⟩, ?_⟩
  conv => whnf
  refine ⟨_, CallVC.pr (mac_ok true (frA s') (frA s)) rfl rfl, ?_⟩
  repeat (conv => whnf); first | refine IndepAnd (by kernel_rfl) ?_ | refine TreeAnd (by kernel_rfl) ?_ | refine ⟨rfl, ?_⟩ | refine ⟨by decide, ?_⟩ | refine ⟨trivial, ?_⟩ | refine ⟨⟨rfl, trivial⟩, ?_⟩ | refine ⟨Nat.le_of_ble_eq_true rfl, ?_⟩ | refine ⟨⟨_, rfl, rfl⟩, ?_⟩ | refine ⟨⟨rfl, rfl, trivial⟩, ?_⟩ | refine ⟨⟨rfl, rfl, rfl, trivial⟩, ?_⟩ | refine ⟨⟨rfl, rfl, rfl, rfl, trivial⟩, ?_⟩ | refine ⟨⟨rfl, rfl, rfl, rfl, rfl, trivial⟩, ?_⟩
  conv => whnf
  refine ⟨_, CallVC.pr (pair_ok true _ [frA s', frA s] (tmvs2 _ _) (by simp)) rfl rfl, ?_⟩
  repeat (conv => whnf); first | refine IndepAnd (by kernel_rfl) ?_ | refine TreeAnd (by kernel_rfl) ?_ | refine ⟨rfl, ?_⟩ | refine ⟨by decide, ?_⟩ | refine ⟨trivial, ?_⟩ | refine ⟨⟨rfl, trivial⟩, ?_⟩ | refine ⟨Nat.le_of_ble_eq_true rfl, ?_⟩ | refine ⟨⟨_, rfl, rfl⟩, ?_⟩ | refine ⟨⟨rfl, rfl, trivial⟩, ?_⟩ | refine ⟨⟨rfl, rfl, rfl, trivial⟩, ?_⟩ | refine ⟨⟨rfl, rfl, rfl, rfl, trivial⟩, ?_⟩ | refine ⟨⟨rfl, rfl, rfl, rfl, rfl, trivial⟩, ?_⟩
  conv => whnf
  refine ⟨_, CallVC.pr (hash_ok true (pairT [frA s', frA s])) rfl rfl, ?_⟩
  repeat (conv => whnf); first | refine IndepAnd (by kernel_rfl) ?_ | refine TreeAnd (by kernel_rfl) ?_ | refine ⟨rfl, ?_⟩ | refine ⟨by decide, ?_⟩ | refine ⟨trivial, ?_⟩ | refine ⟨⟨rfl, trivial⟩, ?_⟩ | refine ⟨Nat.le_of_ble_eq_true rfl, ?_⟩ | refine ⟨⟨_, rfl, rfl⟩, ?_⟩ | refine ⟨⟨rfl, rfl, trivial⟩, ?_⟩ | refine ⟨⟨rfl, rfl, rfl, trivial⟩, ?_⟩ | refine ⟨⟨rfl, rfl, rfl, rfl, trivial⟩, ?_⟩ | refine ⟨⟨rfl, rfl, rfl, rfl, rfl, trivial⟩, ?_⟩
  conv => whnf
  refine ⟨lenT (n := 4) (by omega) (by simp), ?_⟩
  repeat (conv => whnf); first | refine IndepAnd (by kernel_rfl) ?_ | refine TreeAnd (by kernel_rfl) ?_ | refine ⟨rfl, ?_⟩ | refine ⟨by decide, ?_⟩ | refine ⟨trivial, ?_⟩ | refine ⟨⟨rfl, trivial⟩, ?_⟩ | refine ⟨Nat.le_of_ble_eq_true rfl, ?_⟩ | refine ⟨⟨_, rfl, rfl⟩, ?_⟩ | refine ⟨⟨rfl, rfl, trivial⟩, ?_⟩ | refine ⟨⟨rfl, rfl, rfl, trivial⟩, ?_⟩ | refine ⟨⟨rfl, rfl, rfl, rfl, trivial⟩, ?_⟩ | refine ⟨⟨rfl, rfl, rfl, rfl, rfl, trivial⟩, ?_⟩
  conv => whnf
  refine ⟨_, CallVC.pr k2 rfl rfl, ?_⟩
  repeat (conv => whnf); first | refine IndepAnd (by kernel_rfl) ?_ | refine TreeAnd (by kernel_rfl) ?_ | refine ⟨rfl, ?_⟩ | refine ⟨by decide, ?_⟩ | refine ⟨trivial, ?_⟩ | refine ⟨⟨rfl, trivial⟩, ?_⟩ | refine ⟨Nat.le_of_ble_eq_true rfl, ?_⟩ | refine ⟨⟨_, rfl, rfl⟩, ?_⟩ | refine ⟨⟨rfl, rfl, trivial⟩, ?_⟩ | refine ⟨⟨rfl, rfl, rfl, trivial⟩, ?_⟩ | refine ⟨⟨rfl, rfl, rfl, rfl, trivial⟩, ?_⟩ | refine ⟨⟨rfl, rfl, rfl, rfl, rfl, trivial⟩, ?_⟩
  conv => whnf
  exact LEP.refl _
end Go.Sl
