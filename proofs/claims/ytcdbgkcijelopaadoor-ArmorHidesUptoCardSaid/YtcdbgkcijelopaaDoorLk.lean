/- KeysHide: keys that are made of a key do not tell it. -/
import Derived.Test.YtcdbgkcijelopaaDoorMb
import Derived.Test.YtcdbgkcijelopaaDoorKa
import Derived.Test.YtcdbgkcijelopaaDoorFi
set_option linter.unusedVariables false
set_option linter.unusedSimpArgs false
namespace Go.Sl
open Go Go.Vc Go.Proofs Go.RowKit

theorem can_kind (t : Tm) : (canT t).kind = t.kind := by rw [canT_eq]; exact (swapT_kind _ _ _).1
theorem fr_kind {l : List Tm} {t : Tm} (h : Fr l t) : ∃ v ∈ l, v.kind = t.kind := by
  obtain ⟨v, hv, rfl⟩ := h
  exact ⟨v, hv, (can_kind v).symm⟩
theorem knT_true {l : List Tm} {t : Tm} (hc : canT t = t) (h : Mk (Fr l) t) : knT l t = true := by
  rw [knT_iff, hc]; exact h.cl
theorem knT_false {l : List Tm} {t : Tm} (hc : canT t = t) (ha : Apart (Fr l)) (h : ¬ Mk (Fr l) t) : knT l t = false := by
  rw [← Bool.not_eq_true, knT_iff, hc]; exact fun hk => h (hk.mk ha)
theorem apart_l {l : List Tm} (h : ∀ v ∈ l, v.kind ≠ 3 ∧ v.kind ≠ 4 ∧ v.kind ≠ 10) : Apart (Fr l) := apart_of fun t ht => by
  obtain ⟨v, hv, e⟩ := fr_kind ht
  rw [← e]; exact h v hv
theorem knowsL_ok {l : List Tm} {t : Tm} {L : List PV} {v : Bool} (hL : L = tmvs l) (hv : knT l t = v) (hf : ∀ t ∈ l, Fit t) (hw : ∀ t ∈ l, wt t ≤ 1000000000) (hs : Tm.sizes l ≤ 2000) (hl : l.length ≤ 2000) (ft : Fit t) (ht : wt t ≤ 1000000000) :
    K true 63 [.p (.lst L), tv t] (.pv (.bool v)) := by
  rw [hL, ← hv]; exact knowsT_ok l t hf hw hs hl ft ht
theorem shown10_ok : K true 54 [] (.pv (.bool true)) := by
  have e : numT (atomT [107]) useW 54 = kdfT (atomT [107]) [117, 115, 101, 32, 53, 52] := by unfold numT; exact congrArg (kdfT _) (by decide +kernel)
  have fk : Fit (atomT [107]) := Fit.data 2 (by decide)
  have hs : K true 16 [tv (numT (atomT [107]) useW 54), tv (kdfT (atomT [107]) [117, 115, 101, 32, 53, 52])] (.pv (.bool true)) := by
    rw [e]; exact same10_refl true _ (Fit.one 7 (by decide) fk)
  refine PC_of_vc (cx_ok true) (mixed true) {} Tryd.func54 (by kernel_rfl) rfl rfl (by kernel_rfl) ?_
  repeat (conv => whnf); first | refine IndepAnd (by kernel_rfl) ?_ | refine TreeAnd (by kernel_rfl) ?_ | refine ⟨rfl, ?_⟩ | refine ⟨by decide, ?_⟩ | refine ⟨trivial, ?_⟩ | refine ⟨⟨rfl, trivial⟩, ?_⟩ | refine ⟨Nat.le_of_ble_eq_true rfl, ?_⟩ | refine ⟨⟨_, rfl, rfl⟩, ?_⟩ | refine ⟨⟨rfl, rfl, trivial⟩, ?_⟩ | refine ⟨⟨rfl, rfl, rfl, trivial⟩, ?_⟩ | refine ⟨⟨rfl, rfl, rfl, rfl, trivial⟩, ?_⟩ | refine ⟨⟨rfl, rfl, rfl, rfl, rfl, trivial⟩, ?_⟩
  conv => whnf
  refine ⟨_, CallVC.pr (atom10_ok true [107]) rfl rfl, ?_⟩
  repeat (conv => whnf); first | refine IndepAnd (by kernel_rfl) ?_ | refine TreeAnd (by kernel_rfl) ?_ | refine ⟨rfl, ?_⟩ | refine ⟨by decide, ?_⟩ | refine ⟨trivial, ?_⟩ | refine ⟨⟨rfl, trivial⟩, ?_⟩ | refine ⟨Nat.le_of_ble_eq_true rfl, ?_⟩ | refine ⟨⟨_, rfl, rfl⟩, ?_⟩ | refine ⟨⟨rfl, rfl, trivial⟩, ?_⟩ | refine ⟨⟨rfl, rfl, rfl, trivial⟩, ?_⟩ | refine ⟨⟨rfl, rfl, rfl, rfl, trivial⟩, ?_⟩ | refine ⟨⟨rfl, rfl, rfl, rfl, rfl, trivial⟩, ?_⟩
  conv => whnf
  refine ⟨_, CallVC.pr (use_ok true (atomT [107]) 54 (by decide) (by decide)) rfl rfl, ?_⟩
  repeat (conv => whnf); first | refine IndepAnd (by kernel_rfl) ?_ | refine TreeAnd (by kernel_rfl) ?_ | refine ⟨rfl, ?_⟩ | refine ⟨by decide, ?_⟩ | refine ⟨trivial, ?_⟩ | refine ⟨⟨rfl, trivial⟩, ?_⟩ | refine ⟨Nat.le_of_ble_eq_true rfl, ?_⟩ | refine ⟨⟨_, rfl, rfl⟩, ?_⟩ | refine ⟨⟨rfl, rfl, trivial⟩, ?_⟩ | refine ⟨⟨rfl, rfl, rfl, trivial⟩, ?_⟩ | refine ⟨⟨rfl, rfl, rfl, rfl, trivial⟩, ?_⟩ | refine ⟨⟨rfl, rfl, rfl, rfl, rfl, trivial⟩, ?_⟩
  conv => whnf
  refine ⟨_, CallVC.pr (kdf10_ok true (atomT [107]) [117, 115, 101, 32, 53, 52]) rfl rfl, ?_⟩
  repeat (conv => whnf); first | refine IndepAnd (by kernel_rfl) ?_ | refine TreeAnd (by kernel_rfl) ?_ | refine ⟨rfl, ?_⟩ | refine ⟨by decide, ?_⟩ | refine ⟨trivial, ?_⟩ | refine ⟨⟨rfl, trivial⟩, ?_⟩ | refine ⟨Nat.le_of_ble_eq_true rfl, ?_⟩ | refine ⟨⟨_, rfl, rfl⟩, ?_⟩ | refine ⟨⟨rfl, rfl, trivial⟩, ?_⟩ | refine ⟨⟨rfl, rfl, rfl, trivial⟩, ?_⟩ | refine ⟨⟨rfl, rfl, rfl, rfl, trivial⟩, ?_⟩ | refine ⟨⟨rfl, rfl, rfl, rfl, rfl, trivial⟩, ?_⟩
  conv => whnf
  refine ⟨_, CallVC.pr hs rfl rfl, ?_⟩
  repeat (conv => whnf); first | refine IndepAnd (by kernel_rfl) ?_ | refine TreeAnd (by kernel_rfl) ?_ | refine ⟨rfl, ?_⟩ | refine ⟨by decide, ?_⟩ | refine ⟨trivial, ?_⟩ | refine ⟨⟨rfl, trivial⟩, ?_⟩ | refine ⟨Nat.le_of_ble_eq_true rfl, ?_⟩ | refine ⟨⟨_, rfl, rfl⟩, ?_⟩ | refine ⟨⟨rfl, rfl, trivial⟩, ?_⟩ | refine ⟨⟨rfl, rfl, rfl, trivial⟩, ?_⟩ | refine ⟨⟨rfl, rfl, rfl, rfl, trivial⟩, ?_⟩ | refine ⟨⟨rfl, rfl, rfl, rfl, rfl, trivial⟩, ?_⟩
  conv => whnf
  refine ⟨_, CallVC.pr (keyword_ok true (atomT [107])) rfl rfl, ?_⟩
  repeat (conv => whnf); first | refine IndepAnd (by kernel_rfl) ?_ | refine TreeAnd (by kernel_rfl) ?_ | refine ⟨rfl, ?_⟩ | refine ⟨by decide, ?_⟩ | refine ⟨trivial, ?_⟩ | refine ⟨⟨rfl, trivial⟩, ?_⟩ | refine ⟨Nat.le_of_ble_eq_true rfl, ?_⟩ | refine ⟨⟨_, rfl, rfl⟩, ?_⟩ | refine ⟨⟨rfl, rfl, trivial⟩, ?_⟩ | refine ⟨⟨rfl, rfl, rfl, trivial⟩, ?_⟩ | refine ⟨⟨rfl, rfl, rfl, rfl, trivial⟩, ?_⟩ | refine ⟨⟨rfl, rfl, rfl, rfl, rfl, trivial⟩, ?_⟩
  conv => whnf
  refine ⟨_, CallVC.pr (reply_ok true (atomT [107]) (atomT [107])) rfl rfl, ?_⟩
  repeat (conv => whnf); first | refine IndepAnd (by kernel_rfl) ?_ | refine TreeAnd (by kernel_rfl) ?_ | refine ⟨rfl, ?_⟩ | refine ⟨by decide, ?_⟩ | refine ⟨trivial, ?_⟩ | refine ⟨⟨rfl, trivial⟩, ?_⟩ | refine ⟨Nat.le_of_ble_eq_true rfl, ?_⟩ | refine ⟨⟨_, rfl, rfl⟩, ?_⟩ | refine ⟨⟨rfl, rfl, trivial⟩, ?_⟩ | refine ⟨⟨rfl, rfl, rfl, trivial⟩, ?_⟩ | refine ⟨⟨rfl, rfl, rfl, rfl, trivial⟩, ?_⟩ | refine ⟨⟨rfl, rfl, rfl, rfl, rfl, trivial⟩, ?_⟩
  conv => whnf
  exact LEP.refl _
/-- What is made of one key, and of both. -/
abbrev aloneT (a : Tm) (n : Int) (s : Bs) : List Tm := [numT a useW n, numT a otpW n, kdfT a wordW, kdfT a (longW ++ ([120] ++ s))]
abbrev bothT (a b : Tm) : List Tm := [joinT a b [120] [121], joinT a b subW tickW, joinT a b strW repW]
theorem canT_mk1 (k : Int) (n : Bs) (x : Tm) : canT (.mk k n [x]) = .mk k n [canT x] := by rw [canT_eq]; simp [Tm.kind, Tm.name, Tm.kids, swapT]
theorem canT_atom (k : Int) (n : Bs) : canT (.mk k n []) = .mk k n [] := by rw [canT_eq]; simp [Tm.kind, Tm.name, Tm.kids, swapT]
theorem gd_kdf {x : Tm} {n : Bs} (hn : n ≠ []) (hx : gdT x) (hd : x.depth ≤ 59) : gdT (kdfT x n) :=
  gd_of rfl (by cases n <;> simp_all [Tm.named]) (.inr rfl) (by decide) (by simpa using hx) (by simp only [Tm.depth, Tm.depths]; omega)
theorem gd_hash {x : Tm} (hx : gdT x) (hd : x.depth ≤ 59) : gdT (hashT x) :=
  gd_of rfl rfl (.inr rfl) (by decide) (by simpa using hx) (by simp only [Tm.depth, Tm.depths]; omega)
theorem gd_pair {l : List Tm} (hx : ∀ x ∈ l, gdT x) (hd : Tm.depths l ≤ 59) : gdT (pairT l) :=
  gd_of rfl rfl (.inl (by decide)) (by decide) hx (by simp only [Tm.depth]; omega)
theorem fr_one {a t : Tm} (h : Fr [a] t) : t = canT a := by
  obtain ⟨v, hv, rfl⟩ := h
  rw [List.mem_singleton.1 hv]
section
variable {x y : Bs} {p q : Bs}
/-- What is made of a key alone. -/
theorem alone_has (hx : x ≠ []) (hp : p ≠ []) : knT [atomT x] (kdfT (atomT x) p) = true := by
  have g := gd_atom hx
  refine knT_true (gd_kdf hp g (by simp [Tm.depth, Tm.depths])).2 (.of (gd_kdf hp g (by simp [Tm.depth, Tm.depths])) (by decide) (by decide) (by decide) fun u hu => ?_)
  simp only [List.mem_singleton] at hu
  subst hu
  exact .base ⟨_, List.mem_singleton.2 rfl, g.2⟩ g
theorem alone_no (hx : x ≠ []) (hp : p ≠ []) (hxy : x ≠ y) : knT [atomT y] (kdfT (atomT x) p) = false := by
  have g := gd_atom hx
  refine knT_false (gd_kdf hp g (by simp [Tm.depth, Tm.depths])).2 (apart_l (by simp [Tm.kind])) fun h => ?_
  rcases ((mk_comp (by decide) (by decide) (by decide)).1 h).2 with h | h
  · have := fr_one h
    rw [canT_atom] at this
    cases this
  · have h := (mk_atom.1 (h _ (List.mem_singleton.2 rfl))).2
    have := fr_one h
    rw [canT_atom] at this
    injection this with _ e
    exact hxy e
theorem join_gd (hx : x ≠ []) (hy : y ≠ []) : gdT (joinT (atomT x) (atomT y) p q) := by
  have g1 : gdT (kdfT (atomT x) (joinW ++ p)) := gd_kdf (by simp) (gd_atom hx) (by simp [Tm.depth, Tm.depths])
  have g2 : gdT (kdfT (atomT y) (joinW ++ q)) := gd_kdf (by simp) (gd_atom hy) (by simp [Tm.depth, Tm.depths])
  refine gd_hash (gd_pair (fun u hu => ?_) (by simp [Tm.depth, Tm.depths])) (by simp [Tm.depth, Tm.depths])
  simp only [List.mem_cons, List.not_mem_nil, or_false] at hu
  rcases hu with rfl | rfl
  · exact g1
  · exact g2
theorem both_has (hx : x ≠ []) (hy : y ≠ []) : knT [atomT x, atomT y] (joinT (atomT x) (atomT y) p q) = true := by
  have hj := join_gd (p := p) (q := q) hx hy
  refine knT_true hj.2 ?_
  have b1 : Mk (Fr [atomT x, atomT y]) (atomT x) := .base ⟨_, by simp, (gd_atom hx).2⟩ (gd_atom hx)
  have b2 : Mk (Fr [atomT x, atomT y]) (atomT y) := .base ⟨_, List.mem_cons_of_mem _ (List.mem_singleton.2 rfl), (gd_atom hy).2⟩ (gd_atom hy)
  have hp := gd_kid hj (u := pairT [kdfT (atomT x) (joinW ++ p), kdfT (atomT y) (joinW ++ q)]) (by simp [joinT, Tm.kids])
  refine .of hj (by decide) (by decide) (by decide) fun u hu => ?_
  simp only [List.mem_singleton] at hu
  subst hu
  refine .of hp (by decide) (by decide) (by decide) fun u hu => ?_
  have gu := gd_kid hp hu
  simp only [List.mem_cons, List.not_mem_nil, or_false] at hu
  rcases hu with rfl | rfl
  · refine .comp gu (by simp [Tm.kind]) (by simp [Tm.kind]) (by simp [Tm.kind]) fun u hu => ?_
    simp only [Tm.kids, List.mem_singleton] at hu
    subst hu; exact b1
  · refine .comp gu (by simp [Tm.kind]) (by simp [Tm.kind]) (by simp [Tm.kind]) fun u hu => ?_
    simp only [Tm.kids, List.mem_singleton] at hu
    subst hu; exact b2
theorem both_no {z : Bs} (hx : x ≠ []) (hy : y ≠ []) (hz : z ≠ x ∨ z ≠ y) : knT [atomT z] (joinT (atomT x) (atomT y) p q) = false := by
  have hj := join_gd (p := p) (q := q) hx hy
  refine knT_false hj.2 (apart_l (by simp [Tm.kind])) fun h => ?_
  have no : ∀ k n l, k ≠ 2 → ¬ Fr [atomT z] (.mk k n l) := fun k n l hk h => by
    have := fr_one h
    rw [canT_atom] at this
    injection this with e
    exact hk e
  have at1 : ∀ w : Bs, Mk (Fr [atomT z]) (atomT w) → w = z := fun w h => by
    have := fr_one (mk_atom.1 h).2
    rw [canT_atom] at this
    injection this
  have h1 := (((mk_comp (by decide) (by decide) (by decide)).1 h).2.resolve_left (no _ _ _ (by decide))) _ (List.mem_singleton.2 rfl)
  have h2 := (((mk_comp (by decide) (by decide) (by decide)).1 h1).2.resolve_left (no _ _ _ (by decide)))
  have h3 := h2 (kdfT (atomT x) (joinW ++ p)) (by simp)
  have h4 := h2 (kdfT (atomT y) (joinW ++ q)) (by simp)
  have h5 := at1 x ((((mk_comp (by decide) (by decide) (by decide)).1 h3).2.resolve_left (no _ _ _ (by decide))) _ (List.mem_singleton.2 rfl))
  have h6 := at1 y ((((mk_comp (by decide) (by decide) (by decide)).1 h4).2.resolve_left (no _ _ _ (by decide))) _ (List.mem_singleton.2 rfl))
  rcases hz with hz | hz
  · exact hz h5.symm
  · exact hz h6.symm
end
/-- Hashes and keys tell no atom. -/
theorem all_no {l : List Tm} {x : Bs} (hx : x ≠ []) (hl : ∀ v ∈ l, v.kind = 6 ∨ v.kind = 7) : knT l (atomT x) = false := by
  refine knT_false (gd_atom hx).2 (apart_l fun v hv => by rcases hl v hv with e | e <;> rw [e] <;> decide) fun h => ?_
  obtain ⟨v, hv, e⟩ := fr_kind (mk_atom.1 h).2
  rcases hl v hv with e' | e' <;> rw [e'] at e <;> simp [Tm.kind] at e
abbrev keyA (s : Bs) : Tm := atomT ([97, 32] ++ s)
abbrev keyB (s : Bs) : Tm := atomT ([98, 32] ++ s)
theorem hide_ok (s : Bs) (n : Int) (hs : s.length ≤ 1048576) (h0 : -9223372036854775808 ≤ n) (h1 : n ≤ 9223372036854775807) : K true 12 [sv s, iv n] (.pv (.bool true)) := by
  obtain ⟨a, ea⟩ : ∃ a, a = keyA s := ⟨_, rfl⟩
  obtain ⟨b, eb⟩ : ∃ b, b = keyB s := ⟨_, rfl⟩
  have na : [97, 32] ++ s ≠ [] := by simp
  have nb : [98, 32] ++ s ≠ [] := by simp
  have nab : [97, 32] ++ s ≠ [98, 32] ++ s := by simp
  have hil := itoa_len h0 h1
  have fa : Fit a := by rw [ea]; exact Fit.data 2 (by simp; omega)
  have fb : Fit b := by rw [eb]; exact Fit.data 2 (by simp; omega)
  have wa : wt a ≤ 1048600 := by rw [ea]; simp [wt, wts]; omega
  have wb : wt b ≤ 1048600 := by rw [eb]; simp [wt, wts]; omega
  have za : a.size = 1 := by rw [ea]; simp [Tm.size, Tm.sizes]
  have zb : b.size = 1 := by rw [eb]; simp [Tm.size, Tm.sizes]
  obtain ⟨A, hA⟩ : ∃ A, A = aloneT a n s := ⟨_, rfl⟩
  obtain ⟨B, hB⟩ : ∃ B, B = bothT a b := ⟨_, rfl⟩
  have fA : ∀ t ∈ A, Fit t ∧ wt t ≤ 1000000000 ∧ t.size = 2 ∧ (t.kind = 6 ∨ t.kind = 7) ∧ knT [a] t = true ∧ knT [b] t = false := by
    have key : ∀ p : Bs, p ≠ [] → p.length ≤ 1048600 → Fit (kdfT a p) ∧ wt (kdfT a p) ≤ 1000000000 ∧ (kdfT a p).size = 2 ∧ ((kdfT a p).kind = 6 ∨ (kdfT a p).kind = 7) ∧ knT [a] (kdfT a p) = true ∧ knT [b] (kdfT a p) = false := fun p hp hl => by
      refine ⟨Fit.one 7 (by omega) fa, by simp only [wt, wts]; omega, by simp [Tm.size, Tm.sizes, za], .inr rfl, ?_, ?_⟩
      · rw [ea]; exact alone_has na hp
      · rw [ea, eb]; exact alone_no na hp nab
    intro t ht
    rw [hA] at ht
    simp only [List.mem_cons, List.not_mem_nil, or_false] at ht
    rcases ht with rfl | rfl | rfl | rfl
    · exact key _ (by simp) (by simp; omega)
    · exact key _ (by simp [otpW]) (by simp [otpW]; omega)
    · exact key _ (by simp [wordW]) (by simp [wordW])
    · exact key _ (by simp [longW]) (by simp [longW]; omega)
  have fB : ∀ t ∈ B, Fit t ∧ wt t ≤ 1000000000 ∧ t.size = 6 ∧ (t.kind = 6 ∨ t.kind = 7) ∧ knT [a] t = false ∧ knT [b] t = false ∧ knT [a, b] t = true := by
    have key : ∀ p q : Bs, p.length ≤ 1000 → q.length ≤ 1000 → Fit (joinT a b p q) ∧ wt (joinT a b p q) ≤ 1000000000 ∧ (joinT a b p q).size = 6 ∧ ((joinT a b p q).kind = 6 ∨ (joinT a b p q).kind = 7) ∧ knT [a] (joinT a b p q) = false ∧ knT [b] (joinT a b p q) = false ∧ knT [a, b] (joinT a b p q) = true := fun p q h2 h3 => by
      refine ⟨fa.join fb h2 h3, by simp only [joinT, wt, wts]; simp; omega, by simp [joinT, Tm.size, Tm.sizes, za, zb], .inl rfl, ?_, ?_, ?_⟩
      · rw [ea, eb]; exact both_no na nb (.inr nab)
      · rw [ea, eb]; exact both_no na nb (.inl nab.symm)
      · rw [ea, eb]; exact both_has na nb
    intro t ht
    rw [hB] at ht
    simp only [List.mem_cons, List.not_mem_nil, or_false] at ht
    rcases ht with rfl | rfl | rfl
    · exact key _ _ (by decide) (by decide)
    · exact key _ _ (by decide) (by decide)
    · exact key _ _ (by decide) (by decide)
  have lA : A.length = 4 := by rw [hA]; rfl
  have lB : B.length = 3 := by rw [hB]; rfl
  have fAB : ∀ t ∈ A ++ B, Fit t ∧ wt t ≤ 1000000000 ∧ (t.kind = 6 ∨ t.kind = 7) := fun t ht => by
    rcases List.mem_append.1 ht with h | h
    · have := fA t h; exact ⟨this.1, this.2.1, this.2.2.2.1⟩
    · have := fB t h; exact ⟨this.1, this.2.1, this.2.2.2.1⟩
  have sAB : Tm.sizes (A ++ B) ≤ 2000 := by
    have key : ∀ (l : List Tm) (m : Nat), (∀ t ∈ l, t.size ≤ m) → Tm.sizes l ≤ l.length * m := by
      intro l m
      induction l with
      | nil => intro _; simp [Tm.sizes]
      | cons t l ih => intro h; have := h t (List.mem_cons_self ..); have := ih fun u hu => h u (List.mem_cons_of_mem _ hu); simp only [Tm.sizes, List.length_cons, Nat.succ_mul]; omega
    have h1 := key A 2 fun t ht => by have := fA t ht; omega
    have h2 := key B 6 fun t ht => by have := fB t ht; omega
    rw [Tm.sizes_append]; omega
  have eA : [TV (numT a useW n), TV (numT a otpW n), TV (kdfT a wordW), TV (kdfT a (longW ++ ([120] ++ s)))] = tmvs A := by rw [hA]; exact (tmvs_eq (aloneT a n s)).symm
  have eB : [TV (joinT a b [120] [121]), TV (joinT a b subW tickW), TV (joinT a b strW repW)] = tmvs B := by rw [hB]; exact (tmvs_eq (bothT a b)).symm
  have kab : ∀ t, (t = a ∨ t = b) → K true 63 [.p (.lst ([] ++ [TV (numT a useW n), TV (numT a otpW n), TV (kdfT a wordW), TV (kdfT a (longW ++ ([120] ++ s)))] ++ [TV (joinT a b [120] [121]), TV (joinT a b subW tickW), TV (joinT a b strW repW)])), tv t] (.pv (.bool false)) := fun t ht => by
    refine knowsL_ok (l := A ++ B) (by rw [eA, eB, tmvs_append]; rfl) ?_ (fun u hu => (fAB u hu).1) (fun u hu => (fAB u hu).2.1) sAB (by rw [List.length_append]; omega) (by rcases ht with rfl | rfl <;> assumption) (by rcases ht with rfl | rfl <;> omega)
    rcases ht with rfl | rfl
    · rw [ea]; exact all_no na fun u hu => (fAB u hu).2.2
    · rw [eb]; exact all_no nb fun u hu => (fAB u hu).2.2
  have k1 : ∀ x t v, (x = a ∨ x = b) → knT [x] t = v → Fit t → wt t ≤ 1000000000 → K true 63 [.p (.lst [TV x]), tv t] (.pv (.bool v)) := fun x t v hx hv ft ht => by
    have fx : Fit x := by rcases hx with rfl | rfl <;> assumption
    have wx : wt x ≤ 1048600 := by rcases hx with rfl | rfl <;> assumption
    have zx : x.size = 1 := by rcases hx with rfl | rfl <;> assumption
    exact knowsL_ok (tmvs1 x) hv (by simpa using fx) (by simp; omega) (by simp [Tm.sizes, zx]) (by simp) ft ht
  have k2 : ∀ t v, knT [a, b] t = v → Fit t → wt t ≤ 1000000000 → K true 63 [.p (.lst [TV a, TV b]), tv t] (.pv (.bool v)) := fun t v hv ft ht =>
    knowsL_ok (tmvs2 a b) hv (by simp [fa, fb]) (by simp; omega) (by simp [Tm.sizes, za, zb]) (by simp) ft ht
  have at1 : K true 55 [sv ([97, 32] ++ s)] (.pv (TV a)) := by rw [ea]; exact atom10_ok true _
  have at2 : K true 55 [sv ([98, 32] ++ s)] (.pv (TV b)) := by rw [eb]; exact atom10_ok true _
  refine PC_of_vc (cx_ok true) (mixed true) { own := fun q => Nat.beq q 43 || Nat.beq q 45 || Nat.beq q 47 } Tryd.func12 (by kernel_rfl) rfl rfl (by kernel_rfl) ?_
  repeat (conv => whnf); first | refine IndepAnd (by kernel_rfl) ?_ | refine TreeAnd (by kernel_rfl) ?_ | refine ⟨rfl, ?_⟩ | refine ⟨by decide, ?_⟩ | refine ⟨trivial, ?_⟩ | refine ⟨⟨rfl, trivial⟩, ?_⟩ | refine ⟨Nat.le_of_ble_eq_true rfl, ?_⟩ | refine ⟨⟨_, rfl, rfl⟩, ?_⟩ | refine ⟨⟨rfl, rfl, trivial⟩, ?_⟩ | refine ⟨⟨rfl, rfl, rfl, trivial⟩, ?_⟩ | refine ⟨⟨rfl, rfl, rfl, rfl, trivial⟩, ?_⟩ | refine ⟨⟨rfl, rfl, rfl, rfl, rfl, trivial⟩, ?_⟩
  conv => whnf
  refine ⟨_, CallVC.pr shown10_ok rfl rfl, ?_⟩
  repeat (conv => whnf); first | refine IndepAnd (by kernel_rfl) ?_ | refine TreeAnd (by kernel_rfl) ?_ | refine ⟨rfl, ?_⟩ | refine ⟨by decide, ?_⟩ | refine ⟨trivial, ?_⟩ | refine ⟨⟨rfl, trivial⟩, ?_⟩ | refine ⟨Nat.le_of_ble_eq_true rfl, ?_⟩ | refine ⟨⟨_, rfl, rfl⟩, ?_⟩ | refine ⟨⟨rfl, rfl, trivial⟩, ?_⟩ | refine ⟨⟨rfl, rfl, rfl, trivial⟩, ?_⟩ | refine ⟨⟨rfl, rfl, rfl, rfl, trivial⟩, ?_⟩ | refine ⟨⟨rfl, rfl, rfl, rfl, rfl, trivial⟩, ?_⟩
  conv => whnf
  refine ⟨by show 2 + s.length ≤ _; omega, ?_⟩
  repeat (conv => whnf); first | refine IndepAnd (by kernel_rfl) ?_ | refine TreeAnd (by kernel_rfl) ?_ | refine ⟨rfl, ?_⟩ | refine ⟨by decide, ?_⟩ | refine ⟨trivial, ?_⟩ | refine ⟨⟨rfl, trivial⟩, ?_⟩ | refine ⟨Nat.le_of_ble_eq_true rfl, ?_⟩ | refine ⟨⟨_, rfl, rfl⟩, ?_⟩ | refine ⟨⟨rfl, rfl, trivial⟩, ?_⟩ | refine ⟨⟨rfl, rfl, rfl, trivial⟩, ?_⟩ | refine ⟨⟨rfl, rfl, rfl, rfl, trivial⟩, ?_⟩ | refine ⟨⟨rfl, rfl, rfl, rfl, rfl, trivial⟩, ?_⟩
  conv => whnf
  refine ⟨_, CallVC.pr at1 rfl rfl, ?_⟩
  repeat (conv => whnf); first | refine IndepAnd (by kernel_rfl) ?_ | refine TreeAnd (by kernel_rfl) ?_ | refine ⟨rfl, ?_⟩ | refine ⟨by decide, ?_⟩ | refine ⟨trivial, ?_⟩ | refine ⟨⟨rfl, trivial⟩, ?_⟩ | refine ⟨Nat.le_of_ble_eq_true rfl, ?_⟩ | refine ⟨⟨_, rfl, rfl⟩, ?_⟩ | refine ⟨⟨rfl, rfl, trivial⟩, ?_⟩ | refine ⟨⟨rfl, rfl, rfl, trivial⟩, ?_⟩ | refine ⟨⟨rfl, rfl, rfl, rfl, trivial⟩, ?_⟩ | refine ⟨⟨rfl, rfl, rfl, rfl, rfl, trivial⟩, ?_⟩
  conv => whnf
  refine ⟨by show 2 + s.length ≤ _; omega, ?_⟩
  repeat (conv => whnf); first | refine IndepAnd (by kernel_rfl) ?_ | refine TreeAnd (by kernel_rfl) ?_ | refine ⟨rfl, ?_⟩ | refine ⟨by decide, ?_⟩ | refine ⟨trivial, ?_⟩ | refine ⟨⟨rfl, trivial⟩, ?_⟩ | refine ⟨Nat.le_of_ble_eq_true rfl, ?_⟩ | refine ⟨⟨_, rfl, rfl⟩, ?_⟩ | refine ⟨⟨rfl, rfl, trivial⟩, ?_⟩ | refine ⟨⟨rfl, rfl, rfl, trivial⟩, ?_⟩ | refine ⟨⟨rfl, rfl, rfl, rfl, trivial⟩, ?_⟩ | refine ⟨⟨rfl, rfl, rfl, rfl, rfl, trivial⟩, ?_⟩
  conv => whnf
  refine ⟨_, CallVC.pr at2 rfl rfl, ?_⟩
  repeat (conv => whnf); first | refine IndepAnd (by kernel_rfl) ?_ | refine TreeAnd (by kernel_rfl) ?_ | refine ⟨rfl, ?_⟩ | refine ⟨by decide, ?_⟩ | refine ⟨trivial, ?_⟩ | refine ⟨⟨rfl, trivial⟩, ?_⟩ | refine ⟨Nat.le_of_ble_eq_true rfl, ?_⟩ | refine ⟨⟨_, rfl, rfl⟩, ?_⟩ | refine ⟨⟨rfl, rfl, trivial⟩, ?_⟩ | refine ⟨⟨rfl, rfl, rfl, trivial⟩, ?_⟩ | refine ⟨⟨rfl, rfl, rfl, rfl, trivial⟩, ?_⟩ | refine ⟨⟨rfl, rfl, rfl, rfl, rfl, trivial⟩, ?_⟩
  conv => whnf
  refine ⟨_, CallVC.pr (use_ok true a n h0 h1) rfl rfl, ?_⟩
  repeat (conv => whnf); first | refine IndepAnd (by kernel_rfl) ?_ | refine TreeAnd (by kernel_rfl) ?_ | refine ⟨rfl, ?_⟩ | refine ⟨by decide, ?_⟩ | refine ⟨trivial, ?_⟩ | refine ⟨⟨rfl, trivial⟩, ?_⟩ | refine ⟨Nat.le_of_ble_eq_true rfl, ?_⟩ | refine ⟨⟨_, rfl, rfl⟩, ?_⟩ | refine ⟨⟨rfl, rfl, trivial⟩, ?_⟩ | refine ⟨⟨rfl, rfl, rfl, trivial⟩, ?_⟩ | refine ⟨⟨rfl, rfl, rfl, rfl, trivial⟩, ?_⟩ | refine ⟨⟨rfl, rfl, rfl, rfl, rfl, trivial⟩, ?_⟩
  conv => whnf
  refine ⟨_, CallVC.pr (keyotp_ok true a n h0 h1) rfl rfl, ?_⟩
  repeat (conv => whnf); first | refine IndepAnd (by kernel_rfl) ?_ | refine TreeAnd (by kernel_rfl) ?_ | refine ⟨rfl, ?_⟩ | refine ⟨by decide, ?_⟩ | refine ⟨trivial, ?_⟩ | refine ⟨⟨rfl, trivial⟩, ?_⟩ | refine ⟨Nat.le_of_ble_eq_true rfl, ?_⟩ | refine ⟨⟨_, rfl, rfl⟩, ?_⟩ | refine ⟨⟨rfl, rfl, trivial⟩, ?_⟩ | refine ⟨⟨rfl, rfl, rfl, trivial⟩, ?_⟩ | refine ⟨⟨rfl, rfl, rfl, rfl, trivial⟩, ?_⟩ | refine ⟨⟨rfl, rfl, rfl, rfl, rfl, trivial⟩, ?_⟩
  conv => whnf
  refine ⟨_, CallVC.pr (keyword_ok true a) rfl rfl, ?_⟩
  repeat (conv => whnf); first | refine IndepAnd (by kernel_rfl) ?_ | refine TreeAnd (by kernel_rfl) ?_ | refine ⟨rfl, ?_⟩ | refine ⟨by decide, ?_⟩ | refine ⟨trivial, ?_⟩ | refine ⟨⟨rfl, trivial⟩, ?_⟩ | refine ⟨Nat.le_of_ble_eq_true rfl, ?_⟩ | refine ⟨⟨_, rfl, rfl⟩, ?_⟩ | refine ⟨⟨rfl, rfl, trivial⟩, ?_⟩ | refine ⟨⟨rfl, rfl, rfl, trivial⟩, ?_⟩ | refine ⟨⟨rfl, rfl, rfl, rfl, trivial⟩, ?_⟩ | refine ⟨⟨rfl, rfl, rfl, rfl, rfl, trivial⟩, ?_⟩
  conv => whnf
  refine ⟨by show 1 + s.length ≤ _; omega, ?_⟩
  repeat (conv => whnf); first | refine IndepAnd (by kernel_rfl) ?_ | refine TreeAnd (by kernel_rfl) ?_ | refine ⟨rfl, ?_⟩ | refine ⟨by decide, ?_⟩ | refine ⟨trivial, ?_⟩ | refine ⟨⟨rfl, trivial⟩, ?_⟩ | refine ⟨Nat.le_of_ble_eq_true rfl, ?_⟩ | refine ⟨⟨_, rfl, rfl⟩, ?_⟩ | refine ⟨⟨rfl, rfl, trivial⟩, ?_⟩ | refine ⟨⟨rfl, rfl, rfl, trivial⟩, ?_⟩ | refine ⟨⟨rfl, rfl, rfl, rfl, trivial⟩, ?_⟩ | refine ⟨⟨rfl, rfl, rfl, rfl, rfl, trivial⟩, ?_⟩
  conv => whnf
  refine ⟨_, CallVC.pr (keylong_ok true a ([120] ++ s) (by simp; omega)) rfl rfl, ?_⟩
  repeat (conv => whnf); first | refine IndepAnd (by kernel_rfl) ?_ | refine TreeAnd (by kernel_rfl) ?_ | refine ⟨rfl, ?_⟩ | refine ⟨by decide, ?_⟩ | refine ⟨trivial, ?_⟩ | refine ⟨⟨rfl, trivial⟩, ?_⟩ | refine ⟨Nat.le_of_ble_eq_true rfl, ?_⟩ | refine ⟨⟨_, rfl, rfl⟩, ?_⟩ | refine ⟨⟨rfl, rfl, trivial⟩, ?_⟩ | refine ⟨⟨rfl, rfl, rfl, trivial⟩, ?_⟩ | refine ⟨⟨rfl, rfl, rfl, rfl, trivial⟩, ?_⟩ | refine ⟨⟨rfl, rfl, rfl, rfl, rfl, trivial⟩, ?_⟩
  conv => whnf
  refine ⟨_, CallVC.pr (join_ok true a b [120] [121] (by decide) (by decide)) rfl rfl, ?_⟩
  repeat (conv => whnf); first | refine IndepAnd (by kernel_rfl) ?_ | refine TreeAnd (by kernel_rfl) ?_ | refine ⟨rfl, ?_⟩ | refine ⟨by decide, ?_⟩ | refine ⟨trivial, ?_⟩ | refine ⟨⟨rfl, trivial⟩, ?_⟩ | refine ⟨Nat.le_of_ble_eq_true rfl, ?_⟩ | refine ⟨⟨_, rfl, rfl⟩, ?_⟩ | refine ⟨⟨rfl, rfl, trivial⟩, ?_⟩ | refine ⟨⟨rfl, rfl, rfl, trivial⟩, ?_⟩ | refine ⟨⟨rfl, rfl, rfl, rfl, trivial⟩, ?_⟩ | refine ⟨⟨rfl, rfl, rfl, rfl, rfl, trivial⟩, ?_⟩
  conv => whnf
  refine ⟨_, CallVC.pr (armor_ok true a b) rfl rfl, ?_⟩
  repeat (conv => whnf); first | refine IndepAnd (by kernel_rfl) ?_ | refine TreeAnd (by kernel_rfl) ?_ | refine ⟨rfl, ?_⟩ | refine ⟨by decide, ?_⟩ | refine ⟨trivial, ?_⟩ | refine ⟨⟨rfl, trivial⟩, ?_⟩ | refine ⟨Nat.le_of_ble_eq_true rfl, ?_⟩ | refine ⟨⟨_, rfl, rfl⟩, ?_⟩ | refine ⟨⟨rfl, rfl, trivial⟩, ?_⟩ | refine ⟨⟨rfl, rfl, rfl, trivial⟩, ?_⟩ | refine ⟨⟨rfl, rfl, rfl, rfl, trivial⟩, ?_⟩ | refine ⟨⟨rfl, rfl, rfl, rfl, rfl, trivial⟩, ?_⟩
  conv => whnf
  refine ⟨_, CallVC.pr (reply_ok true a b) rfl rfl, ?_⟩
  repeat (conv => whnf); first | refine IndepAnd (by kernel_rfl) ?_ | refine TreeAnd (by kernel_rfl) ?_ | refine ⟨rfl, ?_⟩ | refine ⟨by decide, ?_⟩ | refine ⟨trivial, ?_⟩ | refine ⟨⟨rfl, trivial⟩, ?_⟩ | refine ⟨Nat.le_of_ble_eq_true rfl, ?_⟩ | refine ⟨⟨_, rfl, rfl⟩, ?_⟩ | refine ⟨⟨rfl, rfl, trivial⟩, ?_⟩ | refine ⟨⟨rfl, rfl, rfl, trivial⟩, ?_⟩ | refine ⟨⟨rfl, rfl, rfl, rfl, trivial⟩, ?_⟩ | refine ⟨⟨rfl, rfl, rfl, rfl, rfl, trivial⟩, ?_⟩
  conv => whnf
  refine ⟨_, CallVC.pr (kab a (.inl rfl)) rfl rfl, ?_⟩
  repeat (conv => whnf); first | refine IndepAnd (by kernel_rfl) ?_ | refine TreeAnd (by kernel_rfl) ?_ | refine ⟨rfl, ?_⟩ | refine ⟨by decide, ?_⟩ | refine ⟨trivial, ?_⟩ | refine ⟨⟨rfl, trivial⟩, ?_⟩ | refine ⟨Nat.le_of_ble_eq_true rfl, ?_⟩ | refine ⟨⟨_, rfl, rfl⟩, ?_⟩ | refine ⟨⟨rfl, rfl, trivial⟩, ?_⟩ | refine ⟨⟨rfl, rfl, rfl, trivial⟩, ?_⟩ | refine ⟨⟨rfl, rfl, rfl, rfl, trivial⟩, ?_⟩ | refine ⟨⟨rfl, rfl, rfl, rfl, rfl, trivial⟩, ?_⟩
  conv => whnf
  refine ⟨_, CallVC.pr (kab b (.inr rfl)) rfl rfl, ?_⟩
  repeat (conv => whnf); first | refine IndepAnd (by kernel_rfl) ?_ | refine TreeAnd (by kernel_rfl) ?_ | refine ⟨rfl, ?_⟩ | refine ⟨by decide, ?_⟩ | refine ⟨trivial, ?_⟩ | refine ⟨⟨rfl, trivial⟩, ?_⟩ | refine ⟨Nat.le_of_ble_eq_true rfl, ?_⟩ | refine ⟨⟨_, rfl, rfl⟩, ?_⟩ | refine ⟨⟨rfl, rfl, trivial⟩, ?_⟩ | refine ⟨⟨rfl, rfl, rfl, trivial⟩, ?_⟩ | refine ⟨⟨rfl, rfl, rfl, rfl, trivial⟩, ?_⟩ | refine ⟨⟨rfl, rfl, rfl, rfl, rfl, trivial⟩, ?_⟩
  conv => whnf
  refine ⟨{ i : Nat // i ≤ A.length }, fun i => Vc.S.of [(4, .p (.bool false)), (5, .p (.bool true)), (6, .ptr 6 0), (7, .ptr 7 0), (8, lv A), (9, lv B), (11, iv (i.1 : Int))] [(6, .var true 25 (tv a)), (7, .var true 25 (tv b))], fun i => A.length - i.1, ⟨0, Nat.zero_le _⟩, ?_, ?_⟩
  · refine Ge.of rfl ?_ ?_
    · repeat (conv => whnf); first | refine ⟨LE.of rfl, ?_⟩ | refine ⟨LE.of (congrArg (fun l => SV.p (PV.lst l)) eA), ?_⟩ | refine ⟨LE.of (congrArg (fun l => SV.p (PV.lst l)) eB), ?_⟩
      trivial
    · repeat (conv => whnf); refine ⟨OLE.of rfl, ?_⟩
      trivial
  rintro ⟨i, hi⟩
  repeat (conv => whnf); first | refine IndepAnd (by kernel_rfl) ?_ | refine TreeAnd (by kernel_rfl) ?_ | refine ⟨rfl, ?_⟩ | refine ⟨by decide, ?_⟩ | refine ⟨trivial, ?_⟩ | refine ⟨⟨rfl, trivial⟩, ?_⟩ | refine ⟨Nat.le_of_ble_eq_true rfl, ?_⟩ | refine ⟨⟨_, rfl, rfl⟩, ?_⟩ | refine ⟨⟨rfl, rfl, trivial⟩, ?_⟩ | refine ⟨⟨rfl, rfl, rfl, trivial⟩, ?_⟩ | refine ⟨⟨rfl, rfl, rfl, rfl, trivial⟩, ?_⟩ | refine ⟨⟨rfl, rfl, rfl, rfl, rfl, trivial⟩, ?_⟩
  conv => whnf
  refine @bool_rec _ _ _ ?_ ?_ <;> intro h1
  · have hlt : i < A.length := by have := of_decide_eq_true h1; rw [tmvs_length] at this; exact Int.ofNat_lt.1 this
    obtain ⟨ft, wt, zt, kt, k3, k4⟩ := fA _ (List.getElem_mem hlt)
    repeat (conv => whnf); first | refine IndepAnd (by kernel_rfl) ?_ | refine TreeAnd (by kernel_rfl) ?_ | refine ⟨rfl, ?_⟩ | refine ⟨by decide, ?_⟩ | refine ⟨trivial, ?_⟩ | refine ⟨⟨rfl, trivial⟩, ?_⟩ | refine ⟨Nat.le_of_ble_eq_true rfl, ?_⟩ | refine ⟨⟨_, rfl, rfl⟩, ?_⟩ | refine ⟨⟨rfl, rfl, trivial⟩, ?_⟩ | refine ⟨⟨rfl, rfl, rfl, trivial⟩, ?_⟩ | refine ⟨⟨rfl, rfl, rfl, rfl, trivial⟩, ?_⟩ | refine ⟨⟨rfl, rfl, rfl, rfl, rfl, trivial⟩, ?_⟩
    conv => whnf
    refine ⟨Int.natCast_nonneg _, TV A[i], tmvs_getN hlt, rfl, rfl, ?_⟩
    repeat (conv => whnf); first | refine IndepAnd (by kernel_rfl) ?_ | refine TreeAnd (by kernel_rfl) ?_ | refine ⟨rfl, ?_⟩ | refine ⟨by decide, ?_⟩ | refine ⟨trivial, ?_⟩ | refine ⟨⟨rfl, trivial⟩, ?_⟩ | refine ⟨Nat.le_of_ble_eq_true rfl, ?_⟩ | refine ⟨⟨_, rfl, rfl⟩, ?_⟩ | refine ⟨⟨rfl, rfl, trivial⟩, ?_⟩ | refine ⟨⟨rfl, rfl, rfl, trivial⟩, ?_⟩ | refine ⟨⟨rfl, rfl, rfl, rfl, trivial⟩, ?_⟩ | refine ⟨⟨rfl, rfl, rfl, rfl, rfl, trivial⟩, ?_⟩
    conv => whnf
    refine ⟨_, CallVC.pr (k1 a A[i] true (.inl rfl) k3 ft wt) rfl rfl, ?_⟩
    repeat (conv => whnf); first | refine IndepAnd (by kernel_rfl) ?_ | refine TreeAnd (by kernel_rfl) ?_ | refine ⟨rfl, ?_⟩ | refine ⟨by decide, ?_⟩ | refine ⟨trivial, ?_⟩ | refine ⟨⟨rfl, trivial⟩, ?_⟩ | refine ⟨Nat.le_of_ble_eq_true rfl, ?_⟩ | refine ⟨⟨_, rfl, rfl⟩, ?_⟩ | refine ⟨⟨rfl, rfl, trivial⟩, ?_⟩ | refine ⟨⟨rfl, rfl, rfl, trivial⟩, ?_⟩ | refine ⟨⟨rfl, rfl, rfl, rfl, trivial⟩, ?_⟩ | refine ⟨⟨rfl, rfl, rfl, rfl, rfl, trivial⟩, ?_⟩
    conv => whnf
    refine ⟨Int.natCast_nonneg _, TV A[i], tmvs_getN hlt, rfl, rfl, ?_⟩
    repeat (conv => whnf); first | refine IndepAnd (by kernel_rfl) ?_ | refine TreeAnd (by kernel_rfl) ?_ | refine ⟨rfl, ?_⟩ | refine ⟨by decide, ?_⟩ | refine ⟨trivial, ?_⟩ | refine ⟨⟨rfl, trivial⟩, ?_⟩ | refine ⟨Nat.le_of_ble_eq_true rfl, ?_⟩ | refine ⟨⟨_, rfl, rfl⟩, ?_⟩ | refine ⟨⟨rfl, rfl, trivial⟩, ?_⟩ | refine ⟨⟨rfl, rfl, rfl, trivial⟩, ?_⟩ | refine ⟨⟨rfl, rfl, rfl, rfl, trivial⟩, ?_⟩ | refine ⟨⟨rfl, rfl, rfl, rfl, rfl, trivial⟩, ?_⟩
    conv => whnf
    refine ⟨_, CallVC.pr (k1 b A[i] false (.inr rfl) k4 ft wt) rfl rfl, ?_⟩
    repeat (conv => whnf); first | refine IndepAnd (by kernel_rfl) ?_ | refine TreeAnd (by kernel_rfl) ?_ | refine ⟨rfl, ?_⟩ | refine ⟨by decide, ?_⟩ | refine ⟨trivial, ?_⟩ | refine ⟨⟨rfl, trivial⟩, ?_⟩ | refine ⟨Nat.le_of_ble_eq_true rfl, ?_⟩ | refine ⟨⟨_, rfl, rfl⟩, ?_⟩ | refine ⟨⟨rfl, rfl, trivial⟩, ?_⟩ | refine ⟨⟨rfl, rfl, rfl, trivial⟩, ?_⟩ | refine ⟨⟨rfl, rfl, rfl, rfl, trivial⟩, ?_⟩ | refine ⟨⟨rfl, rfl, rfl, rfl, rfl, trivial⟩, ?_⟩
    conv => whnf
    refine ⟨_, wrapN (n := i + 1) rfl (by omega), ?_⟩
    repeat (conv => whnf); first | refine IndepAnd (by kernel_rfl) ?_ | refine TreeAnd (by kernel_rfl) ?_ | refine ⟨rfl, ?_⟩ | refine ⟨by decide, ?_⟩ | refine ⟨trivial, ?_⟩ | refine ⟨⟨rfl, trivial⟩, ?_⟩ | refine ⟨Nat.le_of_ble_eq_true rfl, ?_⟩ | refine ⟨⟨_, rfl, rfl⟩, ?_⟩ | refine ⟨⟨rfl, rfl, trivial⟩, ?_⟩ | refine ⟨⟨rfl, rfl, rfl, trivial⟩, ?_⟩ | refine ⟨⟨rfl, rfl, rfl, rfl, trivial⟩, ?_⟩ | refine ⟨⟨rfl, rfl, rfl, rfl, rfl, trivial⟩, ?_⟩
    conv => whnf
    refine ⟨⟨i + 1, hlt⟩, ?_, by show A.length - (i + 1) < A.length - i; omega⟩
    refine Ge.of rfl ?_ ?_
    · repeat (conv => whnf); refine ⟨LE.of rfl, ?_⟩
      trivial
    · repeat (conv => whnf); refine ⟨OLE.of rfl, ?_⟩
      trivial
  repeat (conv => whnf); first | refine IndepAnd (by kernel_rfl) ?_ | refine TreeAnd (by kernel_rfl) ?_ | refine ⟨rfl, ?_⟩ | refine ⟨by decide, ?_⟩ | refine ⟨trivial, ?_⟩ | refine ⟨⟨rfl, trivial⟩, ?_⟩ | refine ⟨Nat.le_of_ble_eq_true rfl, ?_⟩ | refine ⟨⟨_, rfl, rfl⟩, ?_⟩ | refine ⟨⟨rfl, rfl, trivial⟩, ?_⟩ | refine ⟨⟨rfl, rfl, rfl, trivial⟩, ?_⟩ | refine ⟨⟨rfl, rfl, rfl, rfl, trivial⟩, ?_⟩ | refine ⟨⟨rfl, rfl, rfl, rfl, rfl, trivial⟩, ?_⟩
  conv => whnf
  refine ⟨{ i : Nat // i ≤ B.length }, fun i => Vc.S.of [(4, .p (.bool false)), (5, .p (.bool true)), (6, .ptr 6 0), (7, .ptr 7 0), (9, lv B), (12, iv (i.1 : Int))] [(6, .var true 25 (tv a)), (7, .var true 25 (tv b))], fun i => B.length - i.1, ⟨0, Nat.zero_le _⟩, ?_, ?_⟩
  · refine Ge.of rfl ?_ ?_
    · repeat (conv => whnf); refine ⟨LE.of rfl, ?_⟩
      trivial
    · repeat (conv => whnf); refine ⟨OLE.of rfl, ?_⟩
      trivial
  rintro ⟨j, hj⟩
  repeat (conv => whnf); first | refine IndepAnd (by kernel_rfl) ?_ | refine TreeAnd (by kernel_rfl) ?_ | refine ⟨rfl, ?_⟩ | refine ⟨by decide, ?_⟩ | refine ⟨trivial, ?_⟩ | refine ⟨⟨rfl, trivial⟩, ?_⟩ | refine ⟨Nat.le_of_ble_eq_true rfl, ?_⟩ | refine ⟨⟨_, rfl, rfl⟩, ?_⟩ | refine ⟨⟨rfl, rfl, trivial⟩, ?_⟩ | refine ⟨⟨rfl, rfl, rfl, trivial⟩, ?_⟩ | refine ⟨⟨rfl, rfl, rfl, rfl, trivial⟩, ?_⟩ | refine ⟨⟨rfl, rfl, rfl, rfl, rfl, trivial⟩, ?_⟩
  conv => whnf
  refine @bool_rec _ _ _ ?_ ?_ <;> intro h2
  · have hlt : j < B.length := by have := of_decide_eq_true h2; rw [tmvs_length] at this; exact Int.ofNat_lt.1 this
    obtain ⟨ft, wt, zt, kt, k3, k4, k5⟩ := fB _ (List.getElem_mem hlt)
    repeat (conv => whnf); first | refine IndepAnd (by kernel_rfl) ?_ | refine TreeAnd (by kernel_rfl) ?_ | refine ⟨rfl, ?_⟩ | refine ⟨by decide, ?_⟩ | refine ⟨trivial, ?_⟩ | refine ⟨⟨rfl, trivial⟩, ?_⟩ | refine ⟨Nat.le_of_ble_eq_true rfl, ?_⟩ | refine ⟨⟨_, rfl, rfl⟩, ?_⟩ | refine ⟨⟨rfl, rfl, trivial⟩, ?_⟩ | refine ⟨⟨rfl, rfl, rfl, trivial⟩, ?_⟩ | refine ⟨⟨rfl, rfl, rfl, rfl, trivial⟩, ?_⟩ | refine ⟨⟨rfl, rfl, rfl, rfl, rfl, trivial⟩, ?_⟩
    conv => whnf
    refine ⟨Int.natCast_nonneg _, TV B[j], tmvs_getN hlt, rfl, rfl, ?_⟩
    repeat (conv => whnf); first | refine IndepAnd (by kernel_rfl) ?_ | refine TreeAnd (by kernel_rfl) ?_ | refine ⟨rfl, ?_⟩ | refine ⟨by decide, ?_⟩ | refine ⟨trivial, ?_⟩ | refine ⟨⟨rfl, trivial⟩, ?_⟩ | refine ⟨Nat.le_of_ble_eq_true rfl, ?_⟩ | refine ⟨⟨_, rfl, rfl⟩, ?_⟩ | refine ⟨⟨rfl, rfl, trivial⟩, ?_⟩ | refine ⟨⟨rfl, rfl, rfl, trivial⟩, ?_⟩ | refine ⟨⟨rfl, rfl, rfl, rfl, trivial⟩, ?_⟩ | refine ⟨⟨rfl, rfl, rfl, rfl, rfl, trivial⟩, ?_⟩
    conv => whnf
    refine ⟨_, CallVC.pr (k1 a B[j] false (.inl rfl) k3 ft wt) rfl rfl, ?_⟩
    repeat (conv => whnf); first | refine IndepAnd (by kernel_rfl) ?_ | refine TreeAnd (by kernel_rfl) ?_ | refine ⟨rfl, ?_⟩ | refine ⟨by decide, ?_⟩ | refine ⟨trivial, ?_⟩ | refine ⟨⟨rfl, trivial⟩, ?_⟩ | refine ⟨Nat.le_of_ble_eq_true rfl, ?_⟩ | refine ⟨⟨_, rfl, rfl⟩, ?_⟩ | refine ⟨⟨rfl, rfl, trivial⟩, ?_⟩ | refine ⟨⟨rfl, rfl, rfl, trivial⟩, ?_⟩ | refine ⟨⟨rfl, rfl, rfl, rfl, trivial⟩, ?_⟩ | refine ⟨⟨rfl, rfl, rfl, rfl, rfl, trivial⟩, ?_⟩
    conv => whnf
    refine ⟨Int.natCast_nonneg _, TV B[j], tmvs_getN hlt, rfl, rfl, ?_⟩
    repeat (conv => whnf); first | refine IndepAnd (by kernel_rfl) ?_ | refine TreeAnd (by kernel_rfl) ?_ | refine ⟨rfl, ?_⟩ | refine ⟨by decide, ?_⟩ | refine ⟨trivial, ?_⟩ | refine ⟨⟨rfl, trivial⟩, ?_⟩ | refine ⟨Nat.le_of_ble_eq_true rfl, ?_⟩ | refine ⟨⟨_, rfl, rfl⟩, ?_⟩ | refine ⟨⟨rfl, rfl, trivial⟩, ?_⟩ | refine ⟨⟨rfl, rfl, rfl, trivial⟩, ?_⟩ | refine ⟨⟨rfl, rfl, rfl, rfl, trivial⟩, ?_⟩ | refine ⟨⟨rfl, rfl, rfl, rfl, rfl, trivial⟩, ?_⟩
    conv => whnf
    refine ⟨_, CallVC.pr (k1 b B[j] false (.inr rfl) k4 ft wt) rfl rfl, ?_⟩
    repeat (conv => whnf); first | refine IndepAnd (by kernel_rfl) ?_ | refine TreeAnd (by kernel_rfl) ?_ | refine ⟨rfl, ?_⟩ | refine ⟨by decide, ?_⟩ | refine ⟨trivial, ?_⟩ | refine ⟨⟨rfl, trivial⟩, ?_⟩ | refine ⟨Nat.le_of_ble_eq_true rfl, ?_⟩ | refine ⟨⟨_, rfl, rfl⟩, ?_⟩ | refine ⟨⟨rfl, rfl, trivial⟩, ?_⟩ | refine ⟨⟨rfl, rfl, rfl, trivial⟩, ?_⟩ | refine ⟨⟨rfl, rfl, rfl, rfl, trivial⟩, ?_⟩ | refine ⟨⟨rfl, rfl, rfl, rfl, rfl, trivial⟩, ?_⟩
    conv => whnf
    refine ⟨Int.natCast_nonneg _, TV B[j], tmvs_getN hlt, rfl, rfl, ?_⟩
    repeat (conv => whnf); first | refine IndepAnd (by kernel_rfl) ?_ | refine TreeAnd (by kernel_rfl) ?_ | refine ⟨rfl, ?_⟩ | refine ⟨by decide, ?_⟩ | refine ⟨trivial, ?_⟩ | refine ⟨⟨rfl, trivial⟩, ?_⟩ | refine ⟨Nat.le_of_ble_eq_true rfl, ?_⟩ | refine ⟨⟨_, rfl, rfl⟩, ?_⟩ | refine ⟨⟨rfl, rfl, trivial⟩, ?_⟩ | refine ⟨⟨rfl, rfl, rfl, trivial⟩, ?_⟩ | refine ⟨⟨rfl, rfl, rfl, rfl, trivial⟩, ?_⟩ | refine ⟨⟨rfl, rfl, rfl, rfl, rfl, trivial⟩, ?_⟩
    conv => whnf
    refine ⟨_, CallVC.pr (k2 B[j] true k5 ft wt) rfl rfl, ?_⟩
    repeat (conv => whnf); first | refine IndepAnd (by kernel_rfl) ?_ | refine TreeAnd (by kernel_rfl) ?_ | refine ⟨rfl, ?_⟩ | refine ⟨by decide, ?_⟩ | refine ⟨trivial, ?_⟩ | refine ⟨⟨rfl, trivial⟩, ?_⟩ | refine ⟨Nat.le_of_ble_eq_true rfl, ?_⟩ | refine ⟨⟨_, rfl, rfl⟩, ?_⟩ | refine ⟨⟨rfl, rfl, trivial⟩, ?_⟩ | refine ⟨⟨rfl, rfl, rfl, trivial⟩, ?_⟩ | refine ⟨⟨rfl, rfl, rfl, rfl, trivial⟩, ?_⟩ | refine ⟨⟨rfl, rfl, rfl, rfl, rfl, trivial⟩, ?_⟩
    conv => whnf
    refine ⟨_, wrapN (n := j + 1) rfl (by omega), ?_⟩
    repeat (conv => whnf); first | refine IndepAnd (by kernel_rfl) ?_ | refine TreeAnd (by kernel_rfl) ?_ | refine ⟨rfl, ?_⟩ | refine ⟨by decide, ?_⟩ | refine ⟨trivial, ?_⟩ | refine ⟨⟨rfl, trivial⟩, ?_⟩ | refine ⟨Nat.le_of_ble_eq_true rfl, ?_⟩ | refine ⟨⟨_, rfl, rfl⟩, ?_⟩ | refine ⟨⟨rfl, rfl, trivial⟩, ?_⟩ | refine ⟨⟨rfl, rfl, rfl, trivial⟩, ?_⟩ | refine ⟨⟨rfl, rfl, rfl, rfl, trivial⟩, ?_⟩ | refine ⟨⟨rfl, rfl, rfl, rfl, rfl, trivial⟩, ?_⟩
    conv => whnf
    refine ⟨⟨j + 1, hlt⟩, ?_, by show B.length - (j + 1) < B.length - j; omega⟩
    refine Ge.of rfl ?_ ?_
    · repeat (conv => whnf); refine ⟨LE.of rfl, ?_⟩
      trivial
    · repeat (conv => whnf); refine ⟨OLE.of rfl, ?_⟩
      trivial
  repeat (conv => whnf); first | refine IndepAnd (by kernel_rfl) ?_ | refine TreeAnd (by kernel_rfl) ?_ | refine ⟨rfl, ?_⟩ | refine ⟨by decide, ?_⟩ | refine ⟨trivial, ?_⟩ | refine ⟨⟨rfl, trivial⟩, ?_⟩ | refine ⟨Nat.le_of_ble_eq_true rfl, ?_⟩ | refine ⟨⟨_, rfl, rfl⟩, ?_⟩ | refine ⟨⟨rfl, rfl, trivial⟩, ?_⟩ | refine ⟨⟨rfl, rfl, rfl, trivial⟩, ?_⟩ | refine ⟨⟨rfl, rfl, rfl, rfl, trivial⟩, ?_⟩ | refine ⟨⟨rfl, rfl, rfl, rfl, rfl, trivial⟩, ?_⟩
  conv => whnf
  exact LEP.refl _
end Go.Sl
