/- The law: what is within a term stands in its text. -/
import Derived.Test.YtcdbgkcijelopaaDoorGh
set_option linter.unusedVariables false
set_option linter.unusedSimpArgs false
namespace Go.Sl
open Go Go.Vc Go.Proofs Go.RowKit

theorem insT_more (acc : List Tm) (x : Tm) : ∃ r, insT acc x = acc ++ r ∧ ∀ y ∈ r, y = x := by
  unfold insT
  split
  · exact ⟨[], by simp, fun y h => by cases h⟩
  · exact ⟨[x], rfl, fun y h => List.mem_singleton.1 h⟩
theorem foldl_more : ∀ (m acc : List Tm), ∃ r, m.foldl insT acc = acc ++ r ∧ ∀ y ∈ r, y ∈ m
  | [], acc => ⟨[], by simp, fun y h => by cases h⟩
  | x :: m, acc => by
    obtain ⟨r, h1, h2⟩ := insT_more acc x
    obtain ⟨q, h3, h4⟩ := foldl_more m (insT acc x)
    refine ⟨r ++ q, by rw [List.foldl_cons, h3, h1, List.append_assoc], fun y hy => ?_⟩
    rcases List.mem_append.1 hy with hy | hy
    · rw [h2 y hy]; exact List.mem_cons_self ..
    · exact List.mem_cons_of_mem _ (h4 y hy)
theorem subTs_more : ∀ (l acc : List Tm), ∃ r, subTs acc l = acc ++ r ∧ ∀ y ∈ r, ∃ u ∈ l, y ∈ subT u
  | [], acc => ⟨[], by simp [subTs], fun y h => by cases h⟩
  | u :: l, acc => by
    obtain ⟨r, h1, h2⟩ := foldl_more (subT u) acc
    obtain ⟨q, h3, h4⟩ := subTs_more l ((subT u).foldl insT acc)
    refine ⟨r ++ q, by rw [subTs, h3, h1, List.append_assoc], fun y hy => ?_⟩
    rcases List.mem_append.1 hy with hy | hy
    · exact ⟨u, List.mem_cons_self .., h2 y hy⟩
    · obtain ⟨v, hv, hy⟩ := h4 y hy
      exact ⟨v, List.mem_cons_of_mem _ hv, hy⟩
/-- The term itself stands ahead, what is in its kids behind. -/
theorem sub_cons (t : Tm) : ∃ r, subT t = t :: r ∧ ∀ y ∈ r, ∃ u ∈ t.kids, y ∈ subT u := by
  obtain ⟨r, h1, h2⟩ := subTs_more t.kids [t]
  exact ⟨r, by rw [subT_eq, h1]; rfl, h2⟩
theorem depth_kid {t u : Tm} (h : u ∈ t.kids) : u.depth < t.depth := by
  rw [depth_mk t]
  have := (depths_le t.kids (Tm.depths t.kids)).1 (Nat.le_refl _) u h
  omega
theorem sizes_mem {l : List Tm} {u : Tm} (h : u ∈ l) : u.size ≤ Tm.sizes l := by
  induction l with
  | nil => cases h
  | cons v l ih =>
    simp only [Tm.sizes]
    cases h with
    | head => omega
    | tail _ h => have := ih h; omega
theorem size_kid {t u : Tm} (h : u ∈ t.kids) : u.size < t.size := by
  rw [Tm.size_eq t]
  have := sizes_mem h
  omega
theorem right_kid {t u : Tm} (h : rightT t = true) (hu : u ∈ t.kids) : rightT u = true := by
  rw [rightT, Bool.and_eq_true, shpD_iff] at h ⊢
  obtain ⟨⟨h1, h2⟩, h3⟩ := h
  refine ⟨⟨(known_of_shp h1).2 u hu, by have := depth_kid hu; omega⟩, ?_⟩
  rw [ordT_eq, Bool.and_eq_true] at h3
  have h4 := h3.2
  cases e : ordT u with
  | true => rfl
  | false =>
    have : t.kids.any (fun u => !ordT u) = true := List.any_eq_true.2 ⟨u, hu, by rw [e]; rfl⟩
    rw [this] at h4
    cases h4
theorem infix_texts' {l : List Tm} {u : Tm} (h : u ∈ l) : u.text <:+: Tm.texts' l := by
  induction l with
  | nil => cases h
  | cons v l ih =>
    rw [Tm.texts']
    cases h with
    | head => exact ⟨[44], Tm.texts' l, by simp⟩
    | tail _ h =>
      obtain ⟨a, b, e⟩ := ih h
      exact ⟨44 :: (v.text ++ a), b, by rw [← e]; simp⟩
theorem infix_texts {l : List Tm} {u : Tm} (h : u ∈ l) : u.text <:+: Tm.texts l := by
  cases l with
  | nil => cases h
  | cons v l =>
    rw [Tm.texts]
    cases h with
    | head => exact ⟨[], Tm.texts' l, by simp⟩
    | tail _ h =>
      obtain ⟨a, b, e⟩ := infix_texts' h
      exact ⟨v.text ++ a, b, by rw [← e]; simp⟩
theorem infix_kid {t u : Tm} (h : u ∈ t.kids) : u.text <:+: t.text := by
  obtain ⟨a, b, e⟩ := infix_texts h
  rw [text_mk t, if_neg (fun hc => by rw [hc.1] at h; cases h), ← e]
  exact ⟨Tm.letter t.kind :: (Tm.nameText t.name ++ 40 :: a), b ++ [41], by simp⟩
/-- What is said of all within a term. -/
structure In (t x : Tm) : Prop where
  txt : x.text <:+: t.text
  right : rightT x = true
  depth : x.depth ≤ t.depth
  size : x.size ≤ t.size
  wt : wt x ≤ Sl.wt t
  fit : Fit x
theorem sub_in : ∀ t : Tm, rightT t = true → Fit t → ∀ x ∈ subT t, In t x := by
  intro t
  induction t using Tm.indk with
  | h t ih =>
  intro hr hf x hx
  obtain ⟨r, e, h⟩ := sub_cons t
  rw [e] at hx
  cases hx with
  | head => exact ⟨⟨[], [], by simp⟩, hr, Nat.le_refl _, Nat.le_refl _, Nat.le_refl _, hf⟩
  | tail _ hx =>
    obtain ⟨u, hu, hx⟩ := h x hx
    have := ih u hu (right_kid hr hu) (hf.kid hu) x hx
    exact ⟨this.txt.trans (infix_kid hu), this.right, by have := this.depth; have := depth_kid hu; omega, by have := this.size; have := size_kid hu; omega, by
      have := this.wt
      have := wts_mem hu
      rw [wt_eq t]
      omega, this.fit⟩
theorem sub_less {t : Tm} (hr : rightT t = true) (hf : Fit t) {i : Nat} (hi : i < (subT t).length) (h0 : 0 < i) : (subT t)[i].size < t.size := by
  obtain ⟨r, e, h⟩ := sub_cons t
  have hm : (subT t)[i] ∈ r := by
    have : (subT t)[i]? = r[i - 1]? := by
      rw [e]
      cases i with
      | zero => omega
      | succ i => simp
    rw [List.getElem?_eq_getElem hi] at this
    exact List.mem_of_getElem? this.symm
  obtain ⟨u, hu, hx⟩ := h _ hm
  have h1 := (sub_in u (right_kid hr hu) (hf.kid hu) _ hx).size
  have h2 := size_kid hu
  omega
/-- Looking for a text in a text. -/
structure Seek (s u : Bs) (k : Nat) (b : Bool) : Prop where
  le : k + u.length ≤ s.length + 1
  no : b = false → ∀ j, j < k → cut s j (j + u.length) ≠ u
theorem Seek.step {s u : Bs} {k : Nat} (h : Seek s u k false) (hk : k + u.length ≤ s.length) : Seek s u (k + 1) (decide (cut s k (k + u.length) = u)) :=
  ⟨by omega, fun hb j hj => by
    by_cases e : j = k
    · subst e; exact of_decide_eq_false hb
    · exact h.no rfl j (by omega)⟩
theorem Seek.on {s u : Bs} {k : Nat} (h : Seek s u k true) (hk : k + u.length ≤ s.length) : Seek s u (k + 1) true := ⟨by omega, fun hb => by cases hb⟩
theorem Seek.found {s u : Bs} {k : Nat} {b : Bool} (h : Seek s u k b) (hi : u <:+: s) (hk : ¬ k + u.length ≤ s.length) : b = true := by
  cases b with
  | true => rfl
  | false =>
    obtain ⟨p, q, e⟩ := hi
    exfalso
    have hl : p.length + u.length + q.length = s.length := by rw [← e]; simp; omega
    refine h.no rfl p.length (by omega) ?_
    unfold cut
    rw [← e, List.append_assoc, List.drop_left, show p.length + u.length - p.length = u.length by omega, List.take_left]
theorem infix_len {s u : Bs} (h : u <:+: s) : u.length ≤ s.length := by
  obtain ⟨p, q, e⟩ := h
  rw [← e]
  simp
  omega
theorem txt_right' {t : Tm} (h : rightT t = true) : txtT t = t.text := by
  have h : (shpD t 60 && ordT t) = true := h
  rw [Bool.and_eq_true] at h
  rw [txtT, if_pos h.1]
theorem within_ok (t : Tm) (hf : Fit t) (hw : wt t ≤ 1048576) : K true 8 [tv t] (.pv (.bool true)) := by
  refine PC_of_vc (cx_ok true) (mixed true) { kp := kpT [(15, [1, 2, 3, 4, 5, 6, 8], [1])] } Tryd.func8 (by kernel_rfl) rfl rfl (by kernel_rfl) ?_
  repeat (conv => whnf); first | refine IndepAnd (by kernel_rfl) ?_ | refine ⟨rfl, ?_⟩ | refine ⟨by decide, ?_⟩ | refine ⟨trivial, ?_⟩ | refine ⟨⟨rfl, trivial⟩, ?_⟩ | refine ⟨Nat.le_of_ble_eq_true rfl, ?_⟩ | refine ⟨⟨_, rfl, rfl⟩, ?_⟩ | refine ⟨⟨rfl, rfl, trivial⟩, ?_⟩ | refine ⟨⟨rfl, rfl, rfl, trivial⟩, ?_⟩ | refine ⟨⟨rfl, rfl, rfl, rfl, trivial⟩, ?_⟩ | refine ⟨⟨rfl, rfl, rfl, rfl, rfl, trivial⟩, ?_⟩
  conv => whnf
  refine ⟨_, CallVC.pr shown7_ok rfl rfl, ?_⟩
  repeat (conv => whnf); first | refine IndepAnd (by kernel_rfl) ?_ | refine ⟨rfl, ?_⟩ | refine ⟨by decide, ?_⟩ | refine ⟨trivial, ?_⟩ | refine ⟨⟨rfl, trivial⟩, ?_⟩ | refine ⟨Nat.le_of_ble_eq_true rfl, ?_⟩ | refine ⟨⟨_, rfl, rfl⟩, ?_⟩ | refine ⟨⟨rfl, rfl, trivial⟩, ?_⟩ | refine ⟨⟨rfl, rfl, rfl, trivial⟩, ?_⟩ | refine ⟨⟨rfl, rfl, rfl, rfl, trivial⟩, ?_⟩ | refine ⟨⟨rfl, rfl, rfl, rfl, rfl, trivial⟩, ?_⟩
  conv => whnf
  refine ⟨_, CallVC.pr (few_ok true 100 (by decide) t hf) rfl rfl, ?_⟩
  repeat (conv => whnf); first | refine IndepAnd (by kernel_rfl) ?_ | refine ⟨rfl, ?_⟩ | refine ⟨by decide, ?_⟩ | refine ⟨trivial, ?_⟩ | refine ⟨⟨rfl, trivial⟩, ?_⟩ | refine ⟨Nat.le_of_ble_eq_true rfl, ?_⟩ | refine ⟨⟨_, rfl, rfl⟩, ?_⟩ | refine ⟨⟨rfl, rfl, trivial⟩, ?_⟩ | refine ⟨⟨rfl, rfl, rfl, trivial⟩, ?_⟩ | refine ⟨⟨rfl, rfl, rfl, rfl, trivial⟩, ?_⟩ | refine ⟨⟨rfl, rfl, rfl, rfl, rfl, trivial⟩, ?_⟩
  conv => whnf
  refine @bool_rec _ _ _ ?_ ?_ <;> intro h1
  · repeat (conv => whnf); first | refine IndepAnd (by kernel_rfl) ?_ | refine ⟨rfl, ?_⟩ | refine ⟨by decide, ?_⟩ | refine ⟨trivial, ?_⟩ | refine ⟨⟨rfl, trivial⟩, ?_⟩ | refine ⟨Nat.le_of_ble_eq_true rfl, ?_⟩ | refine ⟨⟨_, rfl, rfl⟩, ?_⟩ | refine ⟨⟨rfl, rfl, trivial⟩, ?_⟩ | refine ⟨⟨rfl, rfl, rfl, trivial⟩, ?_⟩ | refine ⟨⟨rfl, rfl, rfl, rfl, trivial⟩, ?_⟩ | refine ⟨⟨rfl, rfl, rfl, rfl, rfl, trivial⟩, ?_⟩
    conv => whnf
    exact LEP.refl _
  have hsz : t.size ≤ 100 := by have h1 := of_decide_eq_false h1; omega
  repeat (conv => whnf); first | refine IndepAnd (by kernel_rfl) ?_ | refine ⟨rfl, ?_⟩ | refine ⟨by decide, ?_⟩ | refine ⟨trivial, ?_⟩ | refine ⟨⟨rfl, trivial⟩, ?_⟩ | refine ⟨Nat.le_of_ble_eq_true rfl, ?_⟩ | refine ⟨⟨_, rfl, rfl⟩, ?_⟩ | refine ⟨⟨rfl, rfl, trivial⟩, ?_⟩ | refine ⟨⟨rfl, rfl, rfl, trivial⟩, ?_⟩ | refine ⟨⟨rfl, rfl, rfl, rfl, trivial⟩, ?_⟩ | refine ⟨⟨rfl, rfl, rfl, rfl, rfl, trivial⟩, ?_⟩
  conv => whnf
  refine ⟨_, CallVC.pr (right_wt t hf (by omega)) rfl rfl, ?_⟩
  repeat (conv => whnf); first | refine IndepAnd (by kernel_rfl) ?_ | refine ⟨rfl, ?_⟩ | refine ⟨by decide, ?_⟩ | refine ⟨trivial, ?_⟩ | refine ⟨⟨rfl, trivial⟩, ?_⟩ | refine ⟨Nat.le_of_ble_eq_true rfl, ?_⟩ | refine ⟨⟨_, rfl, rfl⟩, ?_⟩ | refine ⟨⟨rfl, rfl, trivial⟩, ?_⟩ | refine ⟨⟨rfl, rfl, rfl, trivial⟩, ?_⟩ | refine ⟨⟨rfl, rfl, rfl, rfl, trivial⟩, ?_⟩ | refine ⟨⟨rfl, rfl, rfl, rfl, rfl, trivial⟩, ?_⟩
  conv => whnf
  refine @bool_rec _ _ _ ?_ ?_ <;> intro hr
  · repeat (conv => whnf); first | refine IndepAnd (by kernel_rfl) ?_ | refine ⟨rfl, ?_⟩ | refine ⟨by decide, ?_⟩ | refine ⟨trivial, ?_⟩ | refine ⟨⟨rfl, trivial⟩, ?_⟩ | refine ⟨Nat.le_of_ble_eq_true rfl, ?_⟩ | refine ⟨⟨_, rfl, rfl⟩, ?_⟩ | refine ⟨⟨rfl, rfl, trivial⟩, ?_⟩ | refine ⟨⟨rfl, rfl, rfl, trivial⟩, ?_⟩ | refine ⟨⟨rfl, rfl, rfl, rfl, trivial⟩, ?_⟩ | refine ⟨⟨rfl, rfl, rfl, rfl, rfl, trivial⟩, ?_⟩
    conv => whnf
    exact LEP.refl _
  have hr : rightT t = true := by revert hr; cases rightT t <;> simp
  have hT : K true 44 [tv t] (.pv (.str t.text)) := by
    have := Text_wt t hf (by omega)
    rwa [txt_right' hr] at this
  repeat (conv => whnf); first | refine IndepAnd (by kernel_rfl) ?_ | refine ⟨rfl, ?_⟩ | refine ⟨by decide, ?_⟩ | refine ⟨trivial, ?_⟩ | refine ⟨⟨rfl, trivial⟩, ?_⟩ | refine ⟨Nat.le_of_ble_eq_true rfl, ?_⟩ | refine ⟨⟨_, rfl, rfl⟩, ?_⟩ | refine ⟨⟨rfl, rfl, trivial⟩, ?_⟩ | refine ⟨⟨rfl, rfl, rfl, trivial⟩, ?_⟩ | refine ⟨⟨rfl, rfl, rfl, rfl, trivial⟩, ?_⟩ | refine ⟨⟨rfl, rfl, rfl, rfl, rfl, trivial⟩, ?_⟩
  conv => whnf
  refine ⟨_, CallVC.pr hT rfl rfl, ?_⟩
  repeat (conv => whnf); first | refine IndepAnd (by kernel_rfl) ?_ | refine ⟨rfl, ?_⟩ | refine ⟨by decide, ?_⟩ | refine ⟨trivial, ?_⟩ | refine ⟨⟨rfl, trivial⟩, ?_⟩ | refine ⟨Nat.le_of_ble_eq_true rfl, ?_⟩ | refine ⟨⟨_, rfl, rfl⟩, ?_⟩ | refine ⟨⟨rfl, rfl, trivial⟩, ?_⟩ | refine ⟨⟨rfl, rfl, rfl, trivial⟩, ?_⟩ | refine ⟨⟨rfl, rfl, rfl, rfl, trivial⟩, ?_⟩ | refine ⟨⟨rfl, rfl, rfl, rfl, rfl, trivial⟩, ?_⟩
  conv => whnf
  refine ⟨_, CallVC.pr (sub_wt t hf (by omega)) rfl rfl, ?_⟩
  repeat (conv => whnf); first | refine IndepAnd (by kernel_rfl) ?_ | refine ⟨rfl, ?_⟩ | refine ⟨by decide, ?_⟩ | refine ⟨trivial, ?_⟩ | refine ⟨⟨rfl, trivial⟩, ?_⟩ | refine ⟨Nat.le_of_ble_eq_true rfl, ?_⟩ | refine ⟨⟨_, rfl, rfl⟩, ?_⟩ | refine ⟨⟨rfl, rfl, trivial⟩, ?_⟩ | refine ⟨⟨rfl, rfl, rfl, trivial⟩, ?_⟩ | refine ⟨⟨rfl, rfl, rfl, rfl, trivial⟩, ?_⟩ | refine ⟨⟨rfl, rfl, rfl, rfl, rfl, trivial⟩, ?_⟩
  conv => whnf
  obtain ⟨L, hL⟩ : ∃ L, L = subT t := ⟨_, rfl⟩
  have hS := sub_in t hr hf
  have hLess := fun i hi h0 => sub_less hr hf (i := i) hi h0
  have hlen := sub_len t
  rw [← hL] at hS hlen
  have hLess : ∀ (i : Nat) (hi : i < L.length), 0 < i → L[i].size < t.size := by subst hL; exact hLess
  have htl := text_wt t hf
  rw [← hL]
  refine ⟨{ i : Nat // i ≤ L.length }, fun i => S.of [(1, .ptr 1 0), (2, .p (.bool false)), (3, .p (.bool true)), (4, sv t.text), (5, lv L), (6, iv (i.1 : Int))] [(1, .var true 25 (tv t))], fun i => L.length - i.1, ⟨0, Nat.zero_le _⟩, ?_, ?_⟩
  · refine Ge.of rfl ?_ ?_
    · repeat (conv => whnf); refine ⟨LE.of rfl, ?_⟩
      trivial
    · repeat (conv => whnf); refine ⟨OLE.of rfl, ?_⟩
      trivial
  rintro ⟨i, hi⟩
  repeat (conv => whnf); first | refine IndepAnd (by kernel_rfl) ?_ | refine ⟨rfl, ?_⟩ | refine ⟨by decide, ?_⟩ | refine ⟨trivial, ?_⟩ | refine ⟨⟨rfl, trivial⟩, ?_⟩ | refine ⟨Nat.le_of_ble_eq_true rfl, ?_⟩ | refine ⟨⟨_, rfl, rfl⟩, ?_⟩ | refine ⟨⟨rfl, rfl, trivial⟩, ?_⟩ | refine ⟨⟨rfl, rfl, rfl, trivial⟩, ?_⟩ | refine ⟨⟨rfl, rfl, rfl, rfl, trivial⟩, ?_⟩ | refine ⟨⟨rfl, rfl, rfl, rfl, rfl, trivial⟩, ?_⟩
  conv => whnf
  refine @bool_rec _ _ _ ?_ ?_ <;> intro h6
  · have hlt : i < L.length := by have := of_decide_eq_true h6; rw [tmvs_length] at this; exact Int.ofNat_lt.1 this
    have hx := hS _ (List.getElem_mem hlt)
    have hxl := infix_len hx.txt
    have hwx := hx.wt
    have hT2 : K true 44 [tv L[i]] (.pv (.str L[i].text)) := by
      have := Text_wt L[i] hx.fit (by omega)
      rwa [txt_right' hx.right] at this
    have hR := right_wt L[i] hx.fit (by omega)
    rw [hx.right] at hR
    have hZ : ∀ u : Tm, Fit u → u.size ≤ 100 → K true 41 [tv u] (.pv (.int .i64 (u.size : Nat))) := fun u fu hu => by
      have := size_ok true u fu
      rwa [wrapN (n := u.size) rfl (by omega)] at this
    have hxs := hx.size
    have hxd := hx.depth
    repeat (conv => whnf); first | refine IndepAnd (by kernel_rfl) ?_ | refine ⟨rfl, ?_⟩ | refine ⟨by decide, ?_⟩ | refine ⟨trivial, ?_⟩ | refine ⟨⟨rfl, trivial⟩, ?_⟩ | refine ⟨Nat.le_of_ble_eq_true rfl, ?_⟩ | refine ⟨⟨_, rfl, rfl⟩, ?_⟩ | refine ⟨⟨rfl, rfl, trivial⟩, ?_⟩ | refine ⟨⟨rfl, rfl, rfl, trivial⟩, ?_⟩ | refine ⟨⟨rfl, rfl, rfl, rfl, trivial⟩, ?_⟩ | refine ⟨⟨rfl, rfl, rfl, rfl, rfl, trivial⟩, ?_⟩
    conv => whnf
    refine ⟨Int.natCast_nonneg _, TV L[i], tmvs_getN hlt, rfl, rfl, ?_⟩
    repeat (conv => whnf); first | refine IndepAnd (by kernel_rfl) ?_ | refine ⟨rfl, ?_⟩ | refine ⟨by decide, ?_⟩ | refine ⟨trivial, ?_⟩ | refine ⟨⟨rfl, trivial⟩, ?_⟩ | refine ⟨Nat.le_of_ble_eq_true rfl, ?_⟩ | refine ⟨⟨_, rfl, rfl⟩, ?_⟩ | refine ⟨⟨rfl, rfl, trivial⟩, ?_⟩ | refine ⟨⟨rfl, rfl, rfl, trivial⟩, ?_⟩ | refine ⟨⟨rfl, rfl, rfl, rfl, trivial⟩, ?_⟩ | refine ⟨⟨rfl, rfl, rfl, rfl, rfl, trivial⟩, ?_⟩
    conv => whnf
    refine ⟨_, CallVC.pr hT2 rfl rfl, ?_⟩
    repeat (conv => whnf); first | refine IndepAnd (by kernel_rfl) ?_ | refine ⟨rfl, ?_⟩ | refine ⟨by decide, ?_⟩ | refine ⟨trivial, ?_⟩ | refine ⟨⟨rfl, trivial⟩, ?_⟩ | refine ⟨Nat.le_of_ble_eq_true rfl, ?_⟩ | refine ⟨⟨_, rfl, rfl⟩, ?_⟩ | refine ⟨⟨rfl, rfl, trivial⟩, ?_⟩ | refine ⟨⟨rfl, rfl, rfl, trivial⟩, ?_⟩ | refine ⟨⟨rfl, rfl, rfl, rfl, trivial⟩, ?_⟩ | refine ⟨⟨rfl, rfl, rfl, rfl, rfl, trivial⟩, ?_⟩
    conv => whnf
    refine ⟨{ x : Nat × Bool // Seek t.text L[i].text x.1 x.2 }, fun x => S.of [(1, .ptr 1 0), (2, .p (.bool false)), (3, .p (.bool true)), (4, sv t.text), (5, lv L), (6, iv (i : Int)), (7, sv L[i].text), (8, .p (.bool x.1.2)), (9, iv (x.1.1 : Int))] [(1, .var true 25 (tv t))], fun x => t.text.length + 1 - x.1.1, ⟨(0, false), ⟨by show 0 + _ ≤ _; omega, fun _ j hj => absurd hj (Nat.not_lt_zero _)⟩⟩, ?_, ?_⟩
    · refine Ge.of rfl ?_ ?_
      · repeat (conv => whnf); refine ⟨LE.of rfl, ?_⟩
        trivial
      · repeat (conv => whnf); refine ⟨OLE.of rfl, ?_⟩
        trivial
    rintro ⟨⟨k, q⟩, hq⟩
    have hq : Seek t.text L[i].text k q := hq
    have hkl := hq.le
    repeat (conv => whnf); first | refine IndepAnd (by kernel_rfl) ?_ | refine ⟨rfl, ?_⟩ | refine ⟨by decide, ?_⟩ | refine ⟨trivial, ?_⟩ | refine ⟨⟨rfl, trivial⟩, ?_⟩ | refine ⟨Nat.le_of_ble_eq_true rfl, ?_⟩ | refine ⟨⟨_, rfl, rfl⟩, ?_⟩ | refine ⟨⟨rfl, rfl, trivial⟩, ?_⟩ | refine ⟨⟨rfl, rfl, rfl, trivial⟩, ?_⟩ | refine ⟨⟨rfl, rfl, rfl, rfl, trivial⟩, ?_⟩ | refine ⟨⟨rfl, rfl, rfl, rfl, rfl, trivial⟩, ?_⟩
    conv => whnf
    refine ⟨_, wrapN (n := k + L[i].text.length) rfl (by omega), ?_⟩
    repeat (conv => whnf); first | refine IndepAnd (by kernel_rfl) ?_ | refine ⟨rfl, ?_⟩ | refine ⟨by decide, ?_⟩ | refine ⟨trivial, ?_⟩ | refine ⟨⟨rfl, trivial⟩, ?_⟩ | refine ⟨Nat.le_of_ble_eq_true rfl, ?_⟩ | refine ⟨⟨_, rfl, rfl⟩, ?_⟩ | refine ⟨⟨rfl, rfl, trivial⟩, ?_⟩ | refine ⟨⟨rfl, rfl, rfl, trivial⟩, ?_⟩ | refine ⟨⟨rfl, rfl, rfl, rfl, trivial⟩, ?_⟩ | refine ⟨⟨rfl, rfl, rfl, rfl, rfl, trivial⟩, ?_⟩
    conv => whnf
    refine @bool_rec _ _ _ ?_ ?_ <;> intro h7
    · have h7 : k + L[i].text.length ≤ t.text.length := Int.ofNat_le.1 (of_decide_eq_true h7)
      repeat (conv => whnf); first | refine IndepAnd (by kernel_rfl) ?_ | refine ⟨rfl, ?_⟩ | refine ⟨by decide, ?_⟩ | refine ⟨trivial, ?_⟩ | refine ⟨⟨rfl, trivial⟩, ?_⟩ | refine ⟨Nat.le_of_ble_eq_true rfl, ?_⟩ | refine ⟨⟨_, rfl, rfl⟩, ?_⟩ | refine ⟨⟨rfl, rfl, trivial⟩, ?_⟩ | refine ⟨⟨rfl, rfl, rfl, trivial⟩, ?_⟩ | refine ⟨⟨rfl, rfl, rfl, rfl, trivial⟩, ?_⟩ | refine ⟨⟨rfl, rfl, rfl, rfl, rfl, trivial⟩, ?_⟩
      conv => whnf
      refine @bool_rec _ _ _ ?_ ?_ <;> intro h8
      · have h8 : q = true := h8
        subst h8
        repeat (conv => whnf); first | refine IndepAnd (by kernel_rfl) ?_ | refine ⟨rfl, ?_⟩ | refine ⟨by decide, ?_⟩ | refine ⟨trivial, ?_⟩ | refine ⟨⟨rfl, trivial⟩, ?_⟩ | refine ⟨Nat.le_of_ble_eq_true rfl, ?_⟩ | refine ⟨⟨_, rfl, rfl⟩, ?_⟩ | refine ⟨⟨rfl, rfl, trivial⟩, ?_⟩ | refine ⟨⟨rfl, rfl, rfl, trivial⟩, ?_⟩ | refine ⟨⟨rfl, rfl, rfl, rfl, trivial⟩, ?_⟩ | refine ⟨⟨rfl, rfl, rfl, rfl, rfl, trivial⟩, ?_⟩
        conv => whnf
        refine ⟨_, wrapN (n := k + 1) rfl (by omega), ?_⟩
        repeat (conv => whnf); first | refine IndepAnd (by kernel_rfl) ?_ | refine ⟨rfl, ?_⟩ | refine ⟨by decide, ?_⟩ | refine ⟨trivial, ?_⟩ | refine ⟨⟨rfl, trivial⟩, ?_⟩ | refine ⟨Nat.le_of_ble_eq_true rfl, ?_⟩ | refine ⟨⟨_, rfl, rfl⟩, ?_⟩ | refine ⟨⟨rfl, rfl, trivial⟩, ?_⟩ | refine ⟨⟨rfl, rfl, rfl, trivial⟩, ?_⟩ | refine ⟨⟨rfl, rfl, rfl, rfl, trivial⟩, ?_⟩ | refine ⟨⟨rfl, rfl, rfl, rfl, rfl, trivial⟩, ?_⟩
        conv => whnf
        refine ⟨⟨(k + 1, true), hq.on h7⟩, ?_, by show t.text.length + 1 - (k + 1) < t.text.length + 1 - k; omega⟩
        refine Ge.of rfl ?_ ?_
        · repeat (conv => whnf); refine ⟨LE.of rfl, ?_⟩
          trivial
        · repeat (conv => whnf); refine ⟨OLE.of rfl, ?_⟩
          trivial
      · have h8 : q = false := h8
        subst h8
        repeat (conv => whnf); first | refine IndepAnd (by kernel_rfl) ?_ | refine ⟨rfl, ?_⟩ | refine ⟨by decide, ?_⟩ | refine ⟨trivial, ?_⟩ | refine ⟨⟨rfl, trivial⟩, ?_⟩ | refine ⟨Nat.le_of_ble_eq_true rfl, ?_⟩ | refine ⟨⟨_, rfl, rfl⟩, ?_⟩ | refine ⟨⟨rfl, rfl, trivial⟩, ?_⟩ | refine ⟨⟨rfl, rfl, rfl, trivial⟩, ?_⟩ | refine ⟨⟨rfl, rfl, rfl, rfl, trivial⟩, ?_⟩ | refine ⟨⟨rfl, rfl, rfl, rfl, rfl, trivial⟩, ?_⟩
        conv => whnf
        refine ⟨_, wrapN (n := k + L[i].text.length) rfl (by omega), ?_⟩
        repeat (conv => whnf); first | refine IndepAnd (by kernel_rfl) ?_ | refine ⟨rfl, ?_⟩ | refine ⟨by decide, ?_⟩ | refine ⟨trivial, ?_⟩ | refine ⟨⟨rfl, trivial⟩, ?_⟩ | refine ⟨Nat.le_of_ble_eq_true rfl, ?_⟩ | refine ⟨⟨_, rfl, rfl⟩, ?_⟩ | refine ⟨⟨rfl, rfl, trivial⟩, ?_⟩ | refine ⟨⟨rfl, rfl, rfl, trivial⟩, ?_⟩ | refine ⟨⟨rfl, rfl, rfl, rfl, trivial⟩, ?_⟩ | refine ⟨⟨rfl, rfl, rfl, rfl, rfl, trivial⟩, ?_⟩
        conv => whnf
        refine ⟨Int.natCast_nonneg _, ?_⟩
        repeat (conv => whnf); first | refine IndepAnd (by kernel_rfl) ?_ | refine ⟨rfl, ?_⟩ | refine ⟨by decide, ?_⟩ | refine ⟨trivial, ?_⟩ | refine ⟨⟨rfl, trivial⟩, ?_⟩ | refine ⟨Nat.le_of_ble_eq_true rfl, ?_⟩ | refine ⟨⟨_, rfl, rfl⟩, ?_⟩ | refine ⟨⟨rfl, rfl, trivial⟩, ?_⟩ | refine ⟨⟨rfl, rfl, rfl, trivial⟩, ?_⟩ | refine ⟨⟨rfl, rfl, rfl, rfl, trivial⟩, ?_⟩ | refine ⟨⟨rfl, rfl, rfl, rfl, rfl, trivial⟩, ?_⟩
        conv => whnf
        refine ⟨Int.natCast_nonneg _, ?_⟩
        repeat (conv => whnf); first | refine IndepAnd (by kernel_rfl) ?_ | refine ⟨rfl, ?_⟩ | refine ⟨by decide, ?_⟩ | refine ⟨trivial, ?_⟩ | refine ⟨⟨rfl, trivial⟩, ?_⟩ | refine ⟨Nat.le_of_ble_eq_true rfl, ?_⟩ | refine ⟨⟨_, rfl, rfl⟩, ?_⟩ | refine ⟨⟨rfl, rfl, trivial⟩, ?_⟩ | refine ⟨⟨rfl, rfl, rfl, trivial⟩, ?_⟩ | refine ⟨⟨rfl, rfl, rfl, rfl, trivial⟩, ?_⟩ | refine ⟨⟨rfl, rfl, rfl, rfl, rfl, trivial⟩, ?_⟩
        conv => whnf
        refine ⟨Nat.le_add_right k L[i].text.length, h7, ?_⟩
        repeat (conv => whnf); first | refine IndepAnd (by kernel_rfl) ?_ | refine ⟨rfl, ?_⟩ | refine ⟨by decide, ?_⟩ | refine ⟨trivial, ?_⟩ | refine ⟨⟨rfl, trivial⟩, ?_⟩ | refine ⟨Nat.le_of_ble_eq_true rfl, ?_⟩ | refine ⟨⟨_, rfl, rfl⟩, ?_⟩ | refine ⟨⟨rfl, rfl, trivial⟩, ?_⟩ | refine ⟨⟨rfl, rfl, rfl, trivial⟩, ?_⟩ | refine ⟨⟨rfl, rfl, rfl, rfl, trivial⟩, ?_⟩ | refine ⟨⟨rfl, rfl, rfl, rfl, rfl, trivial⟩, ?_⟩
        conv => whnf
        refine ⟨_, wrapN (n := k + 1) rfl (by omega), ?_⟩
        repeat (conv => whnf); first | refine IndepAnd (by kernel_rfl) ?_ | refine ⟨rfl, ?_⟩ | refine ⟨by decide, ?_⟩ | refine ⟨trivial, ?_⟩ | refine ⟨⟨rfl, trivial⟩, ?_⟩ | refine ⟨Nat.le_of_ble_eq_true rfl, ?_⟩ | refine ⟨⟨_, rfl, rfl⟩, ?_⟩ | refine ⟨⟨rfl, rfl, trivial⟩, ?_⟩ | refine ⟨⟨rfl, rfl, rfl, trivial⟩, ?_⟩ | refine ⟨⟨rfl, rfl, rfl, rfl, trivial⟩, ?_⟩ | refine ⟨⟨rfl, rfl, rfl, rfl, rfl, trivial⟩, ?_⟩
        conv => whnf
        refine ⟨⟨(k + 1, decide (cut t.text k (k + L[i].text.length) = L[i].text)), hq.step h7⟩, ?_, by show t.text.length + 1 - (k + 1) < t.text.length + 1 - k; omega⟩
        refine Ge.of rfl ?_ ?_
        · repeat (conv => whnf); refine ⟨LE.of rfl, ?_⟩
          trivial
        · repeat (conv => whnf); refine ⟨OLE.of rfl, ?_⟩
          trivial
    · have h7 : ¬ k + L[i].text.length ≤ t.text.length := fun h => of_decide_eq_false h7 (Int.ofNat_le.2 h)
      have hqt := hq.found hx.txt h7
      subst hqt
      repeat (conv => whnf); first | refine IndepAnd (by kernel_rfl) ?_ | refine ⟨rfl, ?_⟩ | refine ⟨by decide, ?_⟩ | refine ⟨trivial, ?_⟩ | refine ⟨⟨rfl, trivial⟩, ?_⟩ | refine ⟨Nat.le_of_ble_eq_true rfl, ?_⟩ | refine ⟨⟨_, rfl, rfl⟩, ?_⟩ | refine ⟨⟨rfl, rfl, trivial⟩, ?_⟩ | refine ⟨⟨rfl, rfl, rfl, trivial⟩, ?_⟩ | refine ⟨⟨rfl, rfl, rfl, rfl, trivial⟩, ?_⟩ | refine ⟨⟨rfl, rfl, rfl, rfl, rfl, trivial⟩, ?_⟩
      conv => whnf
      refine ⟨Int.natCast_nonneg _, TV L[i], tmvs_getN hlt, rfl, rfl, ?_⟩
      repeat (conv => whnf); first | refine IndepAnd (by kernel_rfl) ?_ | refine ⟨rfl, ?_⟩ | refine ⟨by decide, ?_⟩ | refine ⟨trivial, ?_⟩ | refine ⟨⟨rfl, trivial⟩, ?_⟩ | refine ⟨Nat.le_of_ble_eq_true rfl, ?_⟩ | refine ⟨⟨_, rfl, rfl⟩, ?_⟩ | refine ⟨⟨rfl, rfl, trivial⟩, ?_⟩ | refine ⟨⟨rfl, rfl, rfl, trivial⟩, ?_⟩ | refine ⟨⟨rfl, rfl, rfl, rfl, trivial⟩, ?_⟩ | refine ⟨⟨rfl, rfl, rfl, rfl, rfl, trivial⟩, ?_⟩
      conv => whnf
      refine ⟨_, CallVC.pr hR rfl rfl, ?_⟩
      repeat (conv => whnf); first | refine IndepAnd (by kernel_rfl) ?_ | refine ⟨rfl, ?_⟩ | refine ⟨by decide, ?_⟩ | refine ⟨trivial, ?_⟩ | refine ⟨⟨rfl, trivial⟩, ?_⟩ | refine ⟨Nat.le_of_ble_eq_true rfl, ?_⟩ | refine ⟨⟨_, rfl, rfl⟩, ?_⟩ | refine ⟨⟨rfl, rfl, trivial⟩, ?_⟩ | refine ⟨⟨rfl, rfl, rfl, trivial⟩, ?_⟩ | refine ⟨⟨rfl, rfl, rfl, rfl, trivial⟩, ?_⟩ | refine ⟨⟨rfl, rfl, rfl, rfl, rfl, trivial⟩, ?_⟩
      conv => whnf
      refine ⟨Int.natCast_nonneg _, TV L[i], tmvs_getN hlt, rfl, rfl, ?_⟩
      repeat (conv => whnf); first | refine IndepAnd (by kernel_rfl) ?_ | refine ⟨rfl, ?_⟩ | refine ⟨by decide, ?_⟩ | refine ⟨trivial, ?_⟩ | refine ⟨⟨rfl, trivial⟩, ?_⟩ | refine ⟨Nat.le_of_ble_eq_true rfl, ?_⟩ | refine ⟨⟨_, rfl, rfl⟩, ?_⟩ | refine ⟨⟨rfl, rfl, trivial⟩, ?_⟩ | refine ⟨⟨rfl, rfl, rfl, trivial⟩, ?_⟩ | refine ⟨⟨rfl, rfl, rfl, rfl, trivial⟩, ?_⟩ | refine ⟨⟨rfl, rfl, rfl, rfl, rfl, trivial⟩, ?_⟩
      conv => whnf
      refine ⟨_, CallVC.pr (Depth_ok true L[i] hx.fit) rfl rfl, ?_⟩
      repeat (conv => whnf); first | refine IndepAnd (by kernel_rfl) ?_ | refine ⟨rfl, ?_⟩ | refine ⟨by decide, ?_⟩ | refine ⟨trivial, ?_⟩ | refine ⟨⟨rfl, trivial⟩, ?_⟩ | refine ⟨Nat.le_of_ble_eq_true rfl, ?_⟩ | refine ⟨⟨_, rfl, rfl⟩, ?_⟩ | refine ⟨⟨rfl, rfl, trivial⟩, ?_⟩ | refine ⟨⟨rfl, rfl, rfl, trivial⟩, ?_⟩ | refine ⟨⟨rfl, rfl, rfl, rfl, trivial⟩, ?_⟩ | refine ⟨⟨rfl, rfl, rfl, rfl, rfl, trivial⟩, ?_⟩
      conv => whnf
      refine ⟨_, CallVC.pr (Depth_ok true t hf) rfl rfl, ?_⟩
      repeat (conv => whnf); first | refine IndepAnd (by kernel_rfl) ?_ | refine ⟨rfl, ?_⟩ | refine ⟨by decide, ?_⟩ | refine ⟨trivial, ?_⟩ | refine ⟨⟨rfl, trivial⟩, ?_⟩ | refine ⟨Nat.le_of_ble_eq_true rfl, ?_⟩ | refine ⟨⟨_, rfl, rfl⟩, ?_⟩ | refine ⟨⟨rfl, rfl, trivial⟩, ?_⟩ | refine ⟨⟨rfl, rfl, rfl, trivial⟩, ?_⟩ | refine ⟨⟨rfl, rfl, rfl, rfl, trivial⟩, ?_⟩ | refine ⟨⟨rfl, rfl, rfl, rfl, rfl, trivial⟩, ?_⟩
      conv => whnf
      refine @bool_rec _ _ _ ?_ ?_ <;> intro h9
      · exfalso
        have h9 := of_decide_eq_true h9
        simp only [depT] at h9
        omega
      repeat (conv => whnf); first | refine IndepAnd (by kernel_rfl) ?_ | refine ⟨rfl, ?_⟩ | refine ⟨by decide, ?_⟩ | refine ⟨trivial, ?_⟩ | refine ⟨⟨rfl, trivial⟩, ?_⟩ | refine ⟨Nat.le_of_ble_eq_true rfl, ?_⟩ | refine ⟨⟨_, rfl, rfl⟩, ?_⟩ | refine ⟨⟨rfl, rfl, trivial⟩, ?_⟩ | refine ⟨⟨rfl, rfl, rfl, trivial⟩, ?_⟩ | refine ⟨⟨rfl, rfl, rfl, rfl, trivial⟩, ?_⟩ | refine ⟨⟨rfl, rfl, rfl, rfl, rfl, trivial⟩, ?_⟩
      conv => whnf
      refine @bool_rec _ _ _ ?_ ?_ <;> intro h10
      · have h0 : 0 < i := by have := of_decide_eq_true h10; exact Int.ofNat_lt.1 this
        have hll := hLess i hlt h0
        repeat (conv => whnf); first | refine IndepAnd (by kernel_rfl) ?_ | refine ⟨rfl, ?_⟩ | refine ⟨by decide, ?_⟩ | refine ⟨trivial, ?_⟩ | refine ⟨⟨rfl, trivial⟩, ?_⟩ | refine ⟨Nat.le_of_ble_eq_true rfl, ?_⟩ | refine ⟨⟨_, rfl, rfl⟩, ?_⟩ | refine ⟨⟨rfl, rfl, trivial⟩, ?_⟩ | refine ⟨⟨rfl, rfl, rfl, trivial⟩, ?_⟩ | refine ⟨⟨rfl, rfl, rfl, rfl, trivial⟩, ?_⟩ | refine ⟨⟨rfl, rfl, rfl, rfl, rfl, trivial⟩, ?_⟩
        conv => whnf
        refine ⟨Int.natCast_nonneg _, TV L[i], tmvs_getN hlt, rfl, rfl, ?_⟩
        repeat (conv => whnf); first | refine IndepAnd (by kernel_rfl) ?_ | refine ⟨rfl, ?_⟩ | refine ⟨by decide, ?_⟩ | refine ⟨trivial, ?_⟩ | refine ⟨⟨rfl, trivial⟩, ?_⟩ | refine ⟨Nat.le_of_ble_eq_true rfl, ?_⟩ | refine ⟨⟨_, rfl, rfl⟩, ?_⟩ | refine ⟨⟨rfl, rfl, trivial⟩, ?_⟩ | refine ⟨⟨rfl, rfl, rfl, trivial⟩, ?_⟩ | refine ⟨⟨rfl, rfl, rfl, rfl, trivial⟩, ?_⟩ | refine ⟨⟨rfl, rfl, rfl, rfl, rfl, trivial⟩, ?_⟩
        conv => whnf
        refine ⟨_, CallVC.pr (hZ L[i] hx.fit (by omega)) rfl rfl, ?_⟩
        repeat (conv => whnf); first | refine IndepAnd (by kernel_rfl) ?_ | refine ⟨rfl, ?_⟩ | refine ⟨by decide, ?_⟩ | refine ⟨trivial, ?_⟩ | refine ⟨⟨rfl, trivial⟩, ?_⟩ | refine ⟨Nat.le_of_ble_eq_true rfl, ?_⟩ | refine ⟨⟨_, rfl, rfl⟩, ?_⟩ | refine ⟨⟨rfl, rfl, trivial⟩, ?_⟩ | refine ⟨⟨rfl, rfl, rfl, trivial⟩, ?_⟩ | refine ⟨⟨rfl, rfl, rfl, rfl, trivial⟩, ?_⟩ | refine ⟨⟨rfl, rfl, rfl, rfl, rfl, trivial⟩, ?_⟩
        conv => whnf
        refine ⟨_, CallVC.pr (hZ t hf hsz) rfl rfl, ?_⟩
        repeat (conv => whnf); first | refine IndepAnd (by kernel_rfl) ?_ | refine ⟨rfl, ?_⟩ | refine ⟨by decide, ?_⟩ | refine ⟨trivial, ?_⟩ | refine ⟨⟨rfl, trivial⟩, ?_⟩ | refine ⟨Nat.le_of_ble_eq_true rfl, ?_⟩ | refine ⟨⟨_, rfl, rfl⟩, ?_⟩ | refine ⟨⟨rfl, rfl, trivial⟩, ?_⟩ | refine ⟨⟨rfl, rfl, rfl, trivial⟩, ?_⟩ | refine ⟨⟨rfl, rfl, rfl, rfl, trivial⟩, ?_⟩ | refine ⟨⟨rfl, rfl, rfl, rfl, rfl, trivial⟩, ?_⟩
        conv => whnf
        refine @bool_rec _ _ _ ?_ ?_ <;> intro h11
        · exfalso
          have h11 := of_decide_eq_true h11
          omega
        repeat (conv => whnf); first | refine IndepAnd (by kernel_rfl) ?_ | refine ⟨rfl, ?_⟩ | refine ⟨by decide, ?_⟩ | refine ⟨trivial, ?_⟩ | refine ⟨⟨rfl, trivial⟩, ?_⟩ | refine ⟨Nat.le_of_ble_eq_true rfl, ?_⟩ | refine ⟨⟨_, rfl, rfl⟩, ?_⟩ | refine ⟨⟨rfl, rfl, trivial⟩, ?_⟩ | refine ⟨⟨rfl, rfl, rfl, trivial⟩, ?_⟩ | refine ⟨⟨rfl, rfl, rfl, rfl, trivial⟩, ?_⟩ | refine ⟨⟨rfl, rfl, rfl, rfl, rfl, trivial⟩, ?_⟩
        conv => whnf
        refine ⟨_, wrapN (n := i + 1) rfl (by omega), ?_⟩
        repeat (conv => whnf); first | refine IndepAnd (by kernel_rfl) ?_ | refine ⟨rfl, ?_⟩ | refine ⟨by decide, ?_⟩ | refine ⟨trivial, ?_⟩ | refine ⟨⟨rfl, trivial⟩, ?_⟩ | refine ⟨Nat.le_of_ble_eq_true rfl, ?_⟩ | refine ⟨⟨_, rfl, rfl⟩, ?_⟩ | refine ⟨⟨rfl, rfl, trivial⟩, ?_⟩ | refine ⟨⟨rfl, rfl, rfl, trivial⟩, ?_⟩ | refine ⟨⟨rfl, rfl, rfl, rfl, trivial⟩, ?_⟩ | refine ⟨⟨rfl, rfl, rfl, rfl, rfl, trivial⟩, ?_⟩
        conv => whnf
        refine ⟨⟨i + 1, by omega⟩, ?_, by show L.length - (i + 1) < L.length - i; omega⟩
        refine Ge.of rfl ?_ ?_
        · repeat (conv => whnf); refine ⟨LE.of rfl, ?_⟩
          trivial
        · repeat (conv => whnf); refine ⟨OLE.of rfl, ?_⟩
          trivial
      · repeat (conv => whnf); first | refine IndepAnd (by kernel_rfl) ?_ | refine ⟨rfl, ?_⟩ | refine ⟨by decide, ?_⟩ | refine ⟨trivial, ?_⟩ | refine ⟨⟨rfl, trivial⟩, ?_⟩ | refine ⟨Nat.le_of_ble_eq_true rfl, ?_⟩ | refine ⟨⟨_, rfl, rfl⟩, ?_⟩ | refine ⟨⟨rfl, rfl, trivial⟩, ?_⟩ | refine ⟨⟨rfl, rfl, rfl, trivial⟩, ?_⟩ | refine ⟨⟨rfl, rfl, rfl, rfl, trivial⟩, ?_⟩ | refine ⟨⟨rfl, rfl, rfl, rfl, rfl, trivial⟩, ?_⟩
        conv => whnf
        refine ⟨_, wrapN (n := i + 1) rfl (by omega), ?_⟩
        repeat (conv => whnf); first | refine IndepAnd (by kernel_rfl) ?_ | refine ⟨rfl, ?_⟩ | refine ⟨by decide, ?_⟩ | refine ⟨trivial, ?_⟩ | refine ⟨⟨rfl, trivial⟩, ?_⟩ | refine ⟨Nat.le_of_ble_eq_true rfl, ?_⟩ | refine ⟨⟨_, rfl, rfl⟩, ?_⟩ | refine ⟨⟨rfl, rfl, trivial⟩, ?_⟩ | refine ⟨⟨rfl, rfl, rfl, trivial⟩, ?_⟩ | refine ⟨⟨rfl, rfl, rfl, rfl, trivial⟩, ?_⟩ | refine ⟨⟨rfl, rfl, rfl, rfl, rfl, trivial⟩, ?_⟩
        conv => whnf
        refine ⟨⟨i + 1, by omega⟩, ?_, by show L.length - (i + 1) < L.length - i; omega⟩
        refine Ge.of rfl ?_ ?_
        · repeat (conv => whnf); refine ⟨LE.of rfl, ?_⟩
          trivial
        · repeat (conv => whnf); refine ⟨OLE.of rfl, ?_⟩
          trivial
  · repeat (conv => whnf); first | refine IndepAnd (by kernel_rfl) ?_ | refine ⟨rfl, ?_⟩ | refine ⟨by decide, ?_⟩ | refine ⟨trivial, ?_⟩ | refine ⟨⟨rfl, trivial⟩, ?_⟩ | refine ⟨Nat.le_of_ble_eq_true rfl, ?_⟩ | refine ⟨⟨_, rfl, rfl⟩, ?_⟩ | refine ⟨⟨rfl, rfl, trivial⟩, ?_⟩ | refine ⟨⟨rfl, rfl, rfl, trivial⟩, ?_⟩ | refine ⟨⟨rfl, rfl, rfl, rfl, trivial⟩, ?_⟩ | refine ⟨⟨rfl, rfl, rfl, rfl, rfl, trivial⟩, ?_⟩
    conv => whnf
    exact LEP.refl _
end Go.Sl
