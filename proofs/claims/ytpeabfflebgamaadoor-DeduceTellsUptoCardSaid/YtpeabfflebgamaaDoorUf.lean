/- Contracts of the document's answer for layer 8: Made. -/
/- short -/
import Derived.Test.YtpeabfflebgamaaDoorUe
set_option linter.unusedVariables false
set_option linter.unusedSimpArgs false
namespace Go.Sl
open Go Go.Vc Go.Proofs Go.RowKit

theorem todo_fit {g : Tm} (hf : Fit g) {u : Tm} (h : u ∈ todoR g) : Fit u := by
  have hp : ∀ {t x : Tm}, t ∈ inT g → x ∈ t.kids → Fit (pubT x) := fun {t x} ht hx => .one 8 (by simp) (((hf.inT t ht)).kid hx)
  rcases todo_mem.1 h with h | ⟨t, ht, _, x, y, e, rfl | rfl⟩
  · exact hf.inT u h
  · exact hp ht (by rw [e]; simp)
  · exact hp ht (by rw [e]; simp)
theorem shPs_fit {g : Tm} (hf : Fit g) (i : Nat) : ∀ u ∈ ((subR g []).take i).foldl shP (subR g []), Fit u := fun u hu => by
  refine todo_fit hf (g := g) ?_
  rw [shPs_mem] at hu
  unfold todoR
  rw [shPs_mem]
  rcases hu with hu | ⟨t, ht, h⟩
  · exact .inl hu
  · exact .inr ⟨t, List.mem_of_mem_take ht, h⟩
theorem shP_nine {acc : List Tm} {t x y : Tm} (k : t.kind = 9) (e : t.kids = [x, y]) : shP acc t = withT (withT acc (pubT x)) (pubT y) := by
  unfold shP; rw [if_pos k, e]
theorem shP_else {acc : List Tm} {t : Tm} (k : ¬ t.kind = 9) : shP acc t = acc := by
  unfold shP; rw [if_neg k]
/-- How often a list was gone through. -/
def nI (l todo : List Tm) : Nat → Int
  | 0 => -1
  | j + 1 => (mdI l todo j).length
/-- The number of a round, and that it was not the last one. -/
abbrev RdM (l todo : List Tm) : Type := { j : Nat // ∀ i, i + 1 < j → (mdI l todo i).length < (mdI l todo (i + 1)).length }
theorem RdM.ge {l todo : List Tm} (j : RdM l todo) : j.1 ≤ (mdI l todo (j.1 - 1)).length + 1 := by
  obtain ⟨j, h⟩ := j
  have key : ∀ i, i < j → i ≤ (mdI l todo i).length := by
    intro i
    induction i with
    | zero => intro _; exact Nat.zero_le _
    | succ i ih => intro hi; have := ih (by omega); have := h i (by omega); omega
  show j ≤ (mdI l todo (j - 1)).length + 1
  cases j with
  | zero => omega
  | succ j => have := key j (by omega); show j + 1 ≤ (mdI l todo j).length + 1; omega
theorem RdM.le {l todo : List Tm} (j : RdM l todo) : j.1 ≤ todo.length + 1 := by
  have := j.ge
  have := mdI_le l todo (j.1 - 1)
  omega
set_option maxHeartbeats 1000000 in
theorem made8_ok (b : Bool) (list : List Tm) (goal : Tm) (h : Okl list) (hf : Fit goal) (hw : wt goal ≤ 1000000000) (hs : goal.size ≤ 10000) : K b 13 [lv list, tv goal] (.pv (.bool (mdT list goal))) := by
  obtain ⟨g, eg⟩ : ∃ g, g = canT goal := ⟨_, rfl⟩
  obtain ⟨l, el⟩ : ∃ l, l = frR list := ⟨_, rfl⟩
  have hF := frame8_ok b list h
  have hC := canon07_ok b goal hf hw
  have hl := h.fr
  have gf := can_fit goal hf
  have gw : wt (canT goal) ≤ 1000000000 := by rw [can_wt]; exact hw
  have gs : (canT goal).size ≤ 10000 := by rw [can_size]; exact hs
  rw [← el] at hF hl
  rw [← eg] at hC gf gw gs
  have hR := Right07_ok b g gf gw
  refine PC_of_vc (cx_ok b) (mixed b) {} Tryd.func13 (by kernel_rfl) rfl rfl (by kernel_rfl) ?_
  repeat (conv => whnf); first | refine IndepAnd (by kernel_rfl) ?_ | refine ⟨rfl, ?_⟩ | refine ⟨by decide, ?_⟩ | refine ⟨trivial, ?_⟩ | refine ⟨⟨_, rfl, rfl⟩, ?_⟩ | refine ⟨⟨rfl, trivial⟩, ?_⟩ | refine ⟨⟨rfl, rfl, trivial⟩, ?_⟩
  conv => whnf
  refine ⟨_, CallVC.pr hF rfl rfl, ?_⟩
  repeat (conv => whnf); first | refine IndepAnd (by kernel_rfl) ?_ | refine ⟨rfl, ?_⟩ | refine ⟨by decide, ?_⟩ | refine ⟨trivial, ?_⟩ | refine ⟨⟨_, rfl, rfl⟩, ?_⟩ | refine ⟨⟨rfl, trivial⟩, ?_⟩ | refine ⟨⟨rfl, rfl, trivial⟩, ?_⟩
  conv => whnf
  refine ⟨_, CallVC.pr hC rfl rfl, ?_⟩
  repeat (conv => whnf); first | refine IndepAnd (by kernel_rfl) ?_ | refine ⟨rfl, ?_⟩ | refine ⟨by decide, ?_⟩ | refine ⟨trivial, ?_⟩ | refine ⟨⟨_, rfl, rfl⟩, ?_⟩ | refine ⟨⟨rfl, trivial⟩, ?_⟩ | refine ⟨⟨rfl, rfl, trivial⟩, ?_⟩
  conv => whnf
  refine ⟨_, CallVC.pr hR rfl rfl, ?_⟩
  repeat (conv => whnf); first | refine IndepAnd (by kernel_rfl) ?_ | refine ⟨rfl, ?_⟩ | refine ⟨by decide, ?_⟩ | refine ⟨trivial, ?_⟩ | refine ⟨⟨_, rfl, rfl⟩, ?_⟩ | refine ⟨⟨rfl, trivial⟩, ?_⟩ | refine ⟨⟨rfl, rfl, trivial⟩, ?_⟩
  conv => whnf
  refine @bool_rec _ _ _ ?_ ?_ <;> intro h1
  · have h1 : rightT g = false := by have h1 : (!rightT g) = true := h1; simpa using h1
    have e := md_no (list := list) (g := goal) (by rw [← eg]; exact h1)
    rw [e]
    repeat (conv => whnf); first | refine IndepAnd (by kernel_rfl) ?_ | refine ⟨rfl, ?_⟩ | refine ⟨by decide, ?_⟩ | refine ⟨trivial, ?_⟩ | refine ⟨⟨_, rfl, rfl⟩, ?_⟩ | refine ⟨⟨rfl, trivial⟩, ?_⟩ | refine ⟨⟨rfl, rfl, trivial⟩, ?_⟩
    conv => whnf
    exact LEP.refl _
  · have h1 : rightT g = true := by have h1 : (!rightT g) = false := h1; simpa using h1
    have hg : gdT g := gd_right h1
    obtain ⟨sub, esub⟩ : ∃ sub, sub = subR g [] := ⟨_, rfl⟩
    obtain ⟨todo, etodo⟩ : ∃ todo, todo = todoR g := ⟨_, rfl⟩
    have hS := subs_ok b g gf (by omega)
    rw [← esub] at hS
    have hsl : sub.length ≤ 10000 := by have := subR0_len g; rw [esub]; omega
    have htl : todo.length ≤ 30000 := by have := todo_len g; rw [etodo]; omega
    have sgd : ∀ u ∈ sub, gdT u := fun u hu => by rw [esub, mem_subR] at hu; exact in_gd hg u (hu.elim (fun h => by cases h) id)
    have sft : ∀ u ∈ sub, Fit u := fun u hu => by rw [esub, mem_subR] at hu; exact gf.inT u (hu.elim (fun h => by cases h) id)
    have tgd : ∀ u ∈ todo, gdT u := fun u hu => todo_gd hg (by rw [← etodo]; exact hu)
    have tft : ∀ u ∈ todo, Fit u := fun u hu => todo_fit gf (by rw [← etodo]; exact hu)
    repeat (conv => whnf); first | refine IndepAnd (by kernel_rfl) ?_ | refine ⟨rfl, ?_⟩ | refine ⟨by decide, ?_⟩ | refine ⟨trivial, ?_⟩ | refine ⟨⟨_, rfl, rfl⟩, ?_⟩ | refine ⟨⟨rfl, trivial⟩, ?_⟩ | refine ⟨⟨rfl, rfl, trivial⟩, ?_⟩
    conv => whnf
    refine ⟨_, CallVC.pr hS rfl rfl, ?_⟩
    repeat (conv => whnf); first | refine IndepAnd (by kernel_rfl) ?_ | refine ⟨rfl, ?_⟩ | refine ⟨by decide, ?_⟩ | refine ⟨trivial, ?_⟩ | refine ⟨⟨_, rfl, rfl⟩, ?_⟩ | refine ⟨⟨rfl, trivial⟩, ?_⟩ | refine ⟨⟨rfl, rfl, trivial⟩, ?_⟩
    conv => whnf
    refine ⟨{ i : Nat // i ≤ sub.length }, fun i => S.of [(3, .ptr 3 0), (4, .p (.bool false)), (5, lv l), (7, lv sub), (8, lv ((sub.take i.1).foldl shP sub)), (9, iv i.1)] [(3, .var true 24 (tv g))], fun i => sub.length - i.1, ⟨0, Nat.zero_le _⟩, ?_, ?_⟩
    · refine Ge.of rfl ?_ ?_
      · repeat (conv => whnf); refine ⟨LE.of rfl, ?_⟩
        trivial
      · repeat (conv => whnf); refine ⟨OLE.of rfl, ?_⟩
        trivial
    rintro ⟨i, hi⟩
    repeat (conv => whnf); first | refine IndepAnd (by kernel_rfl) ?_ | refine ⟨rfl, ?_⟩ | refine ⟨by decide, ?_⟩ | refine ⟨trivial, ?_⟩ | refine ⟨⟨_, rfl, rfl⟩, ?_⟩ | refine ⟨⟨rfl, trivial⟩, ?_⟩ | refine ⟨⟨rfl, rfl, trivial⟩, ?_⟩
    conv => whnf
    refine @bool_rec _ _ _ ?_ ?_ <;> intro h2
    · have hlt : i < sub.length := by have := of_decide_eq_true h2; rw [tmvs_length] at this; exact Int.ofNat_lt.1 this
      have hm := List.getElem_mem hlt
      have et := shPs_take sub sub hlt
      have hfl := shPs_len (sub.take i) sub
      have htk : (sub.take i).length ≤ sub.length := by rw [List.length_take]; omega
      have hft : ∀ u ∈ (sub.take i).foldl shP sub, Fit u := by rw [esub]; exact shPs_fit gf i
      obtain ⟨acc, eacc⟩ : ∃ acc, acc = (sub.take i).foldl shP sub := ⟨_, rfl⟩
      rw [← eacc] at et hfl hft
      show vc _ _ _ _ _
      rw [← eacc]
      repeat (conv => whnf); first | refine IndepAnd (by kernel_rfl) ?_ | refine ⟨rfl, ?_⟩ | refine ⟨by decide, ?_⟩ | refine ⟨trivial, ?_⟩ | refine ⟨⟨_, rfl, rfl⟩, ?_⟩ | refine ⟨⟨rfl, trivial⟩, ?_⟩ | refine ⟨⟨rfl, rfl, trivial⟩, ?_⟩
      conv => whnf
      refine ⟨Int.natCast_nonneg _, TV sub[i], tmvs_getN hlt, rfl, rfl, ?_⟩
      repeat (conv => whnf); first | refine IndepAnd (by kernel_rfl) ?_ | refine ⟨rfl, ?_⟩ | refine ⟨by decide, ?_⟩ | refine ⟨trivial, ?_⟩ | refine ⟨⟨_, rfl, rfl⟩, ?_⟩ | refine ⟨⟨rfl, trivial⟩, ?_⟩ | refine ⟨⟨rfl, rfl, trivial⟩, ?_⟩
      conv => whnf
      refine @bool_rec _ _ _ ?_ ?_ <;> intro h3
      · have h3 : sub[i].kind = 9 := of_decide_eq_true h3
        obtain ⟨x, y, e⟩ := kids2 (sgd _ hm) (.inr (.inr (.inl h3)))
        have hx : x ∈ sub[i].kids := by rw [e]; simp
        have hy : y ∈ sub[i].kids := by rw [e]; simp
        have fi : Fit sub[i] := sft _ hm
        have fx := fi.kid hx
        have fy := fi.kid hy
        have hwl := with_len acc (pubT x)
        rw [shP_nine h3 e] at et
        have ek : tmvs sub[i].kids = [TV x, TV y] := by rw [e]; exact (tmvs2 x y).symm
        repeat (conv => whnf); first | refine IndepAnd (by kernel_rfl) ?_ | refine ⟨rfl, ?_⟩ | refine ⟨by decide, ?_⟩ | refine ⟨trivial, ?_⟩ | refine ⟨⟨_, rfl, rfl⟩, ?_⟩ | refine ⟨⟨rfl, trivial⟩, ?_⟩ | refine ⟨⟨rfl, rfl, trivial⟩, ?_⟩
        conv => whnf
        refine ⟨Int.natCast_nonneg _, TV sub[i], tmvs_getN hlt, rfl, rfl, ?_⟩
        repeat (conv => whnf); first | refine IndepAnd (by kernel_rfl) ?_ | refine ⟨rfl, ?_⟩ | refine ⟨by decide, ?_⟩ | refine ⟨trivial, ?_⟩ | refine ⟨⟨_, rfl, rfl⟩, ?_⟩ | refine ⟨⟨rfl, trivial⟩, ?_⟩ | refine ⟨⟨rfl, rfl, trivial⟩, ?_⟩
        conv => whnf
        refine ⟨TV x, by show (tmvs sub[i].kids)[0]? = _; rw [ek]; rfl, rfl, rfl, ?_⟩
        repeat (conv => whnf); first | refine IndepAnd (by kernel_rfl) ?_ | refine ⟨rfl, ?_⟩ | refine ⟨by decide, ?_⟩ | refine ⟨trivial, ?_⟩ | refine ⟨⟨_, rfl, rfl⟩, ?_⟩ | refine ⟨⟨rfl, trivial⟩, ?_⟩ | refine ⟨⟨rfl, rfl, trivial⟩, ?_⟩
        conv => whnf
        refine ⟨_, CallVC.pr (pub8_ok b x) rfl rfl, ?_⟩
        repeat (conv => whnf); first | refine IndepAnd (by kernel_rfl) ?_ | refine ⟨rfl, ?_⟩ | refine ⟨by decide, ?_⟩ | refine ⟨trivial, ?_⟩ | refine ⟨⟨_, rfl, rfl⟩, ?_⟩ | refine ⟨⟨rfl, trivial⟩, ?_⟩ | refine ⟨⟨rfl, rfl, trivial⟩, ?_⟩
        conv => whnf
        refine ⟨_, CallVC.pr (with_ok b acc (pubT x) (by omega) hft) rfl rfl, ?_⟩
        repeat (conv => whnf); first | refine IndepAnd (by kernel_rfl) ?_ | refine ⟨rfl, ?_⟩ | refine ⟨by decide, ?_⟩ | refine ⟨trivial, ?_⟩ | refine ⟨⟨_, rfl, rfl⟩, ?_⟩ | refine ⟨⟨rfl, trivial⟩, ?_⟩ | refine ⟨⟨rfl, rfl, trivial⟩, ?_⟩
        conv => whnf
        refine ⟨Int.natCast_nonneg _, TV sub[i], tmvs_getN hlt, rfl, rfl, ?_⟩
        repeat (conv => whnf); first | refine IndepAnd (by kernel_rfl) ?_ | refine ⟨rfl, ?_⟩ | refine ⟨by decide, ?_⟩ | refine ⟨trivial, ?_⟩ | refine ⟨⟨_, rfl, rfl⟩, ?_⟩ | refine ⟨⟨rfl, trivial⟩, ?_⟩ | refine ⟨⟨rfl, rfl, trivial⟩, ?_⟩
        conv => whnf
        refine ⟨TV y, by show (tmvs sub[i].kids)[1]? = _; rw [ek]; rfl, rfl, rfl, ?_⟩
        repeat (conv => whnf); first | refine IndepAnd (by kernel_rfl) ?_ | refine ⟨rfl, ?_⟩ | refine ⟨by decide, ?_⟩ | refine ⟨trivial, ?_⟩ | refine ⟨⟨_, rfl, rfl⟩, ?_⟩ | refine ⟨⟨rfl, trivial⟩, ?_⟩ | refine ⟨⟨rfl, rfl, trivial⟩, ?_⟩
        conv => whnf
        refine ⟨_, CallVC.pr (pub8_ok b y) rfl rfl, ?_⟩
        repeat (conv => whnf); first | refine IndepAnd (by kernel_rfl) ?_ | refine ⟨rfl, ?_⟩ | refine ⟨by decide, ?_⟩ | refine ⟨trivial, ?_⟩ | refine ⟨⟨_, rfl, rfl⟩, ?_⟩ | refine ⟨⟨rfl, trivial⟩, ?_⟩ | refine ⟨⟨rfl, rfl, trivial⟩, ?_⟩
        conv => whnf
        refine ⟨_, CallVC.pr (with_ok b (withT acc (pubT x)) (pubT y) (by omega) (fun u hu => by
          rcases mem_with.1 hu with hu | rfl
          · exact hft u hu
          · exact .one 8 (by simp) fx)) rfl rfl, ?_⟩
        repeat (conv => whnf); first | refine IndepAnd (by kernel_rfl) ?_ | refine ⟨rfl, ?_⟩ | refine ⟨by decide, ?_⟩ | refine ⟨trivial, ?_⟩ | refine ⟨⟨_, rfl, rfl⟩, ?_⟩ | refine ⟨⟨rfl, trivial⟩, ?_⟩ | refine ⟨⟨rfl, rfl, trivial⟩, ?_⟩
        conv => whnf
        refine ⟨_, wrapN (n := i + 1) rfl (by omega), ?_⟩
        repeat (conv => whnf); first | refine IndepAnd (by kernel_rfl) ?_ | refine ⟨rfl, ?_⟩ | refine ⟨by decide, ?_⟩ | refine ⟨trivial, ?_⟩ | refine ⟨⟨_, rfl, rfl⟩, ?_⟩ | refine ⟨⟨rfl, trivial⟩, ?_⟩ | refine ⟨⟨rfl, rfl, trivial⟩, ?_⟩
        conv => whnf
        refine ⟨⟨i + 1, hlt⟩, ?_, by show sub.length - (i + 1) < sub.length - i; omega⟩
        refine Ge.of rfl ?_ ?_
        · repeat (conv => whnf); first | refine ⟨LE.of rfl, ?_⟩ | refine ⟨LE.of (congrArg (fun l => SV.p (PV.lst (tmvs l))) et.symm), ?_⟩
          trivial
        · repeat (conv => whnf); refine ⟨OLE.of rfl, ?_⟩
          trivial
      · have h3 : ¬ sub[i].kind = 9 := of_decide_eq_false h3
        rw [shP_else h3, eacc] at et
        repeat (conv => whnf); first | refine IndepAnd (by kernel_rfl) ?_ | refine ⟨rfl, ?_⟩ | refine ⟨by decide, ?_⟩ | refine ⟨trivial, ?_⟩ | refine ⟨⟨_, rfl, rfl⟩, ?_⟩ | refine ⟨⟨rfl, trivial⟩, ?_⟩ | refine ⟨⟨rfl, rfl, trivial⟩, ?_⟩
        conv => whnf
        refine ⟨_, wrapN (n := i + 1) rfl (by omega), ?_⟩
        repeat (conv => whnf); first | refine IndepAnd (by kernel_rfl) ?_ | refine ⟨rfl, ?_⟩ | refine ⟨by decide, ?_⟩ | refine ⟨trivial, ?_⟩ | refine ⟨⟨_, rfl, rfl⟩, ?_⟩ | refine ⟨⟨rfl, trivial⟩, ?_⟩ | refine ⟨⟨rfl, rfl, trivial⟩, ?_⟩
        conv => whnf
        refine ⟨⟨i + 1, hlt⟩, ?_, by show sub.length - (i + 1) < sub.length - i; omega⟩
        refine Ge.of rfl ?_ ?_
        · repeat (conv => whnf); first | refine ⟨LE.of rfl, ?_⟩ | refine ⟨LE.of (congrArg (fun l => SV.p (PV.lst (tmvs l))) (eacc.trans et.symm)), ?_⟩
          trivial
        · repeat (conv => whnf); refine ⟨OLE.of rfl, ?_⟩
          trivial
    · have hge : (sub.take i).foldl shP sub = todo := by
        rw [List.take_of_length_le (by have := of_decide_eq_false h2; rw [tmvs_length] at this; have h5 : ¬ ((i : Int) < sub.length) := this; omega), etodo, esub]
        rfl
      show vc _ _ _ _ _
      rw [hge]
      repeat (conv => whnf); first | refine IndepAnd (by kernel_rfl) ?_ | refine ⟨rfl, ?_⟩ | refine ⟨by decide, ?_⟩ | refine ⟨trivial, ?_⟩ | refine ⟨⟨_, rfl, rfl⟩, ?_⟩ | refine ⟨⟨rfl, trivial⟩, ?_⟩ | refine ⟨⟨rfl, rfl, trivial⟩, ?_⟩
      conv => whnf
      refine ⟨RdM l todo, fun j => S.of [(3, .ptr 3 0), (4, .p (.bool false)), (5, lv l), (8, lv todo), (10, lv (mdI l todo j.1)), (11, iv (nI l todo j.1))] [(3, .var true 24 (tv g))], fun j => todo.length + 2 - j.1, ⟨0, fun i hi => absurd hi (by omega)⟩, ?_, ?_⟩
      · refine Ge.of rfl ?_ ?_
        · repeat (conv => whnf); refine ⟨LE.of rfl, ?_⟩
          trivial
        · repeat (conv => whnf); refine ⟨OLE.of rfl, ?_⟩
          trivial
      intro j
      repeat (conv => whnf); first | refine IndepAnd (by kernel_rfl) ?_ | refine ⟨rfl, ?_⟩ | refine ⟨by decide, ?_⟩ | refine ⟨trivial, ?_⟩ | refine ⟨⟨_, rfl, rfl⟩, ?_⟩ | refine ⟨⟨rfl, trivial⟩, ?_⟩ | refine ⟨⟨rfl, rfl, trivial⟩, ?_⟩
      conv => whnf
      -- rounds
      refine @bool_rec _ _ _ ?_ ?_ <;> intro h4
      · have h4 : nI l todo j.1 < ((mdI l todo j.1).length : Int) := by have := of_decide_eq_true h4; rw [tmvs_length] at this; exact this
        obtain ⟨j, hj⟩ := j
        obtain ⟨M, eM⟩ : ∃ M, M = mdI l todo j := ⟨_, rfl⟩
        have hMl : M.length ≤ 30000 := by rw [eM]; have := mdI_le l todo j; omega
        have hMf : ∀ u ∈ M, Fit u := fun u hu => tft u (by rw [eM] at hu; exact mdI_sub l todo j u hu)
        have eN : mdI l todo (j + 1) = mdR l todo M := by rw [eM]; rfl
        have hj1 : ∀ i, i + 1 < j + 1 → (mdI l todo i).length < (mdI l todo (i + 1)).length := fun i hi => by
          by_cases hc : i + 1 < j
          · exact hj i hc
          · have hij : j = i + 1 := by omega
            subst hij
            exact Int.ofNat_lt.1 h4
        have hjle := RdM.le ⟨j + 1, hj1⟩
        have hjle : j + 1 ≤ todo.length + 1 := hjle
        show vc _ _ _ _ _
        simp only [← eM]
        repeat (conv => whnf); first | refine IndepAnd (by kernel_rfl) ?_ | refine ⟨rfl, ?_⟩ | refine ⟨by decide, ?_⟩ | refine ⟨trivial, ?_⟩ | refine ⟨⟨_, rfl, rfl⟩, ?_⟩ | refine ⟨⟨rfl, trivial⟩, ?_⟩ | refine ⟨⟨rfl, rfl, trivial⟩, ?_⟩
        conv => whnf
        refine ⟨{ i : Nat // i ≤ todo.length }, fun i => S.of [(3, .ptr 3 0), (4, .p (.bool false)), (5, lv l), (8, lv todo), (10, lv (mdR l (todo.take i.1) M)), (11, iv M.length), (12, iv i.1)] [(3, .var true 24 (tv g))], fun i => todo.length - i.1, ⟨0, Nat.zero_le _⟩, ?_, ?_⟩
        · refine Ge.of rfl ?_ ?_
          · repeat (conv => whnf); first | refine ⟨LE.of rfl, ?_⟩ | refine ⟨LE.of (congrArg (fun n : Nat => SV.p (PV.int .i64 n)) (tmvs_length M)), ?_⟩
            trivial
          · repeat (conv => whnf); refine ⟨OLE.of rfl, ?_⟩
            trivial
        rintro ⟨i, hi⟩
        repeat (conv => whnf); first | refine IndepAnd (by kernel_rfl) ?_ | refine ⟨rfl, ?_⟩ | refine ⟨by decide, ?_⟩ | refine ⟨trivial, ?_⟩ | refine ⟨⟨_, rfl, rfl⟩, ?_⟩ | refine ⟨⟨rfl, trivial⟩, ?_⟩ | refine ⟨⟨rfl, rfl, trivial⟩, ?_⟩
        conv => whnf
        refine @bool_rec _ _ _ ?_ ?_ <;> intro h5
        · have hlt : i < todo.length := by have := of_decide_eq_true h5; rw [tmvs_length] at this; exact Int.ofNat_lt.1 this
          obtain ⟨t, et⟩ : ∃ t, t = todo[i] := ⟨_, rfl⟩
          have hget : (tmvs todo)[i]? = some (TV t) := by rw [et]; exact tmvs_getN hlt
          have hm : t ∈ todo := by rw [et]; exact List.getElem_mem hlt
          have tg := tgd t hm
          have tft' := tft t hm
          have ett := mdR_take (l := l) (made := M) hlt
          have hml := md_len_le l (todo.take i) M
          have htk : (todo.take i).length ≤ todo.length := by rw [List.length_take]; omega
          have mft : ∀ u ∈ mdR l (todo.take i) M, Fit u := fun u hu => (mdR_sub l _ M u hu).elim (hMf u) fun hu => tft u (List.mem_of_mem_take hu)
          obtain ⟨made, emade⟩ : ∃ made, made = mdR l (todo.take i) M := ⟨_, rfl⟩
          rw [← emade] at hml mft ett
          rw [← et] at ett
          have okT : okS l made t = true → mdR l (todo.take (i + 1)) M = withT made t := fun h => by rw [ett, mdS, if_pos h]
          have okF : okS l made t = false → mdR l (todo.take (i + 1)) M = made := fun h => by rw [ett, mdS, if_neg (by rw [h]; decide)]
          have hD := deep07_ok b t tft' 61 (by decide) (by decide)
          have hdv : decide (((depT t 61 : Nat) : Int) ≤ 60) = true := decide_eq_true (by have := (txt_ne.1 tg.1).2; rw [depT]; omega)
          have hW := with_ok b made t (by omega) mft
          have hH := has_ok b l t (by have := hl.len; omega) hl.fit
          obtain ⟨ok0, eok0⟩ : ∃ v, v = decide (t ∈ l) := ⟨_, rfl⟩
          rw [← eok0] at hH
          show vc _ _ _ _ _
          simp only [← emade]
          repeat (conv => whnf); first | refine IndepAnd (by kernel_rfl) ?_ | refine ⟨rfl, ?_⟩ | refine ⟨by decide, ?_⟩ | refine ⟨trivial, ?_⟩ | refine ⟨⟨_, rfl, rfl⟩, ?_⟩ | refine ⟨⟨rfl, trivial⟩, ?_⟩ | refine ⟨⟨rfl, rfl, trivial⟩, ?_⟩
          conv => whnf
          refine ⟨Int.natCast_nonneg _, TV t, hget, rfl, rfl, ?_⟩
          repeat (conv => whnf); first | refine IndepAnd (by kernel_rfl) ?_ | refine ⟨rfl, ?_⟩ | refine ⟨by decide, ?_⟩ | refine ⟨trivial, ?_⟩ | refine ⟨⟨_, rfl, rfl⟩, ?_⟩ | refine ⟨⟨rfl, trivial⟩, ?_⟩ | refine ⟨⟨rfl, rfl, trivial⟩, ?_⟩
          conv => whnf
          refine ⟨_, CallVC.pr hH rfl rfl, ?_⟩
          cases ok0 with
          | true =>
            repeat (conv => whnf); first | refine IndepAnd (by kernel_rfl) ?_ | refine ⟨rfl, ?_⟩ | refine ⟨by decide, ?_⟩ | refine ⟨trivial, ?_⟩ | refine ⟨⟨_, rfl, rfl⟩, ?_⟩ | refine ⟨⟨rfl, trivial⟩, ?_⟩ | refine ⟨⟨rfl, rfl, trivial⟩, ?_⟩
            conv => whnf
            refine @bool_rec _ _ _ ?_ ?_ <;> intro k9
            · have k9 : t.kind = 9 := of_decide_eq_true k9
              obtain ⟨x, y, e⟩ := kids2 tg (.inr (.inr (.inl k9)))
              have hx : x ∈ t.kids := by rw [e]; simp
              have hy : y ∈ t.kids := by rw [e]; simp
              have ek : tmvs t.kids = [TV x, TV y] := by rw [e]; exact (tmvs2 x y).symm
              have hA1 := all8_ok b made [x, pubT y] (by omega) mft (by simp)
              have hA2 := all8_ok b made [y, pubT x] (by omega) mft (by simp)
              rw [show lv [x, pubT y] = .p (.lst [TV x, TV (pubT y)]) from congrArg (fun l => SV.p (.lst l)) (tmvs2 _ _).symm] at hA1
              rw [show lv [y, pubT x] = .p (.lst [TV y, TV (pubT x)]) from congrArg (fun l => SV.p (.lst l)) (tmvs2 _ _).symm] at hA2
              have eo : okS l made t = (decide (t ∈ l) || decide (t.kind = 1) || (allR made [x, pubT y] || allR made [y, pubT x])) := by unfold okS allR; rw [if_pos k9, e]; simp
              obtain ⟨v1, e1⟩ : ∃ v, v = allR made [x, pubT y] := ⟨_, rfl⟩
              obtain ⟨v2, e2⟩ : ∃ v, v = allR made [y, pubT x] := ⟨_, rfl⟩
              rw [← e1] at hA1 eo
              rw [← e2] at hA2 eo
              repeat (conv => whnf); first | refine IndepAnd (by kernel_rfl) ?_ | refine ⟨rfl, ?_⟩ | refine ⟨by decide, ?_⟩ | refine ⟨trivial, ?_⟩ | refine ⟨⟨_, rfl, rfl⟩, ?_⟩ | refine ⟨⟨rfl, trivial⟩, ?_⟩ | refine ⟨⟨rfl, rfl, trivial⟩, ?_⟩
              conv => whnf
              refine ⟨TV x, by show (tmvs t.kids)[0]? = _; rw [ek]; rfl, rfl, rfl, ?_⟩
              repeat (conv => whnf); first | refine IndepAnd (by kernel_rfl) ?_ | refine ⟨rfl, ?_⟩ | refine ⟨by decide, ?_⟩ | refine ⟨trivial, ?_⟩ | refine ⟨⟨_, rfl, rfl⟩, ?_⟩ | refine ⟨⟨rfl, trivial⟩, ?_⟩ | refine ⟨⟨rfl, rfl, trivial⟩, ?_⟩
              conv => whnf
              refine ⟨TV y, by show (tmvs t.kids)[1]? = _; rw [ek]; rfl, rfl, rfl, ?_⟩
              repeat (conv => whnf); first | refine IndepAnd (by kernel_rfl) ?_ | refine ⟨rfl, ?_⟩ | refine ⟨by decide, ?_⟩ | refine ⟨trivial, ?_⟩ | refine ⟨⟨_, rfl, rfl⟩, ?_⟩ | refine ⟨⟨rfl, trivial⟩, ?_⟩ | refine ⟨⟨rfl, rfl, trivial⟩, ?_⟩
              conv => whnf
              refine ⟨_, CallVC.pr (pub8_ok b y) rfl rfl, ?_⟩
              repeat (conv => whnf); first | refine IndepAnd (by kernel_rfl) ?_ | refine ⟨rfl, ?_⟩ | refine ⟨by decide, ?_⟩ | refine ⟨trivial, ?_⟩ | refine ⟨⟨_, rfl, rfl⟩, ?_⟩ | refine ⟨⟨rfl, trivial⟩, ?_⟩ | refine ⟨⟨rfl, rfl, trivial⟩, ?_⟩
              conv => whnf
              refine ⟨_, CallVC.pr hA1 rfl rfl, ?_⟩
              repeat (conv => whnf); first | refine IndepAnd (by kernel_rfl) ?_ | refine ⟨rfl, ?_⟩ | refine ⟨by decide, ?_⟩ | refine ⟨trivial, ?_⟩ | refine ⟨⟨_, rfl, rfl⟩, ?_⟩ | refine ⟨⟨rfl, trivial⟩, ?_⟩ | refine ⟨⟨rfl, rfl, trivial⟩, ?_⟩
              conv => whnf
              refine ⟨TV y, by show (tmvs t.kids)[1]? = _; rw [ek]; rfl, rfl, rfl, ?_⟩
              repeat (conv => whnf); first | refine IndepAnd (by kernel_rfl) ?_ | refine ⟨rfl, ?_⟩ | refine ⟨by decide, ?_⟩ | refine ⟨trivial, ?_⟩ | refine ⟨⟨_, rfl, rfl⟩, ?_⟩ | refine ⟨⟨rfl, trivial⟩, ?_⟩ | refine ⟨⟨rfl, rfl, trivial⟩, ?_⟩
              conv => whnf
              refine ⟨TV x, by show (tmvs t.kids)[0]? = _; rw [ek]; rfl, rfl, rfl, ?_⟩
              repeat (conv => whnf); first | refine IndepAnd (by kernel_rfl) ?_ | refine ⟨rfl, ?_⟩ | refine ⟨by decide, ?_⟩ | refine ⟨trivial, ?_⟩ | refine ⟨⟨_, rfl, rfl⟩, ?_⟩ | refine ⟨⟨rfl, trivial⟩, ?_⟩ | refine ⟨⟨rfl, rfl, trivial⟩, ?_⟩
              conv => whnf
              refine ⟨_, CallVC.pr (pub8_ok b x) rfl rfl, ?_⟩
              repeat (conv => whnf); first | refine IndepAnd (by kernel_rfl) ?_ | refine ⟨rfl, ?_⟩ | refine ⟨by decide, ?_⟩ | refine ⟨trivial, ?_⟩ | refine ⟨⟨_, rfl, rfl⟩, ?_⟩ | refine ⟨⟨rfl, trivial⟩, ?_⟩ | refine ⟨⟨rfl, rfl, trivial⟩, ?_⟩
              conv => whnf
              refine ⟨_, CallVC.pr hA2 rfl rfl, ?_⟩
              repeat (conv => whnf); first | refine IndepAnd (by kernel_rfl) ?_ | refine ⟨rfl, ?_⟩ | refine ⟨by decide, ?_⟩ | refine ⟨trivial, ?_⟩ | refine ⟨⟨_, rfl, rfl⟩, ?_⟩ | refine ⟨⟨rfl, trivial⟩, ?_⟩ | refine ⟨⟨rfl, rfl, trivial⟩, ?_⟩
              conv => whnf
              refine ⟨_, CallVC.pr hD rfl rfl, ?_⟩
              repeat (conv => whnf); first | refine IndepAnd (by kernel_rfl) ?_ | refine ⟨rfl, ?_⟩ | refine ⟨by decide, ?_⟩ | refine ⟨trivial, ?_⟩ | refine ⟨⟨_, rfl, rfl⟩, ?_⟩ | refine ⟨⟨rfl, trivial⟩, ?_⟩ | refine ⟨⟨rfl, rfl, trivial⟩, ?_⟩
              conv => whnf
              have eN := okT (by rw [eo, ← eok0]; rfl)
              rw [hdv]
              repeat (conv => whnf); first | refine IndepAnd (by kernel_rfl) ?_ | refine ⟨rfl, ?_⟩ | refine ⟨by decide, ?_⟩ | refine ⟨trivial, ?_⟩ | refine ⟨⟨_, rfl, rfl⟩, ?_⟩ | refine ⟨⟨rfl, trivial⟩, ?_⟩ | refine ⟨⟨rfl, rfl, trivial⟩, ?_⟩
              conv => whnf
              refine ⟨_, CallVC.pr hW rfl rfl, ?_⟩
              repeat (conv => whnf); first | refine IndepAnd (by kernel_rfl) ?_ | refine ⟨rfl, ?_⟩ | refine ⟨by decide, ?_⟩ | refine ⟨trivial, ?_⟩ | refine ⟨⟨_, rfl, rfl⟩, ?_⟩ | refine ⟨⟨rfl, trivial⟩, ?_⟩ | refine ⟨⟨rfl, rfl, trivial⟩, ?_⟩
              conv => whnf
              refine ⟨_, wrapN (n := i + 1) rfl (by omega), ?_⟩
              repeat (conv => whnf); first | refine IndepAnd (by kernel_rfl) ?_ | refine ⟨rfl, ?_⟩ | refine ⟨by decide, ?_⟩ | refine ⟨trivial, ?_⟩ | refine ⟨⟨_, rfl, rfl⟩, ?_⟩ | refine ⟨⟨rfl, trivial⟩, ?_⟩ | refine ⟨⟨rfl, rfl, trivial⟩, ?_⟩
              conv => whnf
              refine ⟨⟨i + 1, hlt⟩, ?_, by show todo.length - (i + 1) < todo.length - i; omega⟩
              refine Ge.of rfl ?_ ?_
              · repeat (conv => whnf); first | refine ⟨LE.of rfl, ?_⟩ | refine ⟨LE.of (congrArg (fun l => SV.p (PV.lst (tmvs l))) eN.symm), ?_⟩
                trivial
              · repeat (conv => whnf); refine ⟨OLE.of rfl, ?_⟩
                trivial
            · have k9 : ¬ t.kind = 9 := of_decide_eq_false k9
              repeat (conv => whnf); first | refine IndepAnd (by kernel_rfl) ?_ | refine ⟨rfl, ?_⟩ | refine ⟨by decide, ?_⟩ | refine ⟨trivial, ?_⟩ | refine ⟨⟨_, rfl, rfl⟩, ?_⟩ | refine ⟨⟨rfl, trivial⟩, ?_⟩ | refine ⟨⟨rfl, rfl, trivial⟩, ?_⟩
              conv => whnf
              refine @bool_rec _ _ _ ?_ ?_ <;> intro k2
              · have k2 : 2 < t.kind := of_decide_eq_true k2
                have hP := all8_ok b made t.kids (by omega) mft tft'.len
                have eo : okS l made t = (decide (t ∈ l) || decide (t.kind = 1) || allR made t.kids) := by unfold okS allR; rw [if_neg k9, decide_eq_true k2, Bool.true_and]
                obtain ⟨v1, e1⟩ : ∃ v, v = allR made t.kids := ⟨_, rfl⟩
                rw [← e1] at hP eo
                repeat (conv => whnf); first | refine IndepAnd (by kernel_rfl) ?_ | refine ⟨rfl, ?_⟩ | refine ⟨by decide, ?_⟩ | refine ⟨trivial, ?_⟩ | refine ⟨⟨_, rfl, rfl⟩, ?_⟩ | refine ⟨⟨rfl, trivial⟩, ?_⟩ | refine ⟨⟨rfl, rfl, trivial⟩, ?_⟩
                conv => whnf
                refine ⟨_, CallVC.pr hP rfl rfl, ?_⟩
                repeat (conv => whnf); first | refine IndepAnd (by kernel_rfl) ?_ | refine ⟨rfl, ?_⟩ | refine ⟨by decide, ?_⟩ | refine ⟨trivial, ?_⟩ | refine ⟨⟨_, rfl, rfl⟩, ?_⟩ | refine ⟨⟨rfl, trivial⟩, ?_⟩ | refine ⟨⟨rfl, rfl, trivial⟩, ?_⟩
                conv => whnf
                refine ⟨_, CallVC.pr hD rfl rfl, ?_⟩
                repeat (conv => whnf); first | refine IndepAnd (by kernel_rfl) ?_ | refine ⟨rfl, ?_⟩ | refine ⟨by decide, ?_⟩ | refine ⟨trivial, ?_⟩ | refine ⟨⟨_, rfl, rfl⟩, ?_⟩ | refine ⟨⟨rfl, trivial⟩, ?_⟩ | refine ⟨⟨rfl, rfl, trivial⟩, ?_⟩
                conv => whnf
                have eN := okT (by rw [eo, ← eok0]; rfl)
                rw [hdv]
                repeat (conv => whnf); first | refine IndepAnd (by kernel_rfl) ?_ | refine ⟨rfl, ?_⟩ | refine ⟨by decide, ?_⟩ | refine ⟨trivial, ?_⟩ | refine ⟨⟨_, rfl, rfl⟩, ?_⟩ | refine ⟨⟨rfl, trivial⟩, ?_⟩ | refine ⟨⟨rfl, rfl, trivial⟩, ?_⟩
                conv => whnf
                refine ⟨_, CallVC.pr hW rfl rfl, ?_⟩
                repeat (conv => whnf); first | refine IndepAnd (by kernel_rfl) ?_ | refine ⟨rfl, ?_⟩ | refine ⟨by decide, ?_⟩ | refine ⟨trivial, ?_⟩ | refine ⟨⟨_, rfl, rfl⟩, ?_⟩ | refine ⟨⟨rfl, trivial⟩, ?_⟩ | refine ⟨⟨rfl, rfl, trivial⟩, ?_⟩
                conv => whnf
                refine ⟨_, wrapN (n := i + 1) rfl (by omega), ?_⟩
                repeat (conv => whnf); first | refine IndepAnd (by kernel_rfl) ?_ | refine ⟨rfl, ?_⟩ | refine ⟨by decide, ?_⟩ | refine ⟨trivial, ?_⟩ | refine ⟨⟨_, rfl, rfl⟩, ?_⟩ | refine ⟨⟨rfl, trivial⟩, ?_⟩ | refine ⟨⟨rfl, rfl, trivial⟩, ?_⟩
                conv => whnf
                refine ⟨⟨i + 1, hlt⟩, ?_, by show todo.length - (i + 1) < todo.length - i; omega⟩
                refine Ge.of rfl ?_ ?_
                · repeat (conv => whnf); first | refine ⟨LE.of rfl, ?_⟩ | refine ⟨LE.of (congrArg (fun l => SV.p (PV.lst (tmvs l))) eN.symm), ?_⟩
                  trivial
                · repeat (conv => whnf); refine ⟨OLE.of rfl, ?_⟩
                  trivial
              · have k2 : ¬ 2 < t.kind := of_decide_eq_false k2
                repeat (conv => whnf); first | refine IndepAnd (by kernel_rfl) ?_ | refine ⟨rfl, ?_⟩ | refine ⟨by decide, ?_⟩ | refine ⟨trivial, ?_⟩ | refine ⟨⟨_, rfl, rfl⟩, ?_⟩ | refine ⟨⟨rfl, trivial⟩, ?_⟩ | refine ⟨⟨rfl, rfl, trivial⟩, ?_⟩
                conv => whnf
                refine ⟨_, CallVC.pr hD rfl rfl, ?_⟩
                repeat (conv => whnf); first | refine IndepAnd (by kernel_rfl) ?_ | refine ⟨rfl, ?_⟩ | refine ⟨by decide, ?_⟩ | refine ⟨trivial, ?_⟩ | refine ⟨⟨_, rfl, rfl⟩, ?_⟩ | refine ⟨⟨rfl, trivial⟩, ?_⟩ | refine ⟨⟨rfl, rfl, trivial⟩, ?_⟩
                conv => whnf
                have eN := okT (by unfold okS; rw [← eok0]; simp)
                rw [hdv]
                repeat (conv => whnf); first | refine IndepAnd (by kernel_rfl) ?_ | refine ⟨rfl, ?_⟩ | refine ⟨by decide, ?_⟩ | refine ⟨trivial, ?_⟩ | refine ⟨⟨_, rfl, rfl⟩, ?_⟩ | refine ⟨⟨rfl, trivial⟩, ?_⟩ | refine ⟨⟨rfl, rfl, trivial⟩, ?_⟩
                conv => whnf
                refine ⟨_, CallVC.pr hW rfl rfl, ?_⟩
                repeat (conv => whnf); first | refine IndepAnd (by kernel_rfl) ?_ | refine ⟨rfl, ?_⟩ | refine ⟨by decide, ?_⟩ | refine ⟨trivial, ?_⟩ | refine ⟨⟨_, rfl, rfl⟩, ?_⟩ | refine ⟨⟨rfl, trivial⟩, ?_⟩ | refine ⟨⟨rfl, rfl, trivial⟩, ?_⟩
                conv => whnf
                refine ⟨_, wrapN (n := i + 1) rfl (by omega), ?_⟩
                repeat (conv => whnf); first | refine IndepAnd (by kernel_rfl) ?_ | refine ⟨rfl, ?_⟩ | refine ⟨by decide, ?_⟩ | refine ⟨trivial, ?_⟩ | refine ⟨⟨_, rfl, rfl⟩, ?_⟩ | refine ⟨⟨rfl, trivial⟩, ?_⟩ | refine ⟨⟨rfl, rfl, trivial⟩, ?_⟩
                conv => whnf
                refine ⟨⟨i + 1, hlt⟩, ?_, by show todo.length - (i + 1) < todo.length - i; omega⟩
                refine Ge.of rfl ?_ ?_
                · repeat (conv => whnf); first | refine ⟨LE.of rfl, ?_⟩ | refine ⟨LE.of (congrArg (fun l => SV.p (PV.lst (tmvs l))) eN.symm), ?_⟩
                  trivial
                · repeat (conv => whnf); refine ⟨OLE.of rfl, ?_⟩
                  trivial
          | false =>
            repeat (conv => whnf); first | refine IndepAnd (by kernel_rfl) ?_ | refine ⟨rfl, ?_⟩ | refine ⟨by decide, ?_⟩ | refine ⟨trivial, ?_⟩ | refine ⟨⟨_, rfl, rfl⟩, ?_⟩ | refine ⟨⟨rfl, trivial⟩, ?_⟩ | refine ⟨⟨rfl, rfl, trivial⟩, ?_⟩
            conv => whnf
            by_cases k1 : t.kind = 1
            · rw [decide_eq_true k1]
              repeat (conv => whnf); first | refine IndepAnd (by kernel_rfl) ?_ | refine ⟨rfl, ?_⟩ | refine ⟨by decide, ?_⟩ | refine ⟨trivial, ?_⟩ | refine ⟨⟨_, rfl, rfl⟩, ?_⟩ | refine ⟨⟨rfl, trivial⟩, ?_⟩ | refine ⟨⟨rfl, rfl, trivial⟩, ?_⟩
              conv => whnf
              refine @bool_rec _ _ _ ?_ ?_ <;> intro k9
              · have k9 : t.kind = 9 := of_decide_eq_true k9
                exact absurd (k1.symm.trans k9) (by decide)
              · have k9 : ¬ t.kind = 9 := of_decide_eq_false k9
                repeat (conv => whnf); first | refine IndepAnd (by kernel_rfl) ?_ | refine ⟨rfl, ?_⟩ | refine ⟨by decide, ?_⟩ | refine ⟨trivial, ?_⟩ | refine ⟨⟨_, rfl, rfl⟩, ?_⟩ | refine ⟨⟨rfl, trivial⟩, ?_⟩ | refine ⟨⟨rfl, rfl, trivial⟩, ?_⟩
                conv => whnf
                refine @bool_rec _ _ _ ?_ ?_ <;> intro k2
                · have k2 : 2 < t.kind := of_decide_eq_true k2
                  exact absurd k2 (by rw [k1]; decide)
                · have k2 : ¬ 2 < t.kind := of_decide_eq_false k2
                  repeat (conv => whnf); first | refine IndepAnd (by kernel_rfl) ?_ | refine ⟨rfl, ?_⟩ | refine ⟨by decide, ?_⟩ | refine ⟨trivial, ?_⟩ | refine ⟨⟨_, rfl, rfl⟩, ?_⟩ | refine ⟨⟨rfl, trivial⟩, ?_⟩ | refine ⟨⟨rfl, rfl, trivial⟩, ?_⟩
                  conv => whnf
                  refine ⟨_, CallVC.pr hD rfl rfl, ?_⟩
                  repeat (conv => whnf); first | refine IndepAnd (by kernel_rfl) ?_ | refine ⟨rfl, ?_⟩ | refine ⟨by decide, ?_⟩ | refine ⟨trivial, ?_⟩ | refine ⟨⟨_, rfl, rfl⟩, ?_⟩ | refine ⟨⟨rfl, trivial⟩, ?_⟩ | refine ⟨⟨rfl, rfl, trivial⟩, ?_⟩
                  conv => whnf
                  have eN := okT (by unfold okS; rw [decide_eq_true k1]; simp)
                  rw [hdv]
                  repeat (conv => whnf); first | refine IndepAnd (by kernel_rfl) ?_ | refine ⟨rfl, ?_⟩ | refine ⟨by decide, ?_⟩ | refine ⟨trivial, ?_⟩ | refine ⟨⟨_, rfl, rfl⟩, ?_⟩ | refine ⟨⟨rfl, trivial⟩, ?_⟩ | refine ⟨⟨rfl, rfl, trivial⟩, ?_⟩
                  conv => whnf
                  refine ⟨_, CallVC.pr hW rfl rfl, ?_⟩
                  repeat (conv => whnf); first | refine IndepAnd (by kernel_rfl) ?_ | refine ⟨rfl, ?_⟩ | refine ⟨by decide, ?_⟩ | refine ⟨trivial, ?_⟩ | refine ⟨⟨_, rfl, rfl⟩, ?_⟩ | refine ⟨⟨rfl, trivial⟩, ?_⟩ | refine ⟨⟨rfl, rfl, trivial⟩, ?_⟩
                  conv => whnf
                  refine ⟨_, wrapN (n := i + 1) rfl (by omega), ?_⟩
                  repeat (conv => whnf); first | refine IndepAnd (by kernel_rfl) ?_ | refine ⟨rfl, ?_⟩ | refine ⟨by decide, ?_⟩ | refine ⟨trivial, ?_⟩ | refine ⟨⟨_, rfl, rfl⟩, ?_⟩ | refine ⟨⟨rfl, trivial⟩, ?_⟩ | refine ⟨⟨rfl, rfl, trivial⟩, ?_⟩
                  conv => whnf
                  refine ⟨⟨i + 1, hlt⟩, ?_, by show todo.length - (i + 1) < todo.length - i; omega⟩
                  refine Ge.of rfl ?_ ?_
                  · repeat (conv => whnf); first | refine ⟨LE.of rfl, ?_⟩ | refine ⟨LE.of (congrArg (fun l => SV.p (PV.lst (tmvs l))) eN.symm), ?_⟩
                    trivial
                  · repeat (conv => whnf); refine ⟨OLE.of rfl, ?_⟩
                    trivial
            · rw [decide_eq_false k1]
              repeat (conv => whnf); first | refine IndepAnd (by kernel_rfl) ?_ | refine ⟨rfl, ?_⟩ | refine ⟨by decide, ?_⟩ | refine ⟨trivial, ?_⟩ | refine ⟨⟨_, rfl, rfl⟩, ?_⟩ | refine ⟨⟨rfl, trivial⟩, ?_⟩ | refine ⟨⟨rfl, rfl, trivial⟩, ?_⟩
              conv => whnf
              refine @bool_rec _ _ _ ?_ ?_ <;> intro k9
              · have k9 : t.kind = 9 := of_decide_eq_true k9
                obtain ⟨x, y, e⟩ := kids2 tg (.inr (.inr (.inl k9)))
                have hx : x ∈ t.kids := by rw [e]; simp
                have hy : y ∈ t.kids := by rw [e]; simp
                have ek : tmvs t.kids = [TV x, TV y] := by rw [e]; exact (tmvs2 x y).symm
                have hA1 := all8_ok b made [x, pubT y] (by omega) mft (by simp)
                have hA2 := all8_ok b made [y, pubT x] (by omega) mft (by simp)
                rw [show lv [x, pubT y] = .p (.lst [TV x, TV (pubT y)]) from congrArg (fun l => SV.p (.lst l)) (tmvs2 _ _).symm] at hA1
                rw [show lv [y, pubT x] = .p (.lst [TV y, TV (pubT x)]) from congrArg (fun l => SV.p (.lst l)) (tmvs2 _ _).symm] at hA2
                have eo : okS l made t = (decide (t ∈ l) || decide (t.kind = 1) || (allR made [x, pubT y] || allR made [y, pubT x])) := by unfold okS allR; rw [if_pos k9, e]; simp
                obtain ⟨v1, e1⟩ : ∃ v, v = allR made [x, pubT y] := ⟨_, rfl⟩
                obtain ⟨v2, e2⟩ : ∃ v, v = allR made [y, pubT x] := ⟨_, rfl⟩
                rw [← e1] at hA1 eo
                rw [← e2] at hA2 eo
                rw [← eok0, decide_eq_false k1] at eo
                cases v1 with
                | true =>
                  repeat (conv => whnf); first | refine IndepAnd (by kernel_rfl) ?_ | refine ⟨rfl, ?_⟩ | refine ⟨by decide, ?_⟩ | refine ⟨trivial, ?_⟩ | refine ⟨⟨_, rfl, rfl⟩, ?_⟩ | refine ⟨⟨rfl, trivial⟩, ?_⟩ | refine ⟨⟨rfl, rfl, trivial⟩, ?_⟩
                  conv => whnf
                  refine ⟨TV x, by show (tmvs t.kids)[0]? = _; rw [ek]; rfl, rfl, rfl, ?_⟩
                  repeat (conv => whnf); first | refine IndepAnd (by kernel_rfl) ?_ | refine ⟨rfl, ?_⟩ | refine ⟨by decide, ?_⟩ | refine ⟨trivial, ?_⟩ | refine ⟨⟨_, rfl, rfl⟩, ?_⟩ | refine ⟨⟨rfl, trivial⟩, ?_⟩ | refine ⟨⟨rfl, rfl, trivial⟩, ?_⟩
                  conv => whnf
                  refine ⟨TV y, by show (tmvs t.kids)[1]? = _; rw [ek]; rfl, rfl, rfl, ?_⟩
                  repeat (conv => whnf); first | refine IndepAnd (by kernel_rfl) ?_ | refine ⟨rfl, ?_⟩ | refine ⟨by decide, ?_⟩ | refine ⟨trivial, ?_⟩ | refine ⟨⟨_, rfl, rfl⟩, ?_⟩ | refine ⟨⟨rfl, trivial⟩, ?_⟩ | refine ⟨⟨rfl, rfl, trivial⟩, ?_⟩
                  conv => whnf
                  refine ⟨_, CallVC.pr (pub8_ok b y) rfl rfl, ?_⟩
                  repeat (conv => whnf); first | refine IndepAnd (by kernel_rfl) ?_ | refine ⟨rfl, ?_⟩ | refine ⟨by decide, ?_⟩ | refine ⟨trivial, ?_⟩ | refine ⟨⟨_, rfl, rfl⟩, ?_⟩ | refine ⟨⟨rfl, trivial⟩, ?_⟩ | refine ⟨⟨rfl, rfl, trivial⟩, ?_⟩
                  conv => whnf
                  refine ⟨_, CallVC.pr hA1 rfl rfl, ?_⟩
                  repeat (conv => whnf); first | refine IndepAnd (by kernel_rfl) ?_ | refine ⟨rfl, ?_⟩ | refine ⟨by decide, ?_⟩ | refine ⟨trivial, ?_⟩ | refine ⟨⟨_, rfl, rfl⟩, ?_⟩ | refine ⟨⟨rfl, trivial⟩, ?_⟩ | refine ⟨⟨rfl, rfl, trivial⟩, ?_⟩
                  conv => whnf
                  refine ⟨TV y, by show (tmvs t.kids)[1]? = _; rw [ek]; rfl, rfl, rfl, ?_⟩
                  repeat (conv => whnf); first | refine IndepAnd (by kernel_rfl) ?_ | refine ⟨rfl, ?_⟩ | refine ⟨by decide, ?_⟩ | refine ⟨trivial, ?_⟩ | refine ⟨⟨_, rfl, rfl⟩, ?_⟩ | refine ⟨⟨rfl, trivial⟩, ?_⟩ | refine ⟨⟨rfl, rfl, trivial⟩, ?_⟩
                  conv => whnf
                  refine ⟨TV x, by show (tmvs t.kids)[0]? = _; rw [ek]; rfl, rfl, rfl, ?_⟩
                  repeat (conv => whnf); first | refine IndepAnd (by kernel_rfl) ?_ | refine ⟨rfl, ?_⟩ | refine ⟨by decide, ?_⟩ | refine ⟨trivial, ?_⟩ | refine ⟨⟨_, rfl, rfl⟩, ?_⟩ | refine ⟨⟨rfl, trivial⟩, ?_⟩ | refine ⟨⟨rfl, rfl, trivial⟩, ?_⟩
                  conv => whnf
                  refine ⟨_, CallVC.pr (pub8_ok b x) rfl rfl, ?_⟩
                  repeat (conv => whnf); first | refine IndepAnd (by kernel_rfl) ?_ | refine ⟨rfl, ?_⟩ | refine ⟨by decide, ?_⟩ | refine ⟨trivial, ?_⟩ | refine ⟨⟨_, rfl, rfl⟩, ?_⟩ | refine ⟨⟨rfl, trivial⟩, ?_⟩ | refine ⟨⟨rfl, rfl, trivial⟩, ?_⟩
                  conv => whnf
                  refine ⟨_, CallVC.pr hA2 rfl rfl, ?_⟩
                  repeat (conv => whnf); first | refine IndepAnd (by kernel_rfl) ?_ | refine ⟨rfl, ?_⟩ | refine ⟨by decide, ?_⟩ | refine ⟨trivial, ?_⟩ | refine ⟨⟨_, rfl, rfl⟩, ?_⟩ | refine ⟨⟨rfl, trivial⟩, ?_⟩ | refine ⟨⟨rfl, rfl, trivial⟩, ?_⟩
                  conv => whnf
                  refine ⟨_, CallVC.pr hD rfl rfl, ?_⟩
                  repeat (conv => whnf); first | refine IndepAnd (by kernel_rfl) ?_ | refine ⟨rfl, ?_⟩ | refine ⟨by decide, ?_⟩ | refine ⟨trivial, ?_⟩ | refine ⟨⟨_, rfl, rfl⟩, ?_⟩ | refine ⟨⟨rfl, trivial⟩, ?_⟩ | refine ⟨⟨rfl, rfl, trivial⟩, ?_⟩
                  conv => whnf
                  have eN := okT (by rw [eo]; rfl)
                  rw [hdv]
                  repeat (conv => whnf); first | refine IndepAnd (by kernel_rfl) ?_ | refine ⟨rfl, ?_⟩ | refine ⟨by decide, ?_⟩ | refine ⟨trivial, ?_⟩ | refine ⟨⟨_, rfl, rfl⟩, ?_⟩ | refine ⟨⟨rfl, trivial⟩, ?_⟩ | refine ⟨⟨rfl, rfl, trivial⟩, ?_⟩
                  conv => whnf
                  refine ⟨_, CallVC.pr hW rfl rfl, ?_⟩
                  repeat (conv => whnf); first | refine IndepAnd (by kernel_rfl) ?_ | refine ⟨rfl, ?_⟩ | refine ⟨by decide, ?_⟩ | refine ⟨trivial, ?_⟩ | refine ⟨⟨_, rfl, rfl⟩, ?_⟩ | refine ⟨⟨rfl, trivial⟩, ?_⟩ | refine ⟨⟨rfl, rfl, trivial⟩, ?_⟩
                  conv => whnf
                  refine ⟨_, wrapN (n := i + 1) rfl (by omega), ?_⟩
                  repeat (conv => whnf); first | refine IndepAnd (by kernel_rfl) ?_ | refine ⟨rfl, ?_⟩ | refine ⟨by decide, ?_⟩ | refine ⟨trivial, ?_⟩ | refine ⟨⟨_, rfl, rfl⟩, ?_⟩ | refine ⟨⟨rfl, trivial⟩, ?_⟩ | refine ⟨⟨rfl, rfl, trivial⟩, ?_⟩
                  conv => whnf
                  refine ⟨⟨i + 1, hlt⟩, ?_, by show todo.length - (i + 1) < todo.length - i; omega⟩
                  refine Ge.of rfl ?_ ?_
                  · repeat (conv => whnf); first | refine ⟨LE.of rfl, ?_⟩ | refine ⟨LE.of (congrArg (fun l => SV.p (PV.lst (tmvs l))) eN.symm), ?_⟩
                    trivial
                  · repeat (conv => whnf); refine ⟨OLE.of rfl, ?_⟩
                    trivial
                | false =>
                  cases v2 with
                  | true =>
                    repeat (conv => whnf); first | refine IndepAnd (by kernel_rfl) ?_ | refine ⟨rfl, ?_⟩ | refine ⟨by decide, ?_⟩ | refine ⟨trivial, ?_⟩ | refine ⟨⟨_, rfl, rfl⟩, ?_⟩ | refine ⟨⟨rfl, trivial⟩, ?_⟩ | refine ⟨⟨rfl, rfl, trivial⟩, ?_⟩
                    conv => whnf
                    refine ⟨TV x, by show (tmvs t.kids)[0]? = _; rw [ek]; rfl, rfl, rfl, ?_⟩
                    repeat (conv => whnf); first | refine IndepAnd (by kernel_rfl) ?_ | refine ⟨rfl, ?_⟩ | refine ⟨by decide, ?_⟩ | refine ⟨trivial, ?_⟩ | refine ⟨⟨_, rfl, rfl⟩, ?_⟩ | refine ⟨⟨rfl, trivial⟩, ?_⟩ | refine ⟨⟨rfl, rfl, trivial⟩, ?_⟩
                    conv => whnf
                    refine ⟨TV y, by show (tmvs t.kids)[1]? = _; rw [ek]; rfl, rfl, rfl, ?_⟩
                    repeat (conv => whnf); first | refine IndepAnd (by kernel_rfl) ?_ | refine ⟨rfl, ?_⟩ | refine ⟨by decide, ?_⟩ | refine ⟨trivial, ?_⟩ | refine ⟨⟨_, rfl, rfl⟩, ?_⟩ | refine ⟨⟨rfl, trivial⟩, ?_⟩ | refine ⟨⟨rfl, rfl, trivial⟩, ?_⟩
                    conv => whnf
                    refine ⟨_, CallVC.pr (pub8_ok b y) rfl rfl, ?_⟩
                    repeat (conv => whnf); first | refine IndepAnd (by kernel_rfl) ?_ | refine ⟨rfl, ?_⟩ | refine ⟨by decide, ?_⟩ | refine ⟨trivial, ?_⟩ | refine ⟨⟨_, rfl, rfl⟩, ?_⟩ | refine ⟨⟨rfl, trivial⟩, ?_⟩ | refine ⟨⟨rfl, rfl, trivial⟩, ?_⟩
                    conv => whnf
                    refine ⟨_, CallVC.pr hA1 rfl rfl, ?_⟩
                    repeat (conv => whnf); first | refine IndepAnd (by kernel_rfl) ?_ | refine ⟨rfl, ?_⟩ | refine ⟨by decide, ?_⟩ | refine ⟨trivial, ?_⟩ | refine ⟨⟨_, rfl, rfl⟩, ?_⟩ | refine ⟨⟨rfl, trivial⟩, ?_⟩ | refine ⟨⟨rfl, rfl, trivial⟩, ?_⟩
                    conv => whnf
                    refine ⟨TV y, by show (tmvs t.kids)[1]? = _; rw [ek]; rfl, rfl, rfl, ?_⟩
                    repeat (conv => whnf); first | refine IndepAnd (by kernel_rfl) ?_ | refine ⟨rfl, ?_⟩ | refine ⟨by decide, ?_⟩ | refine ⟨trivial, ?_⟩ | refine ⟨⟨_, rfl, rfl⟩, ?_⟩ | refine ⟨⟨rfl, trivial⟩, ?_⟩ | refine ⟨⟨rfl, rfl, trivial⟩, ?_⟩
                    conv => whnf
                    refine ⟨TV x, by show (tmvs t.kids)[0]? = _; rw [ek]; rfl, rfl, rfl, ?_⟩
                    repeat (conv => whnf); first | refine IndepAnd (by kernel_rfl) ?_ | refine ⟨rfl, ?_⟩ | refine ⟨by decide, ?_⟩ | refine ⟨trivial, ?_⟩ | refine ⟨⟨_, rfl, rfl⟩, ?_⟩ | refine ⟨⟨rfl, trivial⟩, ?_⟩ | refine ⟨⟨rfl, rfl, trivial⟩, ?_⟩
                    conv => whnf
                    refine ⟨_, CallVC.pr (pub8_ok b x) rfl rfl, ?_⟩
                    repeat (conv => whnf); first | refine IndepAnd (by kernel_rfl) ?_ | refine ⟨rfl, ?_⟩ | refine ⟨by decide, ?_⟩ | refine ⟨trivial, ?_⟩ | refine ⟨⟨_, rfl, rfl⟩, ?_⟩ | refine ⟨⟨rfl, trivial⟩, ?_⟩ | refine ⟨⟨rfl, rfl, trivial⟩, ?_⟩
                    conv => whnf
                    refine ⟨_, CallVC.pr hA2 rfl rfl, ?_⟩
                    repeat (conv => whnf); first | refine IndepAnd (by kernel_rfl) ?_ | refine ⟨rfl, ?_⟩ | refine ⟨by decide, ?_⟩ | refine ⟨trivial, ?_⟩ | refine ⟨⟨_, rfl, rfl⟩, ?_⟩ | refine ⟨⟨rfl, trivial⟩, ?_⟩ | refine ⟨⟨rfl, rfl, trivial⟩, ?_⟩
                    conv => whnf
                    refine ⟨_, CallVC.pr hD rfl rfl, ?_⟩
                    repeat (conv => whnf); first | refine IndepAnd (by kernel_rfl) ?_ | refine ⟨rfl, ?_⟩ | refine ⟨by decide, ?_⟩ | refine ⟨trivial, ?_⟩ | refine ⟨⟨_, rfl, rfl⟩, ?_⟩ | refine ⟨⟨rfl, trivial⟩, ?_⟩ | refine ⟨⟨rfl, rfl, trivial⟩, ?_⟩
                    conv => whnf
                    have eN := okT (by rw [eo]; rfl)
                    rw [hdv]
                    repeat (conv => whnf); first | refine IndepAnd (by kernel_rfl) ?_ | refine ⟨rfl, ?_⟩ | refine ⟨by decide, ?_⟩ | refine ⟨trivial, ?_⟩ | refine ⟨⟨_, rfl, rfl⟩, ?_⟩ | refine ⟨⟨rfl, trivial⟩, ?_⟩ | refine ⟨⟨rfl, rfl, trivial⟩, ?_⟩
                    conv => whnf
                    refine ⟨_, CallVC.pr hW rfl rfl, ?_⟩
                    repeat (conv => whnf); first | refine IndepAnd (by kernel_rfl) ?_ | refine ⟨rfl, ?_⟩ | refine ⟨by decide, ?_⟩ | refine ⟨trivial, ?_⟩ | refine ⟨⟨_, rfl, rfl⟩, ?_⟩ | refine ⟨⟨rfl, trivial⟩, ?_⟩ | refine ⟨⟨rfl, rfl, trivial⟩, ?_⟩
                    conv => whnf
                    refine ⟨_, wrapN (n := i + 1) rfl (by omega), ?_⟩
                    repeat (conv => whnf); first | refine IndepAnd (by kernel_rfl) ?_ | refine ⟨rfl, ?_⟩ | refine ⟨by decide, ?_⟩ | refine ⟨trivial, ?_⟩ | refine ⟨⟨_, rfl, rfl⟩, ?_⟩ | refine ⟨⟨rfl, trivial⟩, ?_⟩ | refine ⟨⟨rfl, rfl, trivial⟩, ?_⟩
                    conv => whnf
                    refine ⟨⟨i + 1, hlt⟩, ?_, by show todo.length - (i + 1) < todo.length - i; omega⟩
                    refine Ge.of rfl ?_ ?_
                    · repeat (conv => whnf); first | refine ⟨LE.of rfl, ?_⟩ | refine ⟨LE.of (congrArg (fun l => SV.p (PV.lst (tmvs l))) eN.symm), ?_⟩
                      trivial
                    · repeat (conv => whnf); refine ⟨OLE.of rfl, ?_⟩
                      trivial
                  | false =>
                    repeat (conv => whnf); first | refine IndepAnd (by kernel_rfl) ?_ | refine ⟨rfl, ?_⟩ | refine ⟨by decide, ?_⟩ | refine ⟨trivial, ?_⟩ | refine ⟨⟨_, rfl, rfl⟩, ?_⟩ | refine ⟨⟨rfl, trivial⟩, ?_⟩ | refine ⟨⟨rfl, rfl, trivial⟩, ?_⟩
                    conv => whnf
                    refine ⟨TV x, by show (tmvs t.kids)[0]? = _; rw [ek]; rfl, rfl, rfl, ?_⟩
                    repeat (conv => whnf); first | refine IndepAnd (by kernel_rfl) ?_ | refine ⟨rfl, ?_⟩ | refine ⟨by decide, ?_⟩ | refine ⟨trivial, ?_⟩ | refine ⟨⟨_, rfl, rfl⟩, ?_⟩ | refine ⟨⟨rfl, trivial⟩, ?_⟩ | refine ⟨⟨rfl, rfl, trivial⟩, ?_⟩
                    conv => whnf
                    refine ⟨TV y, by show (tmvs t.kids)[1]? = _; rw [ek]; rfl, rfl, rfl, ?_⟩
                    repeat (conv => whnf); first | refine IndepAnd (by kernel_rfl) ?_ | refine ⟨rfl, ?_⟩ | refine ⟨by decide, ?_⟩ | refine ⟨trivial, ?_⟩ | refine ⟨⟨_, rfl, rfl⟩, ?_⟩ | refine ⟨⟨rfl, trivial⟩, ?_⟩ | refine ⟨⟨rfl, rfl, trivial⟩, ?_⟩
                    conv => whnf
                    refine ⟨_, CallVC.pr (pub8_ok b y) rfl rfl, ?_⟩
                    repeat (conv => whnf); first | refine IndepAnd (by kernel_rfl) ?_ | refine ⟨rfl, ?_⟩ | refine ⟨by decide, ?_⟩ | refine ⟨trivial, ?_⟩ | refine ⟨⟨_, rfl, rfl⟩, ?_⟩ | refine ⟨⟨rfl, trivial⟩, ?_⟩ | refine ⟨⟨rfl, rfl, trivial⟩, ?_⟩
                    conv => whnf
                    refine ⟨_, CallVC.pr hA1 rfl rfl, ?_⟩
                    repeat (conv => whnf); first | refine IndepAnd (by kernel_rfl) ?_ | refine ⟨rfl, ?_⟩ | refine ⟨by decide, ?_⟩ | refine ⟨trivial, ?_⟩ | refine ⟨⟨_, rfl, rfl⟩, ?_⟩ | refine ⟨⟨rfl, trivial⟩, ?_⟩ | refine ⟨⟨rfl, rfl, trivial⟩, ?_⟩
                    conv => whnf
                    refine ⟨TV y, by show (tmvs t.kids)[1]? = _; rw [ek]; rfl, rfl, rfl, ?_⟩
                    repeat (conv => whnf); first | refine IndepAnd (by kernel_rfl) ?_ | refine ⟨rfl, ?_⟩ | refine ⟨by decide, ?_⟩ | refine ⟨trivial, ?_⟩ | refine ⟨⟨_, rfl, rfl⟩, ?_⟩ | refine ⟨⟨rfl, trivial⟩, ?_⟩ | refine ⟨⟨rfl, rfl, trivial⟩, ?_⟩
                    conv => whnf
                    refine ⟨TV x, by show (tmvs t.kids)[0]? = _; rw [ek]; rfl, rfl, rfl, ?_⟩
                    repeat (conv => whnf); first | refine IndepAnd (by kernel_rfl) ?_ | refine ⟨rfl, ?_⟩ | refine ⟨by decide, ?_⟩ | refine ⟨trivial, ?_⟩ | refine ⟨⟨_, rfl, rfl⟩, ?_⟩ | refine ⟨⟨rfl, trivial⟩, ?_⟩ | refine ⟨⟨rfl, rfl, trivial⟩, ?_⟩
                    conv => whnf
                    refine ⟨_, CallVC.pr (pub8_ok b x) rfl rfl, ?_⟩
                    repeat (conv => whnf); first | refine IndepAnd (by kernel_rfl) ?_ | refine ⟨rfl, ?_⟩ | refine ⟨by decide, ?_⟩ | refine ⟨trivial, ?_⟩ | refine ⟨⟨_, rfl, rfl⟩, ?_⟩ | refine ⟨⟨rfl, trivial⟩, ?_⟩ | refine ⟨⟨rfl, rfl, trivial⟩, ?_⟩
                    conv => whnf
                    refine ⟨_, CallVC.pr hA2 rfl rfl, ?_⟩
                    repeat (conv => whnf); first | refine IndepAnd (by kernel_rfl) ?_ | refine ⟨rfl, ?_⟩ | refine ⟨by decide, ?_⟩ | refine ⟨trivial, ?_⟩ | refine ⟨⟨_, rfl, rfl⟩, ?_⟩ | refine ⟨⟨rfl, trivial⟩, ?_⟩ | refine ⟨⟨rfl, rfl, trivial⟩, ?_⟩
                    conv => whnf
                    refine ⟨_, CallVC.pr hD rfl rfl, ?_⟩
                    repeat (conv => whnf); first | refine IndepAnd (by kernel_rfl) ?_ | refine ⟨rfl, ?_⟩ | refine ⟨by decide, ?_⟩ | refine ⟨trivial, ?_⟩ | refine ⟨⟨_, rfl, rfl⟩, ?_⟩ | refine ⟨⟨rfl, trivial⟩, ?_⟩ | refine ⟨⟨rfl, rfl, trivial⟩, ?_⟩
                    conv => whnf
                    have eN := okF (by rw [eo]; rfl)
                    refine ⟨_, wrapN (n := i + 1) rfl (by omega), ?_⟩
                    repeat (conv => whnf); first | refine IndepAnd (by kernel_rfl) ?_ | refine ⟨rfl, ?_⟩ | refine ⟨by decide, ?_⟩ | refine ⟨trivial, ?_⟩ | refine ⟨⟨_, rfl, rfl⟩, ?_⟩ | refine ⟨⟨rfl, trivial⟩, ?_⟩ | refine ⟨⟨rfl, rfl, trivial⟩, ?_⟩
                    conv => whnf
                    refine ⟨⟨i + 1, hlt⟩, ?_, by show todo.length - (i + 1) < todo.length - i; omega⟩
                    refine Ge.of rfl ?_ ?_
                    · repeat (conv => whnf); first | refine ⟨LE.of rfl, ?_⟩ | refine ⟨LE.of (congrArg (fun l => SV.p (PV.lst (tmvs l))) eN.symm), ?_⟩
                      trivial
                    · repeat (conv => whnf); refine ⟨OLE.of rfl, ?_⟩
                      trivial
              · have k9 : ¬ t.kind = 9 := of_decide_eq_false k9
                repeat (conv => whnf); first | refine IndepAnd (by kernel_rfl) ?_ | refine ⟨rfl, ?_⟩ | refine ⟨by decide, ?_⟩ | refine ⟨trivial, ?_⟩ | refine ⟨⟨_, rfl, rfl⟩, ?_⟩ | refine ⟨⟨rfl, trivial⟩, ?_⟩ | refine ⟨⟨rfl, rfl, trivial⟩, ?_⟩
                conv => whnf
                refine @bool_rec _ _ _ ?_ ?_ <;> intro k2
                · have k2 : 2 < t.kind := of_decide_eq_true k2
                  have hP := all8_ok b made t.kids (by omega) mft tft'.len
                  have eo : okS l made t = (decide (t ∈ l) || decide (t.kind = 1) || allR made t.kids) := by unfold okS allR; rw [if_neg k9, decide_eq_true k2, Bool.true_and]
                  obtain ⟨v1, e1⟩ : ∃ v, v = allR made t.kids := ⟨_, rfl⟩
                  rw [← e1] at hP eo
                  rw [← eok0, decide_eq_false k1] at eo
                  cases v1 with
                  | true =>
                    repeat (conv => whnf); first | refine IndepAnd (by kernel_rfl) ?_ | refine ⟨rfl, ?_⟩ | refine ⟨by decide, ?_⟩ | refine ⟨trivial, ?_⟩ | refine ⟨⟨_, rfl, rfl⟩, ?_⟩ | refine ⟨⟨rfl, trivial⟩, ?_⟩ | refine ⟨⟨rfl, rfl, trivial⟩, ?_⟩
                    conv => whnf
                    refine ⟨_, CallVC.pr hP rfl rfl, ?_⟩
                    repeat (conv => whnf); first | refine IndepAnd (by kernel_rfl) ?_ | refine ⟨rfl, ?_⟩ | refine ⟨by decide, ?_⟩ | refine ⟨trivial, ?_⟩ | refine ⟨⟨_, rfl, rfl⟩, ?_⟩ | refine ⟨⟨rfl, trivial⟩, ?_⟩ | refine ⟨⟨rfl, rfl, trivial⟩, ?_⟩
                    conv => whnf
                    refine ⟨_, CallVC.pr hD rfl rfl, ?_⟩
                    repeat (conv => whnf); first | refine IndepAnd (by kernel_rfl) ?_ | refine ⟨rfl, ?_⟩ | refine ⟨by decide, ?_⟩ | refine ⟨trivial, ?_⟩ | refine ⟨⟨_, rfl, rfl⟩, ?_⟩ | refine ⟨⟨rfl, trivial⟩, ?_⟩ | refine ⟨⟨rfl, rfl, trivial⟩, ?_⟩
                    conv => whnf
                    have eN := okT (by rw [eo]; rfl)
                    rw [hdv]
                    repeat (conv => whnf); first | refine IndepAnd (by kernel_rfl) ?_ | refine ⟨rfl, ?_⟩ | refine ⟨by decide, ?_⟩ | refine ⟨trivial, ?_⟩ | refine ⟨⟨_, rfl, rfl⟩, ?_⟩ | refine ⟨⟨rfl, trivial⟩, ?_⟩ | refine ⟨⟨rfl, rfl, trivial⟩, ?_⟩
                    conv => whnf
                    refine ⟨_, CallVC.pr hW rfl rfl, ?_⟩
                    repeat (conv => whnf); first | refine IndepAnd (by kernel_rfl) ?_ | refine ⟨rfl, ?_⟩ | refine ⟨by decide, ?_⟩ | refine ⟨trivial, ?_⟩ | refine ⟨⟨_, rfl, rfl⟩, ?_⟩ | refine ⟨⟨rfl, trivial⟩, ?_⟩ | refine ⟨⟨rfl, rfl, trivial⟩, ?_⟩
                    conv => whnf
                    refine ⟨_, wrapN (n := i + 1) rfl (by omega), ?_⟩
                    repeat (conv => whnf); first | refine IndepAnd (by kernel_rfl) ?_ | refine ⟨rfl, ?_⟩ | refine ⟨by decide, ?_⟩ | refine ⟨trivial, ?_⟩ | refine ⟨⟨_, rfl, rfl⟩, ?_⟩ | refine ⟨⟨rfl, trivial⟩, ?_⟩ | refine ⟨⟨rfl, rfl, trivial⟩, ?_⟩
                    conv => whnf
                    refine ⟨⟨i + 1, hlt⟩, ?_, by show todo.length - (i + 1) < todo.length - i; omega⟩
                    refine Ge.of rfl ?_ ?_
                    · repeat (conv => whnf); first | refine ⟨LE.of rfl, ?_⟩ | refine ⟨LE.of (congrArg (fun l => SV.p (PV.lst (tmvs l))) eN.symm), ?_⟩
                      trivial
                    · repeat (conv => whnf); refine ⟨OLE.of rfl, ?_⟩
                      trivial
                  | false =>
                    repeat (conv => whnf); first | refine IndepAnd (by kernel_rfl) ?_ | refine ⟨rfl, ?_⟩ | refine ⟨by decide, ?_⟩ | refine ⟨trivial, ?_⟩ | refine ⟨⟨_, rfl, rfl⟩, ?_⟩ | refine ⟨⟨rfl, trivial⟩, ?_⟩ | refine ⟨⟨rfl, rfl, trivial⟩, ?_⟩
                    conv => whnf
                    refine ⟨_, CallVC.pr hP rfl rfl, ?_⟩
                    repeat (conv => whnf); first | refine IndepAnd (by kernel_rfl) ?_ | refine ⟨rfl, ?_⟩ | refine ⟨by decide, ?_⟩ | refine ⟨trivial, ?_⟩ | refine ⟨⟨_, rfl, rfl⟩, ?_⟩ | refine ⟨⟨rfl, trivial⟩, ?_⟩ | refine ⟨⟨rfl, rfl, trivial⟩, ?_⟩
                    conv => whnf
                    refine ⟨_, CallVC.pr hD rfl rfl, ?_⟩
                    repeat (conv => whnf); first | refine IndepAnd (by kernel_rfl) ?_ | refine ⟨rfl, ?_⟩ | refine ⟨by decide, ?_⟩ | refine ⟨trivial, ?_⟩ | refine ⟨⟨_, rfl, rfl⟩, ?_⟩ | refine ⟨⟨rfl, trivial⟩, ?_⟩ | refine ⟨⟨rfl, rfl, trivial⟩, ?_⟩
                    conv => whnf
                    have eN := okF (by rw [eo]; rfl)
                    refine ⟨_, wrapN (n := i + 1) rfl (by omega), ?_⟩
                    repeat (conv => whnf); first | refine IndepAnd (by kernel_rfl) ?_ | refine ⟨rfl, ?_⟩ | refine ⟨by decide, ?_⟩ | refine ⟨trivial, ?_⟩ | refine ⟨⟨_, rfl, rfl⟩, ?_⟩ | refine ⟨⟨rfl, trivial⟩, ?_⟩ | refine ⟨⟨rfl, rfl, trivial⟩, ?_⟩
                    conv => whnf
                    refine ⟨⟨i + 1, hlt⟩, ?_, by show todo.length - (i + 1) < todo.length - i; omega⟩
                    refine Ge.of rfl ?_ ?_
                    · repeat (conv => whnf); first | refine ⟨LE.of rfl, ?_⟩ | refine ⟨LE.of (congrArg (fun l => SV.p (PV.lst (tmvs l))) eN.symm), ?_⟩
                      trivial
                    · repeat (conv => whnf); refine ⟨OLE.of rfl, ?_⟩
                      trivial
                · have k2 : ¬ 2 < t.kind := of_decide_eq_false k2
                  repeat (conv => whnf); first | refine IndepAnd (by kernel_rfl) ?_ | refine ⟨rfl, ?_⟩ | refine ⟨by decide, ?_⟩ | refine ⟨trivial, ?_⟩ | refine ⟨⟨_, rfl, rfl⟩, ?_⟩ | refine ⟨⟨rfl, trivial⟩, ?_⟩ | refine ⟨⟨rfl, rfl, trivial⟩, ?_⟩
                  conv => whnf
                  refine ⟨_, CallVC.pr hD rfl rfl, ?_⟩
                  repeat (conv => whnf); first | refine IndepAnd (by kernel_rfl) ?_ | refine ⟨rfl, ?_⟩ | refine ⟨by decide, ?_⟩ | refine ⟨trivial, ?_⟩ | refine ⟨⟨_, rfl, rfl⟩, ?_⟩ | refine ⟨⟨rfl, trivial⟩, ?_⟩ | refine ⟨⟨rfl, rfl, trivial⟩, ?_⟩
                  conv => whnf
                  have eN := okF (by unfold okS; rw [← eok0, decide_eq_false k1, if_neg k9, decide_eq_false k2]; rfl)
                  refine ⟨_, wrapN (n := i + 1) rfl (by omega), ?_⟩
                  repeat (conv => whnf); first | refine IndepAnd (by kernel_rfl) ?_ | refine ⟨rfl, ?_⟩ | refine ⟨by decide, ?_⟩ | refine ⟨trivial, ?_⟩ | refine ⟨⟨_, rfl, rfl⟩, ?_⟩ | refine ⟨⟨rfl, trivial⟩, ?_⟩ | refine ⟨⟨rfl, rfl, trivial⟩, ?_⟩
                  conv => whnf
                  refine ⟨⟨i + 1, hlt⟩, ?_, by show todo.length - (i + 1) < todo.length - i; omega⟩
                  refine Ge.of rfl ?_ ?_
                  · repeat (conv => whnf); first | refine ⟨LE.of rfl, ?_⟩ | refine ⟨LE.of (congrArg (fun l => SV.p (PV.lst (tmvs l))) eN.symm), ?_⟩
                    trivial
                  · repeat (conv => whnf); refine ⟨OLE.of rfl, ?_⟩
                    trivial
        · have hge : mdR l (todo.take i) M = mdI l todo (j + 1) := by
            rw [List.take_of_length_le (by have := of_decide_eq_false h5; rw [tmvs_length] at this; have h6 : ¬ ((i : Int) < todo.length) := this; omega), eN]
          repeat (conv => whnf); first | refine IndepAnd (by kernel_rfl) ?_ | refine ⟨rfl, ?_⟩ | refine ⟨by decide, ?_⟩ | refine ⟨trivial, ?_⟩ | refine ⟨⟨_, rfl, rfl⟩, ?_⟩ | refine ⟨⟨rfl, trivial⟩, ?_⟩ | refine ⟨⟨rfl, rfl, trivial⟩, ?_⟩
          conv => whnf
          refine ⟨⟨j + 1, hj1⟩, ?_, by show todo.length + 2 - (j + 1) < todo.length + 2 - j; omega⟩
          refine Ge.of rfl ?_ ?_
          · repeat (conv => whnf); first | refine ⟨LE.of rfl, ?_⟩ | refine ⟨LE.of (congrArg (fun l => SV.p (PV.lst (tmvs l))) hge), ?_⟩ | refine ⟨LE.of (congrArg (fun M : List Tm => iv (M.length : Int)) eM), ?_⟩
            trivial
          · repeat (conv => whnf); refine ⟨OLE.of rfl, ?_⟩
            trivial
      · have h4 : ¬ nI l todo j.1 < ((mdI l todo j.1).length : Int) := by have := of_decide_eq_false h4; rw [tmvs_length] at this; exact this
        obtain ⟨j, hj⟩ := j
        cases j with
        | zero => exact absurd (show (-1 : Int) < ((0 : Nat) : Int) by decide) h4
        | succ j =>
          have h4 : ¬ ((mdI l todo j).length : Int) < ((mdI l todo (j + 1)).length : Int) := h4
          have e := md_end (list := list) (g := goal) (by rw [← eg]; exact hg) (j := j) (by rw [← eg, ← el, ← etodo]; omega)
          rw [← eg, ← el, ← etodo] at e
          have hH := has_ok b (mdI l todo (j + 1)) g (by have := mdI_le l todo (j + 1); omega) (fun u hu => tft u (mdI_sub l todo (j + 1) u hu))
          rw [e] at hH
          repeat (conv => whnf); first | refine IndepAnd (by kernel_rfl) ?_ | refine ⟨rfl, ?_⟩ | refine ⟨by decide, ?_⟩ | refine ⟨trivial, ?_⟩ | refine ⟨⟨_, rfl, rfl⟩, ?_⟩ | refine ⟨⟨rfl, trivial⟩, ?_⟩ | refine ⟨⟨rfl, rfl, trivial⟩, ?_⟩
          conv => whnf
          refine ⟨_, CallVC.pr hH rfl rfl, ?_⟩
          repeat (conv => whnf); first | refine IndepAnd (by kernel_rfl) ?_ | refine ⟨rfl, ?_⟩ | refine ⟨by decide, ?_⟩ | refine ⟨trivial, ?_⟩ | refine ⟨⟨_, rfl, rfl⟩, ?_⟩ | refine ⟨⟨rfl, trivial⟩, ?_⟩ | refine ⟨⟨rfl, rfl, trivial⟩, ?_⟩
          conv => whnf
          exact LEP.refl _
end Go.Sl
