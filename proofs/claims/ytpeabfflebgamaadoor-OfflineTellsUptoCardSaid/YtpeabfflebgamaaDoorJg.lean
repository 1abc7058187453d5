/- Contracts of the document's answer for layer 8: Made. -/
import Derived.Test.YtpeabfflebgamaaDoorJf
set_option linter.unusedVariables false
set_option linter.unusedSimpArgs false
/- short -/
namespace Go.Sl
open Go Go.Vc Go.Proofs Go.RowKit

theorem todo_fit {g : Tm} (hf : Fit g) {u : Tm} (h : u ∈ todoR g) : Fit u := by
  have hp : ∀ {t x : Tm}, t ∈ inT g → x ∈ t.kids → Fit (pubT x) := fun {t x} ht hx => .one 8 (by simp) (((hf.inT t ht)).kid hx)
  rcases todo_mem.1 h with h | ⟨t, ht, _, x, y, e, rfl | rfl⟩
  · exact hf.inT u h
  · exact hp ht (by rw [e]; simp)
  · exact hp ht (by rw [e]; simp)
theorem shPs_fit {g : Tm} (hf : Fit g) (i : Nat) : ∀ u ∈ ((subR g []).take i).foldl shP (subR g []), Fit u := fun u hu => by
  refine todo_fit hf (g := g) ?_
  rw [shPs_mem] at hu
  unfold todoR
  rw [shPs_mem]
  rcases hu with hu | ⟨t, ht, h⟩
  · exact .inl hu
  · exact .inr ⟨t, List.mem_of_mem_take ht, h⟩
theorem shP_nine {acc : List Tm} {t x y : Tm} (k : t.kind = 9) (e : t.kids = [x, y]) : shP acc t = withT (withT acc (pubT x)) (pubT y) := by
  unfold shP; rw [if_pos k, e]
theorem shP_else {acc : List Tm} {t : Tm} (k : ¬ t.kind = 9) : shP acc t = acc := by
  unfold shP; rw [if_neg k]
/-- How often a list was gone through. -/
def nI (l todo : List Tm) : Nat → Int
  | 0 => -1
  | j + 1 => (mdI l todo j).length
/-- The number of a round, and that it was not the last one. -/
abbrev RdM (l todo : List Tm) : Type := { j : Nat // ∀ i, i + 1 < j → (mdI l todo i).length < (mdI l todo (i + 1)).length }
theorem RdM.ge {l todo : List Tm} (j : RdM l todo) : j.1 ≤ (mdI l todo (j.1 - 1)).length + 1 := by
  obtain ⟨j, h⟩ := j
  have key : ∀ i, i < j → i ≤ (mdI l todo i).length := by
    intro i
    induction i with
    | zero => intro _; exact Nat.zero_le _
    | succ i ih => intro hi; have := ih (by omega); have := h i (by omega); omega
  show j ≤ (mdI l todo (j - 1)).length + 1
  cases j with
  | zero => omega
  | succ j => have := key j (by omega); show j + 1 ≤ (mdI l todo j).length + 1; omega
theorem RdM.le {l todo : List Tm} (j : RdM l todo) : j.1 ≤ todo.length + 1 := by
  have := j.ge
  have := mdI_le l todo (j.1 - 1)
  omega
set_option maxHeartbeats 1000000 in
theorem made8_ok (b : Bool) (list : List Tm) (goal : Tm) (h : Okl list) (hf : Fit goal) (hw : wt goal ≤ 1000000000) (hs : goal.size ≤ 10000) : K b 13 [lv list, tv goal] (.pv (.bool (mdT list goal))) := by
  obtain ⟨g, eg⟩ : ∃ g, g = canT goal := ⟨_, rfl⟩
  obtain ⟨l, el⟩ : ∃ l, l = frR list := ⟨_, rfl⟩
  have hF := frame8_ok b list h
  have hC := canon07_ok b goal hf hw
  have hl := h.fr
  have gf := can_fit goal hf
  have gw : wt (canT goal) ≤ 1000000000 := by rw [can_wt]; exact hw
  have gs : (canT goal).size ≤ 10000 := by rw [can_size]; exact hs
  rw [← el] at hF hl
  rw [← eg] at hC gf gw gs
  have hR := Right07_ok b g gf gw
  refine PC_of_vc (cx_ok b) (mixed b) {} Tryd.func13 (by kernel_rfl) rfl rfl (by kernel_rfl) ?_
  repeat (conv => whnf); first|refine IndepAnd (by kernel_rfl) ?_|refine ⟨rfl,?_⟩|refine And.intro (by first|decide|exact trivial|exact ⟨_,rfl,rfl⟩|exact ⟨rfl,trivial⟩|exact ⟨rfl,rfl,trivial⟩) ?_
  conv => whnf
  refine ⟨_, CallVC.pr hF rfl rfl, ?_⟩
  repeat (conv => whnf); first|refine IndepAnd (by kernel_rfl) ?_|refine ⟨rfl,?_⟩|refine And.intro (by first|decide|exact trivial|exact ⟨_,rfl,rfl⟩|exact ⟨rfl,trivial⟩|exact ⟨rfl,rfl,trivial⟩) ?_
  conv => whnf
  refine ⟨_, CallVC.pr hC rfl rfl, ?_⟩
  repeat (conv => whnf); first|refine IndepAnd (by kernel_rfl) ?_|refine ⟨rfl,?_⟩|refine And.intro (by first|decide|exact trivial|exact ⟨_,rfl,rfl⟩|exact ⟨rfl,trivial⟩|exact ⟨rfl,rfl,trivial⟩) ?_
  conv => whnf
  refine ⟨_, CallVC.pr hR rfl rfl, ?_⟩
  repeat (conv => whnf); first|refine IndepAnd (by kernel_rfl) ?_|refine ⟨rfl,?_⟩|refine And.intro (by first|decide|exact trivial|exact ⟨_,rfl,rfl⟩|exact ⟨rfl,trivial⟩|exact ⟨rfl,rfl,trivial⟩) ?_
  conv => whnf
  refine @bool_rec _ _ _ ?_ ?_ <;> intro h1
  · have h1 : rightT g = false := by have h1 : (!rightT g) = true := h1; simpa using h1
    have e := md_no (list := list) (g := goal) (by rw [← eg]; exact h1)
    rw [e]
    repeat (conv => whnf); first|refine IndepAnd (by kernel_rfl) ?_|refine ⟨rfl,?_⟩|refine And.intro (by first|decide|exact trivial|exact ⟨_,rfl,rfl⟩|exact ⟨rfl,trivial⟩|exact ⟨rfl,rfl,trivial⟩) ?_
    conv => whnf
    exact LEP.refl _
  · have h1 : rightT g = true := by have h1 : (!rightT g) = false := h1; simpa using h1
    have hg : gdT g := gd_right h1
    obtain ⟨sub, esub⟩ : ∃ sub, sub = subR g [] := ⟨_, rfl⟩
    obtain ⟨todo, etodo⟩ : ∃ todo, todo = todoR g := ⟨_, rfl⟩
    have hS := subs_ok b g gf (by omega)
    rw [← esub] at hS
    have hsl : sub.length ≤ 10000 := by have := subR0_len g; rw [esub]; omega
    have htl : todo.length ≤ 30000 := by have := todo_len g; rw [etodo]; omega
    have sgd : ∀ u ∈ sub, gdT u := fun u hu => by rw [esub, mem_subR] at hu; exact in_gd hg u (hu.elim (fun h => by cases h) id)
    have sft : ∀ u ∈ sub, Fit u := fun u hu => by rw [esub, mem_subR] at hu; exact gf.inT u (hu.elim (fun h => by cases h) id)
    have tgd : ∀ u ∈ todo, gdT u := fun u hu => todo_gd hg (by rw [← etodo]; exact hu)
    have tft : ∀ u ∈ todo, Fit u := fun u hu => todo_fit gf (by rw [← etodo]; exact hu)
    repeat (conv => whnf); first|refine IndepAnd (by kernel_rfl) ?_|refine ⟨rfl,?_⟩|refine And.intro (by first|decide|exact trivial|exact ⟨_,rfl,rfl⟩|exact ⟨rfl,trivial⟩|exact ⟨rfl,rfl,trivial⟩) ?_
    conv => whnf
    refine ⟨_, CallVC.pr hS rfl rfl, ?_⟩
    repeat (conv => whnf); first|refine IndepAnd (by kernel_rfl) ?_|refine ⟨rfl,?_⟩|refine And.intro (by first|decide|exact trivial|exact ⟨_,rfl,rfl⟩|exact ⟨rfl,trivial⟩|exact ⟨rfl,rfl,trivial⟩) ?_
    conv => whnf
    refine ⟨{ i : Nat // i ≤ sub.length }, fun i => S.of [(3, .ptr 3 0), (4, .p (.bool false)), (5, lv l), (7, lv sub), (8, lv ((sub.take i.1).foldl shP sub)), (9, iv i.1)] [(3, .var true 24 (tv g))], fun i => sub.length - i.1, ⟨0, Nat.zero_le _⟩, ?_, ?_⟩
    · refine Ge.of rfl ?_ ?_
      · repeat (conv => whnf); refine ⟨LE.of rfl, ?_⟩
        trivial
      · repeat (conv => whnf); refine ⟨OLE.of rfl, ?_⟩
        trivial
    rintro ⟨i, hi⟩
    repeat (conv => whnf); first|refine IndepAnd (by kernel_rfl) ?_|refine ⟨rfl,?_⟩|refine And.intro (by first|decide|exact trivial|exact ⟨_,rfl,rfl⟩|exact ⟨rfl,trivial⟩|exact ⟨rfl,rfl,trivial⟩) ?_
    conv => whnf
    refine @bool_rec _ _ _ ?_ ?_ <;> intro h2
    · have hlt : i < sub.length := by have := of_decide_eq_true h2; rw [tmvs_length] at this; exact Int.ofNat_lt.1 this
      have hm := List.getElem_mem hlt
      have et := shPs_take sub sub hlt
      have hfl := shPs_len (sub.take i) sub
      have htk : (sub.take i).length ≤ sub.length := by rw [List.length_take]; omega
      have hft : ∀ u ∈ (sub.take i).foldl shP sub, Fit u := by rw [esub]; exact shPs_fit gf i
      obtain ⟨acc, eacc⟩ : ∃ acc, acc = (sub.take i).foldl shP sub := ⟨_, rfl⟩
      rw [← eacc] at et hfl hft
      show vc _ _ _ _ _
      rw [← eacc]
      repeat (conv => whnf); first|refine IndepAnd (by kernel_rfl) ?_|refine ⟨rfl,?_⟩|refine And.intro (by first|decide|exact trivial|exact ⟨_,rfl,rfl⟩|exact ⟨rfl,trivial⟩|exact ⟨rfl,rfl,trivial⟩) ?_
      conv => whnf
      refine ⟨Int.natCast_nonneg _, TV sub[i], tmvs_getN hlt, rfl, rfl, ?_⟩
      repeat (conv => whnf); first|refine IndepAnd (by kernel_rfl) ?_|refine ⟨rfl,?_⟩|refine And.intro (by first|decide|exact trivial|exact ⟨_,rfl,rfl⟩|exact ⟨rfl,trivial⟩|exact ⟨rfl,rfl,trivial⟩) ?_
      conv => whnf
      refine @bool_rec _ _ _ ?_ ?_ <;> intro h3
      · have h3 : sub[i].kind = 9 := of_decide_eq_true h3
        obtain ⟨x, y, e⟩ := kids2 (sgd _ hm) (.inr (.inr (.inl h3)))
        have hx : x ∈ sub[i].kids := by rw [e]; simp
        have hy : y ∈ sub[i].kids := by rw [e]; simp
        have fi : Fit sub[i] := sft _ hm
        have fx := fi.kid hx
        have fy := fi.kid hy
        have hwl := with_len acc (pubT x)
        rw [shP_nine h3 e] at et
        have ek : tmvs sub[i].kids = [TV x, TV y] := by rw [e]; exact (tmvs2 x y).symm
        repeat (conv => whnf); first|refine IndepAnd (by kernel_rfl) ?_|refine ⟨rfl,?_⟩|refine And.intro (by first|decide|exact trivial|exact ⟨_,rfl,rfl⟩|exact ⟨rfl,trivial⟩|exact ⟨rfl,rfl,trivial⟩) ?_
        conv => whnf
        refine ⟨Int.natCast_nonneg _, TV sub[i], tmvs_getN hlt, rfl, rfl, ?_⟩
        repeat (conv => whnf); first|refine IndepAnd (by kernel_rfl) ?_|refine ⟨rfl,?_⟩|refine And.intro (by first|decide|exact trivial|exact ⟨_,rfl,rfl⟩|exact ⟨rfl,trivial⟩|exact ⟨rfl,rfl,trivial⟩) ?_
        conv => whnf
        refine ⟨TV x, by show (tmvs sub[i].kids)[0]? = _; rw [ek]; rfl, rfl, rfl, ?_⟩
        repeat (conv => whnf); first|refine IndepAnd (by kernel_rfl) ?_|refine ⟨rfl,?_⟩|refine And.intro (by first|decide|exact trivial|exact ⟨_,rfl,rfl⟩|exact ⟨rfl,trivial⟩|exact ⟨rfl,rfl,trivial⟩) ?_
        conv => whnf
        refine ⟨_, CallVC.pr (pub8_ok b x) rfl rfl, ?_⟩
        repeat (conv => whnf); first|refine IndepAnd (by kernel_rfl) ?_|refine ⟨rfl,?_⟩|refine And.intro (by first|decide|exact trivial|exact ⟨_,rfl,rfl⟩|exact ⟨rfl,trivial⟩|exact ⟨rfl,rfl,trivial⟩) ?_
        conv => whnf
        refine ⟨_, CallVC.pr (with_ok b acc (pubT x) (by omega) hft) rfl rfl, ?_⟩
        repeat (conv => whnf); first|refine IndepAnd (by kernel_rfl) ?_|refine ⟨rfl,?_⟩|refine And.intro (by first|decide|exact trivial|exact ⟨_,rfl,rfl⟩|exact ⟨rfl,trivial⟩|exact ⟨rfl,rfl,trivial⟩) ?_
        conv => whnf
        refine ⟨Int.natCast_nonneg _, TV sub[i], tmvs_getN hlt, rfl, rfl, ?_⟩
        repeat (conv => whnf); first|refine IndepAnd (by kernel_rfl) ?_|refine ⟨rfl,?_⟩|refine And.intro (by first|decide|exact trivial|exact ⟨_,rfl,rfl⟩|exact ⟨rfl,trivial⟩|exact ⟨rfl,rfl,trivial⟩) ?_
        conv => whnf
        refine ⟨TV y, by show (tmvs sub[i].kids)[1]? = _; rw [ek]; rfl, rfl, rfl, ?_⟩
        repeat (conv => whnf); first|refine IndepAnd (by kernel_rfl) ?_|refine ⟨rfl,?_⟩|refine And.intro (by first|decide|exact trivial|exact ⟨_,rfl,rfl⟩|exact ⟨rfl,trivial⟩|exact ⟨rfl,rfl,trivial⟩) ?_
        conv => whnf
        refine ⟨_, CallVC.pr (pub8_ok b y) rfl rfl, ?_⟩
        repeat (conv => whnf); first|refine IndepAnd (by kernel_rfl) ?_|refine ⟨rfl,?_⟩|refine And.intro (by first|decide|exact trivial|exact ⟨_,rfl,rfl⟩|exact ⟨rfl,trivial⟩|exact ⟨rfl,rfl,trivial⟩) ?_
        conv => whnf
        refine ⟨_, CallVC.pr (with_ok b (withT acc (pubT x)) (pubT y) (by omega) (fun u hu => by
          rcases mem_with.1 hu with hu | rfl
          · exact hft u hu
          · exact .one 8 (by simp) fx)) rfl rfl, ?_⟩
        repeat (conv => whnf); first|refine IndepAnd (by kernel_rfl) ?_|refine ⟨rfl,?_⟩|refine And.intro (by first|decide|exact trivial|exact ⟨_,rfl,rfl⟩|exact ⟨rfl,trivial⟩|exact ⟨rfl,rfl,trivial⟩) ?_
        conv => whnf
        refine ⟨_, wrapN (n := i + 1) rfl (by omega), ?_⟩
        repeat (conv => whnf); first|refine IndepAnd (by kernel_rfl) ?_|refine ⟨rfl,?_⟩|refine And.intro (by first|decide|exact trivial|exact ⟨_,rfl,rfl⟩|exact ⟨rfl,trivial⟩|exact ⟨rfl,rfl,trivial⟩) ?_
        conv => whnf
        refine ⟨⟨i + 1, hlt⟩, ?_, by show sub.length - (i + 1) < sub.length - i; omega⟩
        refine Ge.of rfl ?_ ?_
        · repeat (conv => whnf); first | refine ⟨LE.of rfl, ?_⟩ | refine ⟨LE.of (congrArg (fun l => SV.p (PV.lst (tmvs l))) et.symm), ?_⟩
          trivial
        · repeat (conv => whnf); refine ⟨OLE.of rfl, ?_⟩
          trivial
      · have h3 : ¬ sub[i].kind = 9 := of_decide_eq_false h3
        rw [shP_else h3, eacc] at et
        repeat (conv => whnf); first|refine IndepAnd (by kernel_rfl) ?_|refine ⟨rfl,?_⟩|refine And.intro (by first|decide|exact trivial|exact ⟨_,rfl,rfl⟩|exact ⟨rfl,trivial⟩|exact ⟨rfl,rfl,trivial⟩) ?_
        conv => whnf
        refine ⟨_, wrapN (n := i + 1) rfl (by omega), ?_⟩
        repeat (conv => whnf); first|refine IndepAnd (by kernel_rfl) ?_|refine ⟨rfl,?_⟩|refine And.intro (by first|decide|exact trivial|exact ⟨_,rfl,rfl⟩|exact ⟨rfl,trivial⟩|exact ⟨rfl,rfl,trivial⟩) ?_
        conv => whnf
        refine ⟨⟨i + 1, hlt⟩, ?_, by show sub.length - (i + 1) < sub.length - i; omega⟩
        refine Ge.of rfl ?_ ?_
        · repeat (conv => whnf); first | refine ⟨LE.of rfl, ?_⟩ | refine ⟨LE.of (congrArg (fun l => SV.p (PV.lst (tmvs l))) (eacc.trans et.symm)), ?_⟩
          trivial
        · repeat (conv => whnf); refine ⟨OLE.of rfl, ?_⟩
          trivial
    · have hge : (sub.take i).foldl shP sub = todo := by
        rw [List.take_of_length_le (by have := of_decide_eq_false h2; rw [tmvs_length] at this; have h5 : ¬ ((i : Int) < sub.length) := this; omega), etodo, esub]
        rfl
      show vc _ _ _ _ _
      rw [hge]
      repeat (conv => whnf); first|refine IndepAnd (by kernel_rfl) ?_|refine ⟨rfl,?_⟩|refine And.intro (by first|decide|exact trivial|exact ⟨_,rfl,rfl⟩|exact ⟨rfl,trivial⟩|exact ⟨rfl,rfl,trivial⟩) ?_
      conv => whnf
      refine ⟨RdM l todo, fun j => S.of [(3, .ptr 3 0), (4, .p (.bool false)), (5, lv l), (8, lv todo), (10, lv (mdI l todo j.1)), (11, iv (nI l todo j.1))] [(3, .var true 24 (tv g))], fun j => todo.length + 2 - j.1, ⟨0, fun i hi => absurd hi (by omega)⟩, ?_, ?_⟩
      · refine Ge.of rfl ?_ ?_
        · repeat (conv => whnf); refine ⟨LE.of rfl, ?_⟩
          trivial
        · repeat (conv => whnf); refine ⟨OLE.of rfl, ?_⟩
          trivial
      intro j
      repeat (conv => whnf); first|refine IndepAnd (by kernel_rfl) ?_|refine ⟨rfl,?_⟩|refine And.intro (by first|decide|exact trivial|exact ⟨_,rfl,rfl⟩|exact ⟨rfl,trivial⟩|exact ⟨rfl,rfl,trivial⟩) ?_
      conv => whnf
      -- rounds
      refine @bool_rec _ _ _ ?_ ?_ <;> intro h4
      · have h4 : nI l todo j.1 < ((mdI l todo j.1).length : Int) := by have := of_decide_eq_true h4; rw [tmvs_length] at this; exact this
        obtain ⟨j, hj⟩ := j
        obtain ⟨M, eM⟩ : ∃ M, M = mdI l todo j := ⟨_, rfl⟩
        have hMl : M.length ≤ 30000 := by rw [eM]; have := mdI_le l todo j; omega
        have hMf : ∀ u ∈ M, Fit u := fun u hu => tft u (by rw [eM] at hu; exact mdI_sub l todo j u hu)
        have eN : mdI l todo (j + 1) = mdR l todo M := by rw [eM]; rfl
        have hj1 : ∀ i, i + 1 < j + 1 → (mdI l todo i).length < (mdI l todo (i + 1)).length := fun i hi => by
          by_cases hc : i + 1 < j
          · exact hj i hc
          · have hij : j = i + 1 := by omega
            subst hij
            exact Int.ofNat_lt.1 h4
        have hjle := RdM.le ⟨j + 1, hj1⟩
        have hjle : j + 1 ≤ todo.length + 1 := hjle
        show vc _ _ _ _ _
        simp only [← eM]
        repeat (conv => whnf); first|refine IndepAnd (by kernel_rfl) ?_|refine ⟨rfl,?_⟩|refine And.intro (by first|decide|exact trivial|exact ⟨_,rfl,rfl⟩|exact ⟨rfl,trivial⟩|exact ⟨rfl,rfl,trivial⟩) ?_
        conv => whnf
        refine ⟨{ i : Nat // i ≤ todo.length }, fun i => S.of [(3, .ptr 3 0), (4, .p (.bool false)), (5, lv l), (8, lv todo), (10, lv (mdR l (todo.take i.1) M)), (11, iv M.length), (12, iv i.1)] [(3, .var true 24 (tv g))], fun i => todo.length - i.1, ⟨0, Nat.zero_le _⟩, ?_, ?_⟩
        · refine Ge.of rfl ?_ ?_
          · repeat (conv => whnf); first | refine ⟨LE.of rfl, ?_⟩ | refine ⟨LE.of (congrArg (fun n : Nat => SV.p (PV.int .i64 n)) (tmvs_length M)), ?_⟩
            trivial
          · repeat (conv => whnf); refine ⟨OLE.of rfl, ?_⟩
            trivial
        rintro ⟨i, hi⟩
        repeat (conv => whnf); first|refine IndepAnd (by kernel_rfl) ?_|refine ⟨rfl,?_⟩|refine And.intro (by first|decide|exact trivial|exact ⟨_,rfl,rfl⟩|exact ⟨rfl,trivial⟩|exact ⟨rfl,rfl,trivial⟩) ?_
        conv => whnf
        refine @bool_rec _ _ _ ?_ ?_ <;> intro h5
        · have hlt : i < todo.length := by have := of_decide_eq_true h5; rw [tmvs_length] at this; exact Int.ofNat_lt.1 this
          obtain ⟨t, et⟩ : ∃ t, t = todo[i] := ⟨_, rfl⟩
          have hget : (tmvs todo)[i]? = some (TV t) := by rw [et]; exact tmvs_getN hlt
          have hm : t ∈ todo := by rw [et]; exact List.getElem_mem hlt
          have tg := tgd t hm
          have tft' := tft t hm
          have ett := mdR_take (l := l) (made := M) hlt
          have hml := md_len_le l (todo.take i) M
          have htk : (todo.take i).length ≤ todo.length := by rw [List.length_take]; omega
          have mft : ∀ u ∈ mdR l (todo.take i) M, Fit u := fun u hu => (mdR_sub l _ M u hu).elim (hMf u) fun hu => tft u (List.mem_of_mem_take hu)
          obtain ⟨made, emade⟩ : ∃ made, made = mdR l (todo.take i) M := ⟨_, rfl⟩
          rw [← emade] at hml mft ett
          rw [← et] at ett
          have okT : okS l made t = true → mdR l (todo.take (i + 1)) M = withT made t := fun h => by rw [ett, mdS, if_pos h]
          have okF : okS l made t = false → mdR l (todo.take (i + 1)) M = made := fun h => by rw [ett, mdS, if_neg (by rw [h]; decide)]
          have hD := deep07_ok b t tft' 61 (by decide) (by decide)
          have hdv : decide (((depT t 61 : Nat) : Int) ≤ 60) = true := decide_eq_true (by have := (txt_ne.1 tg.1).2; rw [depT]; omega)
          have hW := with_ok b made t (by omega) mft
          have hH := has_ok b l t (by have := hl.len; omega) hl.fit
          obtain ⟨ok0, eok0⟩ : ∃ v, v = decide (t ∈ l) := ⟨_, rfl⟩
          rw [← eok0] at hH
          show vc _ _ _ _ _
          simp only [← emade]
          repeat (conv => whnf); first|refine IndepAnd (by kernel_rfl) ?_|refine ⟨rfl,?_⟩|refine And.intro (by first|decide|exact trivial|exact ⟨_,rfl,rfl⟩|exact ⟨rfl,trivial⟩|exact ⟨rfl,rfl,trivial⟩) ?_
          conv => whnf
          refine ⟨Int.natCast_nonneg _, TV t, hget, rfl, rfl, ?_⟩
          repeat (conv => whnf); first|refine IndepAnd (by kernel_rfl) ?_|refine ⟨rfl,?_⟩|refine And.intro (by first|decide|exact trivial|exact ⟨_,rfl,rfl⟩|exact ⟨rfl,trivial⟩|exact ⟨rfl,rfl,trivial⟩) ?_
          conv => whnf
          refine ⟨_, CallVC.pr hH rfl rfl, ?_⟩
          cases ok0 with
          | true =>
            repeat (conv => whnf); first|refine IndepAnd (by kernel_rfl) ?_|refine ⟨rfl,?_⟩|refine And.intro (by first|decide|exact trivial|exact ⟨_,rfl,rfl⟩|exact ⟨rfl,trivial⟩|exact ⟨rfl,rfl,trivial⟩) ?_
            conv => whnf
            refine @bool_rec _ _ _ ?_ ?_ <;> intro k9
            · have k9 : t.kind = 9 := of_decide_eq_true k9
              obtain ⟨x, y, e⟩ := kids2 tg (.inr (.inr (.inl k9)))
              have hx : x ∈ t.kids := by rw [e]; simp
              have hy : y ∈ t.kids := by rw [e]; simp
              have ek : tmvs t.kids = [TV x, TV y] := by rw [e]; exact (tmvs2 x y).symm
              have hA1 := all8_ok b made [x, pubT y] (by omega) mft (by simp)
              have hA2 := all8_ok b made [y, pubT x] (by omega) mft (by simp)
              rw [show lv [x, pubT y] = .p (.lst [TV x, TV (pubT y)]) from congrArg (fun l => SV.p (.lst l)) (tmvs2 _ _).symm] at hA1
              rw [show lv [y, pubT x] = .p (.lst [TV y, TV (pubT x)]) from congrArg (fun l => SV.p (.lst l)) (tmvs2 _ _).symm] at hA2
              have eo : okS l made t = (decide (t ∈ l) || decide (t.kind = 1) || (allR made [x, pubT y] || allR made [y, pubT x])) := by unfold okS allR; rw [if_pos k9, e]; simp
              obtain ⟨v1, e1⟩ : ∃ v, v = allR made [x, pubT y] := ⟨_, rfl⟩
              obtain ⟨v2, e2⟩ : ∃ v, v = allR made [y, pubT x] := ⟨_, rfl⟩
              rw [← e1] at hA1 eo
              rw [← e2] at hA2 eo
              repeat (conv => whnf); first|refine IndepAnd (by kernel_rfl) ?_|refine ⟨rfl,?_⟩|refine And.intro (by first|decide|exact trivial|exact ⟨_,rfl,rfl⟩|exact ⟨rfl,trivial⟩|exact ⟨rfl,rfl,trivial⟩) ?_
              conv => whnf
              refine ⟨TV x, by show (tmvs t.kids)[0]? = _; rw [ek]; rfl, rfl, rfl, ?_⟩
              repeat (conv => whnf); first|refine IndepAnd (by kernel_rfl) ?_|refine ⟨rfl,?_⟩|refine And.intro (by first|decide|exact trivial|exact ⟨_,rfl,rfl⟩|exact ⟨rfl,trivial⟩|exact ⟨rfl,rfl,trivial⟩) ?_
              conv => whnf
              refine ⟨TV y, by show (tmvs t.kids)[1]? = _; rw [ek]; rfl, rfl, rfl, ?_⟩
              repeat (conv => whnf); first|refine IndepAnd (by kernel_rfl) ?_|refine ⟨rfl,?_⟩|refine And.intro (by first|decide|exact trivial|exact ⟨_,rfl,rfl⟩|exact ⟨rfl,trivial⟩|exact ⟨rfl,rfl,trivial⟩) ?_
              conv => whnf
              refine ⟨_, CallVC.pr (pub8_ok b y) rfl rfl, ?_⟩
              repeat (conv => whnf); first|refine IndepAnd (by kernel_rfl) ?_|refine ⟨rfl,?_⟩|refine And.intro (by first|decide|exact trivial|exact ⟨_,rfl,rfl⟩|exact ⟨rfl,trivial⟩|exact ⟨rfl,rfl,trivial⟩) ?_
              conv => whnf
              refine ⟨_, CallVC.pr hA1 rfl rfl, ?_⟩
              repeat (conv => whnf); first|refine IndepAnd (by kernel_rfl) ?_|refine ⟨rfl,?_⟩|refine And.intro (by first|decide|exact trivial|exact ⟨_,rfl,rfl⟩|exact ⟨rfl,trivial⟩|exact ⟨rfl,rfl,trivial⟩) ?_
              conv => whnf
              refine ⟨TV y, by show (tmvs t.kids)[1]? = _; rw [ek]; rfl, rfl, rfl, ?_⟩
              repeat (conv => whnf); first|refine IndepAnd (by kernel_rfl) ?_|refine ⟨rfl,?_⟩|refine And.intro (by first|decide|exact trivial|exact ⟨_,rfl,rfl⟩|exact ⟨rfl,trivial⟩|exact ⟨rfl,rfl,trivial⟩) ?_
              conv => whnf
              refine ⟨TV x, by show (tmvs t.kids)[0]? = _; rw [ek]; rfl, rfl, rfl, ?_⟩
              repeat (conv => whnf); first|refine IndepAnd (by kernel_rfl) ?_|refine ⟨rfl,?_⟩|refine And.intro (by first|decide|exact trivial|exact ⟨_,rfl,rfl⟩|exact ⟨rfl,trivial⟩|exact ⟨rfl,rfl,trivial⟩) ?_
              conv => whnf
              refine ⟨_, CallVC.pr (pub8_ok b x) rfl rfl, ?_⟩
              repeat (conv => whnf); first|refine IndepAnd (by kernel_rfl) ?_|refine ⟨rfl,?_⟩|refine And.intro (by first|decide|exact trivial|exact ⟨_,rfl,rfl⟩|exact ⟨rfl,trivial⟩|exact ⟨rfl,rfl,trivial⟩) ?_
              conv => whnf
              refine ⟨_, CallVC.pr hA2 rfl rfl, ?_⟩
              repeat (conv => whnf); first|refine IndepAnd (by kernel_rfl) ?_|refine ⟨rfl,?_⟩|refine And.intro (by first|decide|exact trivial|exact ⟨_,rfl,rfl⟩|exact ⟨rfl,trivial⟩|exact ⟨rfl,rfl,trivial⟩) ?_
              conv => whnf
              refine ⟨_, CallVC.pr hD rfl rfl, ?_⟩
              repeat (conv => whnf); first|refine IndepAnd (by kernel_rfl) ?_|refine ⟨rfl,?_⟩|refine And.intro (by first|decide|exact trivial|exact ⟨_,rfl,rfl⟩|exact ⟨rfl,trivial⟩|exact ⟨rfl,rfl,trivial⟩) ?_
              conv => whnf
              have eN := okT (by rw [eo, ← eok0]; rfl)
              rw [hdv]
              repeat (conv => whnf); first|refine IndepAnd (by kernel_rfl) ?_|refine ⟨rfl,?_⟩|refine And.intro (by first|decide|exact trivial|exact ⟨_,rfl,rfl⟩|exact ⟨rfl,trivial⟩|exact ⟨rfl,rfl,trivial⟩) ?_
              conv => whnf
              refine ⟨_, CallVC.pr hW rfl rfl, ?_⟩
              repeat (conv => whnf); first|refine IndepAnd (by kernel_rfl) ?_|refine ⟨rfl,?_⟩|refine And.intro (by first|decide|exact trivial|exact ⟨_,rfl,rfl⟩|exact ⟨rfl,trivial⟩|exact ⟨rfl,rfl,trivial⟩) ?_
              conv => whnf
              refine ⟨_, wrapN (n := i + 1) rfl (by omega), ?_⟩
              repeat (conv => whnf); first|refine IndepAnd (by kernel_rfl) ?_|refine ⟨rfl,?_⟩|refine And.intro (by first|decide|exact trivial|exact ⟨_,rfl,rfl⟩|exact ⟨rfl,trivial⟩|exact ⟨rfl,rfl,trivial⟩) ?_
              conv => whnf
              refine ⟨⟨i + 1, hlt⟩, ?_, by show todo.length - (i + 1) < todo.length - i; omega⟩
              refine Ge.of rfl ?_ ?_
              · repeat (conv => whnf); first | refine ⟨LE.of rfl, ?_⟩ | refine ⟨LE.of (congrArg (fun l => SV.p (PV.lst (tmvs l))) eN.symm), ?_⟩
                trivial
              · repeat (conv => whnf); refine ⟨OLE.of rfl, ?_⟩
                trivial
            · have k9 : ¬ t.kind = 9 := of_decide_eq_false k9
              repeat (conv => whnf); first|refine IndepAnd (by kernel_rfl) ?_|refine ⟨rfl,?_⟩|refine And.intro (by first|decide|exact trivial|exact ⟨_,rfl,rfl⟩|exact ⟨rfl,trivial⟩|exact ⟨rfl,rfl,trivial⟩) ?_
              conv => whnf
              refine @bool_rec _ _ _ ?_ ?_ <;> intro k2
              · have k2 : 2 < t.kind := of_decide_eq_true k2
                have hP := all8_ok b made t.kids (by omega) mft tft'.len
                have eo : okS l made t = (decide (t ∈ l) || decide (t.kind = 1) || allR made t.kids) := by unfold okS allR; rw [if_neg k9, decide_eq_true k2, Bool.true_and]
                obtain ⟨v1, e1⟩ : ∃ v, v = allR made t.kids := ⟨_, rfl⟩
                rw [← e1] at hP eo
                repeat (conv => whnf); first|refine IndepAnd (by kernel_rfl) ?_|refine ⟨rfl,?_⟩|refine And.intro (by first|decide|exact trivial|exact ⟨_,rfl,rfl⟩|exact ⟨rfl,trivial⟩|exact ⟨rfl,rfl,trivial⟩) ?_
                conv => whnf
                refine ⟨_, CallVC.pr hP rfl rfl, ?_⟩
                repeat (conv => whnf); first|refine IndepAnd (by kernel_rfl) ?_|refine ⟨rfl,?_⟩|refine And.intro (by first|decide|exact trivial|exact ⟨_,rfl,rfl⟩|exact ⟨rfl,trivial⟩|exact ⟨rfl,rfl,trivial⟩) ?_
                conv => whnf
                refine ⟨_, CallVC.pr hD rfl rfl, ?_⟩
                repeat (conv => whnf); first|refine IndepAnd (by kernel_rfl) ?_|refine ⟨rfl,?_⟩|refine And.intro (by first|decide|exact trivial|exact ⟨_,rfl,rfl⟩|exact ⟨rfl,trivial⟩|exact ⟨rfl,rfl,trivial⟩) ?_
                conv => whnf
                have eN := okT (by rw [eo, ← eok0]; rfl)
                rw [hdv]
                repeat (conv => whnf); first|refine IndepAnd (by kernel_rfl) ?_|refine ⟨rfl,?_⟩|refine And.intro (by first|decide|exact trivial|exact ⟨_,rfl,rfl⟩|exact ⟨rfl,trivial⟩|exact ⟨rfl,rfl,trivial⟩) ?_
                conv => whnf
                refine ⟨_, CallVC.pr hW rfl rfl, ?_⟩
                repeat (conv => whnf); first|refine IndepAnd (by kernel_rfl) ?_|refine ⟨rfl,?_⟩|refine And.intro (by first|decide|exact trivial|exact ⟨_,rfl,rfl⟩|exact ⟨rfl,trivial⟩|exact ⟨rfl,rfl,trivial⟩) ?_
                conv => whnf
                refine ⟨_, wrapN (n := i + 1) rfl (by omega), ?_⟩
                repeat (conv => whnf); first|refine IndepAnd (by kernel_rfl) ?_|refine ⟨rfl,?_⟩|refine And.intro (by first|decide|exact trivial|exact ⟨_,rfl,rfl⟩|exact ⟨rfl,trivial⟩|exact ⟨rfl,rfl,trivial⟩) ?_
                conv => whnf
                refine ⟨⟨i + 1, hlt⟩, ?_, by show todo.length - (i + 1) < todo.length - i; omega⟩
                refine Ge.of rfl ?_ ?_
                · repeat (conv => whnf); first | refine ⟨LE.of rfl, ?_⟩ | refine ⟨LE.of (congrArg (fun l => SV.p (PV.lst (tmvs l))) eN.symm), ?_⟩
                  trivial
                · repeat (conv => whnf); refine ⟨OLE.of rfl, ?_⟩
                  trivial
              · have k2 : ¬ 2 < t.kind := of_decide_eq_false k2
                repeat (conv => whnf); first|refine IndepAnd (by kernel_rfl) ?_|refine ⟨rfl,?_⟩|refine And.intro (by first|decide|exact trivial|exact ⟨_,rfl,rfl⟩|exact ⟨rfl,trivial⟩|exact ⟨rfl,rfl,trivial⟩) ?_
                conv => whnf
                refine ⟨_, CallVC.pr hD rfl rfl, ?_⟩
                repeat (conv => whnf); first|refine IndepAnd (by kernel_rfl) ?_|refine ⟨rfl,?_⟩|refine And.intro (by first|decide|exact trivial|exact ⟨_,rfl,rfl⟩|exact ⟨rfl,trivial⟩|exact ⟨rfl,rfl,trivial⟩) ?_
                conv => whnf
                have eN := okT (by unfold okS; rw [← eok0]; simp)
                rw [hdv]
                repeat (conv => whnf); first|refine IndepAnd (by kernel_rfl) ?_|refine ⟨rfl,?_⟩|refine And.intro (by first|decide|exact trivial|exact ⟨_,rfl,rfl⟩|exact ⟨rfl,trivial⟩|exact ⟨rfl,rfl,trivial⟩) ?_
                conv => whnf
                refine ⟨_, CallVC.pr hW rfl rfl, ?_⟩
                repeat (conv => whnf); first|refine IndepAnd (by kernel_rfl) ?_|refine ⟨rfl,?_⟩|refine And.intro (by first|decide|exact trivial|exact ⟨_,rfl,rfl⟩|exact ⟨rfl,trivial⟩|exact ⟨rfl,rfl,trivial⟩) ?_
                conv => whnf
                refine ⟨_, wrapN (n := i + 1) rfl (by omega), ?_⟩
                repeat (conv => whnf); first|refine IndepAnd (by kernel_rfl) ?_|refine ⟨rfl,?_⟩|refine And.intro (by first|decide|exact trivial|exact ⟨_,rfl,rfl⟩|exact ⟨rfl,trivial⟩|exact ⟨rfl,rfl,trivial⟩) ?_
                conv => whnf
                refine ⟨⟨i + 1, hlt⟩, ?_, by show todo.length - (i + 1) < todo.length - i; omega⟩
                refine Ge.of rfl ?_ ?_
                · repeat (conv => whnf); first | refine ⟨LE.of rfl, ?_⟩ | refine ⟨LE.of (congrArg (fun l => SV.p (PV.lst (tmvs l))) eN.symm), ?_⟩
                  trivial
                · repeat (conv => whnf); refine ⟨OLE.of rfl, ?_⟩
                  trivial
          | false =>
            repeat (conv => whnf); first|refine IndepAnd (by kernel_rfl) ?_|refine ⟨rfl,?_⟩|refine And.intro (by first|decide|exact trivial|exact ⟨_,rfl,rfl⟩|exact ⟨rfl,trivial⟩|exact ⟨rfl,rfl,trivial⟩) ?_
            conv => whnf
            by_cases k1 : t.kind = 1
            · rw [decide_eq_true k1]
              repeat (conv => whnf); first|refine IndepAnd (by kernel_rfl) ?_|refine ⟨rfl,?_⟩|refine And.intro (by first|decide|exact trivial|exact ⟨_,rfl,rfl⟩|exact ⟨rfl,trivial⟩|exact ⟨rfl,rfl,trivial⟩) ?_
              conv => whnf
              refine @bool_rec _ _ _ ?_ ?_ <;> intro k9
              · have k9 : t.kind = 9 := of_decide_eq_true k9
                exact absurd (k1.symm.trans k9) (by decide)
              · have k9 : ¬ t.kind = 9 := of_decide_eq_false k9
                repeat (conv => whnf); first|refine IndepAnd (by kernel_rfl) ?_|refine ⟨rfl,?_⟩|refine And.intro (by first|decide|exact trivial|exact ⟨_,rfl,rfl⟩|exact ⟨rfl,trivial⟩|exact ⟨rfl,rfl,trivial⟩) ?_
                conv => whnf
                refine @bool_rec _ _ _ ?_ ?_ <;> intro k2
                · have k2 : 2 < t.kind := of_decide_eq_true k2
                  exact absurd k2 (by rw [k1]; decide)
                · have k2 : ¬ 2 < t.kind := of_decide_eq_false k2
                  repeat (conv => whnf); first|refine IndepAnd (by kernel_rfl) ?_|refine ⟨rfl,?_⟩|refine And.intro (by first|decide|exact trivial|exact ⟨_,rfl,rfl⟩|exact ⟨rfl,trivial⟩|exact ⟨rfl,rfl,trivial⟩) ?_
                  conv => whnf
                  refine ⟨_, CallVC.pr hD rfl rfl, ?_⟩
                  repeat (conv => whnf); first|refine IndepAnd (by kernel_rfl) ?_|refine ⟨rfl,?_⟩|refine And.intro (by first|decide|exact trivial|exact ⟨_,rfl,rfl⟩|exact ⟨rfl,trivial⟩|exact ⟨rfl,rfl,trivial⟩) ?_
                  conv => whnf
                  have eN := okT (by unfold okS; rw [decide_eq_true k1]; simp)
                  rw [hdv]
                  repeat (conv => whnf); first|refine IndepAnd (by kernel_rfl) ?_|refine ⟨rfl,?_⟩|refine And.intro (by first|decide|exact trivial|exact ⟨_,rfl,rfl⟩|exact ⟨rfl,trivial⟩|exact ⟨rfl,rfl,trivial⟩) ?_
                  conv => whnf
                  refine ⟨_, CallVC.pr hW rfl rfl, ?_⟩
                  repeat (conv => whnf); first|refine IndepAnd (by kernel_rfl) ?_|refine ⟨rfl,?_⟩|refine And.intro (by first|decide|exact trivial|exact ⟨_,rfl,rfl⟩|exact ⟨rfl,trivial⟩|exact ⟨rfl,rfl,trivial⟩) ?_
                  conv => whnf
                  refine ⟨_, wrapN (n := i + 1) rfl (by omega), ?_⟩
                  repeat (conv => whnf); first|refine IndepAnd (by kernel_rfl) ?_|refine ⟨rfl,?_⟩|refine And.intro (by first|decide|exact trivial|exact ⟨_,rfl,rfl⟩|exact ⟨rfl,trivial⟩|exact ⟨rfl,rfl,trivial⟩) ?_
                  conv => whnf
                  refine ⟨⟨i + 1, hlt⟩, ?_, by show todo.length - (i + 1) < todo.length - i; omega⟩
                  refine Ge.of rfl ?_ ?_
                  · repeat (conv => whnf); first | refine ⟨LE.of rfl, ?_⟩ | refine ⟨LE.of (congrArg (fun l => SV.p (PV.lst (tmvs l))) eN.symm), ?_⟩
                    trivial
                  · repeat (conv => whnf); refine ⟨OLE.of rfl, ?_⟩
                    trivial
            · rw [decide_eq_false k1]
              repeat (conv => whnf); first|refine IndepAnd (by kernel_rfl) ?_|refine ⟨rfl,?_⟩|refine And.intro (by first|decide|exact trivial|exact ⟨_,rfl,rfl⟩|exact ⟨rfl,trivial⟩|exact ⟨rfl,rfl,trivial⟩) ?_
              conv => whnf
              refine @bool_rec _ _ _ ?_ ?_ <;> intro k9
              · have k9 : t.kind = 9 := of_decide_eq_true k9
                obtain ⟨x, y, e⟩ := kids2 tg (.inr (.inr (.inl k9)))
                have hx : x ∈ t.kids := by rw [e]; simp
                have hy : y ∈ t.kids := by rw [e]; simp
                have ek : tmvs t.kids = [TV x, TV y] := by rw [e]; exact (tmvs2 x y).symm
                have hA1 := all8_ok b made [x, pubT y] (by omega) mft (by simp)
                have hA2 := all8_ok b made [y, pubT x] (by omega) mft (by simp)
                rw [show lv [x, pubT y] = .p (.lst [TV x, TV (pubT y)]) from congrArg (fun l => SV.p (.lst l)) (tmvs2 _ _).symm] at hA1
                rw [show lv [y, pubT x] = .p (.lst [TV y, TV (pubT x)]) from congrArg (fun l => SV.p (.lst l)) (tmvs2 _ _).symm] at hA2
                have eo : okS l made t = (decide (t ∈ l) || decide (t.kind = 1) || (allR made [x, pubT y] || allR made [y, pubT x])) := by unfold okS allR; rw [if_pos k9, e]; simp
                obtain ⟨v1, e1⟩ : ∃ v, v = allR made [x, pubT y] := ⟨_, rfl⟩
                obtain ⟨v2, e2⟩ : ∃ v, v = allR made [y, pubT x] := ⟨_, rfl⟩
                rw [← e1] at hA1 eo
                rw [← e2] at hA2 eo
                rw [← eok0, decide_eq_false k1] at eo
                cases v1 with
                | true =>
                  repeat (conv => whnf); first|refine IndepAnd (by kernel_rfl) ?_|refine ⟨rfl,?_⟩|refine And.intro (by first|decide|exact trivial|exact ⟨_,rfl,rfl⟩|exact ⟨rfl,trivial⟩|exact ⟨rfl,rfl,trivial⟩) ?_
                  conv => whnf
                  refine ⟨TV x, by show (tmvs t.kids)[0]? = _; rw [ek]; rfl, rfl, rfl, ?_⟩
                  repeat (conv => whnf); first|refine IndepAnd (by kernel_rfl) ?_|refine ⟨rfl,?_⟩|refine And.intro (by first|decide|exact trivial|exact ⟨_,rfl,rfl⟩|exact ⟨rfl,trivial⟩|exact ⟨rfl,rfl,trivial⟩) ?_
                  conv => whnf
                  refine ⟨TV y, by show (tmvs t.kids)[1]? = _; rw [ek]; rfl, rfl, rfl, ?_⟩
                  repeat (conv => whnf); first|refine IndepAnd (by kernel_rfl) ?_|refine ⟨rfl,?_⟩|refine And.intro (by first|decide|exact trivial|exact ⟨_,rfl,rfl⟩|exact ⟨rfl,trivial⟩|exact ⟨rfl,rfl,trivial⟩) ?_
                  conv => whnf
                  refine ⟨_, CallVC.pr (pub8_ok b y) rfl rfl, ?_⟩
                  repeat (conv => whnf); first|refine IndepAnd (by kernel_rfl) ?_|refine ⟨rfl,?_⟩|refine And.intro (by first|decide|exact trivial|exact ⟨_,rfl,rfl⟩|exact ⟨rfl,trivial⟩|exact ⟨rfl,rfl,trivial⟩) ?_
                  conv => whnf
                  refine ⟨_, CallVC.pr hA1 rfl rfl, ?_⟩
                  repeat (conv => whnf); first|refine IndepAnd (by kernel_rfl) ?_|refine ⟨rfl,?_⟩|refine And.intro (by first|decide|exact trivial|exact ⟨_,rfl,rfl⟩|exact ⟨rfl,trivial⟩|exact ⟨rfl,rfl,trivial⟩) ?_
                  conv => whnf
                  refine ⟨TV y, by show (tmvs t.kids)[1]? = _; rw [ek]; rfl, rfl, rfl, ?_⟩
                  repeat (conv => whnf); first|refine IndepAnd (by kernel_rfl) ?_|refine ⟨rfl,?_⟩|refine And.intro (by first|decide|exact trivial|exact ⟨_,rfl,rfl⟩|exact ⟨rfl,trivial⟩|exact ⟨rfl,rfl,trivial⟩) ?_
                  conv => whnf
                  refine ⟨TV x, by show (tmvs t.kids)[0]? = _; rw [ek]; rfl, rfl, rfl, ?_⟩
                  repeat (conv => whnf); first|refine IndepAnd (by kernel_rfl) ?_|refine ⟨rfl,?_⟩|refine And.intro (by first|decide|exact trivial|exact ⟨_,rfl,rfl⟩|exact ⟨rfl,trivial⟩|exact ⟨rfl,rfl,trivial⟩) ?_
                  conv => whnf
                  refine ⟨_, CallVC.pr (pub8_ok b x) rfl rfl, ?_⟩
                  repeat (conv => whnf); first|refine IndepAnd (by kernel_rfl) ?_|refine ⟨rfl,?_⟩|refine And.intro (by first|decide|exact trivial|exact ⟨_,rfl,rfl⟩|exact ⟨rfl,trivial⟩|exact ⟨rfl,rfl,trivial⟩) ?_
                  conv => whnf
                  refine ⟨_, CallVC.pr hA2 rfl rfl, ?_⟩
                  repeat (conv => whnf); first|refine IndepAnd (by kernel_rfl) ?_|refine ⟨rfl,?_⟩|refine And.intro (by first|decide|exact trivial|exact ⟨_,rfl,rfl⟩|exact ⟨rfl,trivial⟩|exact ⟨rfl,rfl,trivial⟩) ?_
                  conv => whnf
                  refine ⟨_, CallVC.pr hD rfl rfl, ?_⟩
                  repeat (conv => whnf); first|refine IndepAnd (by kernel_rfl) ?_|refine ⟨rfl,?_⟩|refine And.intro (by first|decide|exact trivial|exact ⟨_,rfl,rfl⟩|exact ⟨rfl,trivial⟩|exact ⟨rfl,rfl,trivial⟩) ?_
                  conv => whnf
                  have eN := okT (by rw [eo]; rfl)
                  rw [hdv]
                  repeat (conv => whnf); first|refine IndepAnd (by kernel_rfl) ?_|refine ⟨rfl,?_⟩|refine And.intro (by first|decide|exact trivial|exact ⟨_,rfl,rfl⟩|exact ⟨rfl,trivial⟩|exact ⟨rfl,rfl,trivial⟩) ?_
                  conv => whnf
                  refine ⟨_, CallVC.pr hW rfl rfl, ?_⟩
                  repeat (conv => whnf); first|refine IndepAnd (by kernel_rfl) ?_|refine ⟨rfl,?_⟩|refine And.intro (by first|decide|exact trivial|exact ⟨_,rfl,rfl⟩|exact ⟨rfl,trivial⟩|exact ⟨rfl,rfl,trivial⟩) ?_
                  conv => whnf
                  refine ⟨_, wrapN (n := i + 1) rfl (by omega), ?_⟩
                  repeat (conv => whnf); first|refine IndepAnd (by kernel_rfl) ?_|refine ⟨rfl,?_⟩|refine And.intro (by first|decide|exact trivial|exact ⟨_,rfl,rfl⟩|exact ⟨rfl,trivial⟩|exact ⟨rfl,rfl,trivial⟩) ?_
                  conv => whnf
                  refine ⟨⟨i + 1, hlt⟩, ?_, by show todo.length - (i + 1) < todo.length - i; omega⟩
                  refine Ge.of rfl ?_ ?_
                  · repeat (conv => whnf); first | refine ⟨LE.of rfl, ?_⟩ | refine ⟨LE.of (congrArg (fun l => SV.p (PV.lst (tmvs l))) eN.symm), ?_⟩
                    trivial
                  · repeat (conv => whnf); refine ⟨OLE.of rfl, ?_⟩
                    trivial
                | false =>
                  cases v2 with
                  | true =>
                    repeat (conv => whnf); first|refine IndepAnd (by kernel_rfl) ?_|refine ⟨rfl,?_⟩|refine And.intro (by first|decide|exact trivial|exact ⟨_,rfl,rfl⟩|exact ⟨rfl,trivial⟩|exact ⟨rfl,rfl,trivial⟩) ?_
                    conv => whnf
                    refine ⟨TV x, by show (tmvs t.kids)[0]? = _; rw [ek]; rfl, rfl, rfl, ?_⟩
                    repeat (conv => whnf); first|refine IndepAnd (by kernel_rfl) ?_|refine ⟨rfl,?_⟩|refine And.intro (by first|decide|exact trivial|exact ⟨_,rfl,rfl⟩|exact ⟨rfl,trivial⟩|exact ⟨rfl,rfl,trivial⟩) ?_
                    conv => whnf
                    refine ⟨TV y, by show (tmvs t.kids)[1]? = _; rw [ek]; rfl, rfl, rfl, ?_⟩
                    repeat (conv => whnf); first|refine IndepAnd (by kernel_rfl) ?_|refine ⟨rfl,?_⟩|refine And.intro (by first|decide|exact trivial|exact ⟨_,rfl,rfl⟩|exact ⟨rfl,trivial⟩|exact ⟨rfl,rfl,trivial⟩) ?_
                    conv => whnf
                    refine ⟨_, CallVC.pr (pub8_ok b y) rfl rfl, ?_⟩
                    repeat (conv => whnf); first|refine IndepAnd (by kernel_rfl) ?_|refine ⟨rfl,?_⟩|refine And.intro (by first|decide|exact trivial|exact ⟨_,rfl,rfl⟩|exact ⟨rfl,trivial⟩|exact ⟨rfl,rfl,trivial⟩) ?_
                    conv => whnf
                    refine ⟨_, CallVC.pr hA1 rfl rfl, ?_⟩
                    repeat (conv => whnf); first|refine IndepAnd (by kernel_rfl) ?_|refine ⟨rfl,?_⟩|refine And.intro (by first|decide|exact trivial|exact ⟨_,rfl,rfl⟩|exact ⟨rfl,trivial⟩|exact ⟨rfl,rfl,trivial⟩) ?_
                    conv => whnf
                    refine ⟨TV y, by show (tmvs t.kids)[1]? = _; rw [ek]; rfl, rfl, rfl, ?_⟩
                    repeat (conv => whnf); first|refine IndepAnd (by kernel_rfl) ?_|refine ⟨rfl,?_⟩|refine And.intro (by first|decide|exact trivial|exact ⟨_,rfl,rfl⟩|exact ⟨rfl,trivial⟩|exact ⟨rfl,rfl,trivial⟩) ?_
                    conv => whnf
                    refine ⟨TV x, by show (tmvs t.kids)[0]? = _; rw [ek]; rfl, rfl, rfl, ?_⟩
                    repeat (conv => whnf); first|refine IndepAnd (by kernel_rfl) ?_|refine ⟨rfl,?_⟩|refine And.intro (by first|decide|exact trivial|exact ⟨_,rfl,rfl⟩|exact ⟨rfl,trivial⟩|exact ⟨rfl,rfl,trivial⟩) ?_
                    conv => whnf
                    refine ⟨_, CallVC.pr (pub8_ok b x) rfl rfl, ?_⟩
                    repeat (conv => whnf); first|refine IndepAnd (by kernel_rfl) ?_|refine ⟨rfl,?_⟩|refine And.intro (by first|decide|exact trivial|exact ⟨_,rfl,rfl⟩|exact ⟨rfl,trivial⟩|exact ⟨rfl,rfl,trivial⟩) ?_
                    conv => whnf
                    refine ⟨_, CallVC.pr hA2 rfl rfl, ?_⟩
                    repeat (conv => whnf); first|refine IndepAnd (by kernel_rfl) ?_|refine ⟨rfl,?_⟩|refine And.intro (by first|decide|exact trivial|exact ⟨_,rfl,rfl⟩|exact ⟨rfl,trivial⟩|exact ⟨rfl,rfl,trivial⟩) ?_
                    conv => whnf
                    refine ⟨_, CallVC.pr hD rfl rfl, ?_⟩
                    repeat (conv => whnf); first|refine IndepAnd (by kernel_rfl) ?_|refine ⟨rfl,?_⟩|refine And.intro (by first|decide|exact trivial|exact ⟨_,rfl,rfl⟩|exact ⟨rfl,trivial⟩|exact ⟨rfl,rfl,trivial⟩) ?_
                    conv => whnf
                    have eN := okT (by rw [eo]; rfl)
                    rw [hdv]
                    repeat (conv => whnf); first|refine IndepAnd (by kernel_rfl) ?_|refine ⟨rfl,?_⟩|refine And.intro (by first|decide|exact trivial|exact ⟨_,rfl,rfl⟩|exact ⟨rfl,trivial⟩|exact ⟨rfl,rfl,trivial⟩) ?_
                    conv => whnf
                    refine ⟨_, CallVC.pr hW rfl rfl, ?_⟩
                    repeat (conv => whnf); first|refine IndepAnd (by kernel_rfl) ?_|refine ⟨rfl,?_⟩|refine And.intro (by first|decide|exact trivial|exact ⟨_,rfl,rfl⟩|exact ⟨rfl,trivial⟩|exact ⟨rfl,rfl,trivial⟩) ?_
                    conv => whnf
                    refine ⟨_, wrapN (n := i + 1) rfl (by omega), ?_⟩
                    repeat (conv => whnf); first|refine IndepAnd (by kernel_rfl) ?_|refine ⟨rfl,?_⟩|refine And.intro (by first|decide|exact trivial|exact ⟨_,rfl,rfl⟩|exact ⟨rfl,trivial⟩|exact ⟨rfl,rfl,trivial⟩) ?_
                    conv => whnf
                    refine ⟨⟨i + 1, hlt⟩, ?_, by show todo.length - (i + 1) < todo.length - i; omega⟩
                    refine Ge.of rfl ?_ ?_
                    · repeat (conv => whnf); first | refine ⟨LE.of rfl, ?_⟩ | refine ⟨LE.of (congrArg (fun l => SV.p (PV.lst (tmvs l))) eN.symm), ?_⟩
                      trivial
                    · repeat (conv => whnf); refine ⟨OLE.of rfl, ?_⟩
                      trivial
                  | false =>
                    repeat (conv => whnf); first|refine IndepAnd (by kernel_rfl) ?_|refine ⟨rfl,?_⟩|refine And.intro (by first|decide|exact trivial|exact ⟨_,rfl,rfl⟩|exact ⟨rfl,trivial⟩|exact ⟨rfl,rfl,trivial⟩) ?_
                    conv => whnf
                    refine ⟨TV x, by show (tmvs t.kids)[0]? = _; rw [ek]; rfl, rfl, rfl, ?_⟩
                    repeat (conv => whnf); first|refine IndepAnd (by kernel_rfl) ?_|refine ⟨rfl,?_⟩|refine And.intro (by first|decide|exact trivial|exact ⟨_,rfl,rfl⟩|exact ⟨rfl,trivial⟩|exact ⟨rfl,rfl,trivial⟩) ?_
                    conv => whnf
                    refine ⟨TV y, by show (tmvs t.kids)[1]? = _; rw [ek]; rfl, rfl, rfl, ?_⟩
                    repeat (conv => whnf); first|refine IndepAnd (by kernel_rfl) ?_|refine ⟨rfl,?_⟩|refine And.intro (by first|decide|exact trivial|exact ⟨_,rfl,rfl⟩|exact ⟨rfl,trivial⟩|exact ⟨rfl,rfl,trivial⟩) ?_
                    conv => whnf
                    refine ⟨_, CallVC.pr (pub8_ok b y) rfl rfl, ?_⟩
                    repeat (conv => whnf); first|refine IndepAnd (by kernel_rfl) ?_|refine ⟨rfl,?_⟩|refine And.intro (by first|decide|exact trivial|exact ⟨_,rfl,rfl⟩|exact ⟨rfl,trivial⟩|exact ⟨rfl,rfl,trivial⟩) ?_
                    conv => whnf
                    refine ⟨_, CallVC.pr hA1 rfl rfl, ?_⟩
                    repeat (conv => whnf); first|refine IndepAnd (by kernel_rfl) ?_|refine ⟨rfl,?_⟩|refine And.intro (by first|decide|exact trivial|exact ⟨_,rfl,rfl⟩|exact ⟨rfl,trivial⟩|exact ⟨rfl,rfl,trivial⟩) ?_
                    conv => whnf
                    refine ⟨TV y, by show (tmvs t.kids)[1]? = _; rw [ek]; rfl, rfl, rfl, ?_⟩
                    repeat (conv => whnf); first|refine IndepAnd (by kernel_rfl) ?_|refine ⟨rfl,?_⟩|refine And.intro (by first|decide|exact trivial|exact ⟨_,rfl,rfl⟩|exact ⟨rfl,trivial⟩|exact ⟨rfl,rfl,trivial⟩) ?_
                    conv => whnf
                    refine ⟨TV x, by show (tmvs t.kids)[0]? = _; rw [ek]; rfl, rfl, rfl, ?_⟩
                    repeat (conv => whnf); first|refine IndepAnd (by kernel_rfl) ?_|refine ⟨rfl,?_⟩|refine And.intro (by first|decide|exact trivial|exact ⟨_,rfl,rfl⟩|exact ⟨rfl,trivial⟩|exact ⟨rfl,rfl,trivial⟩) ?_
                    conv => whnf
                    refine ⟨_, CallVC.pr (pub8_ok b x) rfl rfl, ?_⟩
                    repeat (conv => whnf); first|refine IndepAnd (by kernel_rfl) ?_|refine ⟨rfl,?_⟩|refine And.intro (by first|decide|exact trivial|exact ⟨_,rfl,rfl⟩|exact ⟨rfl,trivial⟩|exact ⟨rfl,rfl,trivial⟩) ?_
                    conv => whnf
                    refine ⟨_, CallVC.pr hA2 rfl rfl, ?_⟩
                    repeat (conv => whnf); first|refine IndepAnd (by kernel_rfl) ?_|refine ⟨rfl,?_⟩|refine And.intro (by first|decide|exact trivial|exact ⟨_,rfl,rfl⟩|exact ⟨rfl,trivial⟩|exact ⟨rfl,rfl,trivial⟩) ?_
                    conv => whnf
                    refine ⟨_, CallVC.pr hD rfl rfl, ?_⟩
                    repeat (conv => whnf); first|refine IndepAnd (by kernel_rfl) ?_|refine ⟨rfl,?_⟩|refine And.intro (by first|decide|exact trivial|exact ⟨_,rfl,rfl⟩|exact ⟨rfl,trivial⟩|exact ⟨rfl,rfl,trivial⟩) ?_
                    conv => whnf
                    have eN := okF (by rw [eo]; rfl)
                    refine ⟨_, wrapN (n := i + 1) rfl (by omega), ?_⟩
                    repeat (conv => whnf); first|refine IndepAnd (by kernel_rfl) ?_|refine ⟨rfl,?_⟩|refine And.intro (by first|decide|exact trivial|exact ⟨_,rfl,rfl⟩|exact ⟨rfl,trivial⟩|exact ⟨rfl,rfl,trivial⟩) ?_
                    conv => whnf
                    refine ⟨⟨i + 1, hlt⟩, ?_, by show todo.length - (i + 1) < todo.length - i; omega⟩
                    refine Ge.of rfl ?_ ?_
                    · repeat (conv => whnf); first | refine ⟨LE.of rfl, ?_⟩ | refine ⟨LE.of (congrArg (fun l => SV.p (PV.lst (tmvs l))) eN.symm), ?_⟩
                      trivial
                    · repeat (conv => whnf); refine ⟨OLE.of rfl, ?_⟩
                      trivial
              · have k9 : ¬ t.kind = 9 := of_decide_eq_false k9
                repeat (conv => whnf); first|refine IndepAnd (by kernel_rfl) ?_|refine ⟨rfl,?_⟩|refine And.intro (by first|decide|exact trivial|exact ⟨_,rfl,rfl⟩|exact ⟨rfl,trivial⟩|exact ⟨rfl,rfl,trivial⟩) ?_
                conv => whnf
                refine @bool_rec _ _ _ ?_ ?_ <;> intro k2
                · have k2 : 2 < t.kind := of_decide_eq_true k2
                  have hP := all8_ok b made t.kids (by omega) mft tft'.len
                  have eo : okS l made t = (decide (t ∈ l) || decide (t.kind = 1) || allR made t.kids) := by unfold okS allR; rw [if_neg k9, decide_eq_true k2, Bool.true_and]
                  obtain ⟨v1, e1⟩ : ∃ v, v = allR made t.kids := ⟨_, rfl⟩
                  rw [← e1] at hP eo
                  rw [← eok0, decide_eq_false k1] at eo
                  cases v1 with
                  | true =>
                    repeat (conv => whnf); first|refine IndepAnd (by kernel_rfl) ?_|refine ⟨rfl,?_⟩|refine And.intro (by first|decide|exact trivial|exact ⟨_,rfl,rfl⟩|exact ⟨rfl,trivial⟩|exact ⟨rfl,rfl,trivial⟩) ?_
                    conv => whnf
                    refine ⟨_, CallVC.pr hP rfl rfl, ?_⟩
                    repeat (conv => whnf); first|refine IndepAnd (by kernel_rfl) ?_|refine ⟨rfl,?_⟩|refine And.intro (by first|decide|exact trivial|exact ⟨_,rfl,rfl⟩|exact ⟨rfl,trivial⟩|exact ⟨rfl,rfl,trivial⟩) ?_
                    conv => whnf
                    refine ⟨_, CallVC.pr hD rfl rfl, ?_⟩
                    repeat (conv => whnf); first|refine IndepAnd (by kernel_rfl) ?_|refine ⟨rfl,?_⟩|refine And.intro (by first|decide|exact trivial|exact ⟨_,rfl,rfl⟩|exact ⟨rfl,trivial⟩|exact ⟨rfl,rfl,trivial⟩) ?_
                    conv => whnf
                    have eN := okT (by rw [eo]; rfl)
                    rw [hdv]
                    repeat (conv => whnf); first|refine IndepAnd (by kernel_rfl) ?_|refine ⟨rfl,?_⟩|refine And.intro (by first|decide|exact trivial|exact ⟨_,rfl,rfl⟩|exact ⟨rfl,trivial⟩|exact ⟨rfl,rfl,trivial⟩) ?_
                    conv => whnf
                    refine ⟨_, CallVC.pr hW rfl rfl, ?_⟩
                    repeat (conv => whnf); first|refine IndepAnd (by kernel_rfl) ?_|refine ⟨rfl,?_⟩|refine And.intro (by first|decide|exact trivial|exact ⟨_,rfl,rfl⟩|exact ⟨rfl,trivial⟩|exact ⟨rfl,rfl,trivial⟩) ?_
                    conv => whnf
                    refine ⟨_, wrapN (n := i + 1) rfl (by omega), ?_⟩
                    repeat (conv => whnf); first|refine IndepAnd (by kernel_rfl) ?_|refine ⟨rfl,?_⟩|refine And.intro (by first|decide|exact trivial|exact ⟨_,rfl,rfl⟩|exact ⟨rfl,trivial⟩|exact ⟨rfl,rfl,trivial⟩) ?_
                    conv => whnf
                    refine ⟨⟨i + 1, hlt⟩, ?_, by show todo.length - (i + 1) < todo.length - i; omega⟩
                    refine Ge.of rfl ?_ ?_
                    · repeat (conv => whnf); first | refine ⟨LE.of rfl, ?_⟩ | refine ⟨LE.of (congrArg (fun l => SV.p (PV.lst (tmvs l))) eN.symm), ?_⟩
                      trivial
                    · repeat (conv => whnf); refine ⟨OLE.of rfl, ?_⟩
                      trivial
                  | false =>
                    repeat (conv => whnf); first|refine IndepAnd (by kernel_rfl) ?_|refine ⟨rfl,?_⟩|refine And.intro (by first|decide|exact trivial|exact ⟨_,rfl,rfl⟩|exact ⟨rfl,trivial⟩|exact ⟨rfl,rfl,trivial⟩) ?_
                    conv => whnf
                    refine ⟨_, CallVC.pr hP rfl rfl, ?_⟩
                    repeat (conv => whnf); first|refine IndepAnd (by kernel_rfl) ?_|refine ⟨rfl,?_⟩|refine And.intro (by first|decide|exact trivial|exact ⟨_,rfl,rfl⟩|exact ⟨rfl,trivial⟩|exact ⟨rfl,rfl,trivial⟩) ?_
                    conv => whnf
                    refine ⟨_, CallVC.pr hD rfl rfl, ?_⟩
                    repeat (conv => whnf); first|refine IndepAnd (by kernel_rfl) ?_|refine ⟨rfl,?_⟩|refine And.intro (by first|decide|exact trivial|exact ⟨_,rfl,rfl⟩|exact ⟨rfl,trivial⟩|exact ⟨rfl,rfl,trivial⟩) ?_
                    conv => whnf
                    have eN := okF (by rw [eo]; rfl)
                    refine ⟨_, wrapN (n := i + 1) rfl (by omega), ?_⟩
                    repeat (conv => whnf); first|refine IndepAnd (by kernel_rfl) ?_|refine ⟨rfl,?_⟩|refine And.intro (by first|decide|exact trivial|exact ⟨_,rfl,rfl⟩|exact ⟨rfl,trivial⟩|exact ⟨rfl,rfl,trivial⟩) ?_
                    conv => whnf
                    refine ⟨⟨i + 1, hlt⟩, ?_, by show todo.length - (i + 1) < todo.length - i; omega⟩
                    refine Ge.of rfl ?_ ?_
                    · repeat (conv => whnf); first | refine ⟨LE.of rfl, ?_⟩ | refine ⟨LE.of (congrArg (fun l => SV.p (PV.lst (tmvs l))) eN.symm), ?_⟩
                      trivial
                    · repeat (conv => whnf); refine ⟨OLE.of rfl, ?_⟩
                      trivial
                · have k2 : ¬ 2 < t.kind := of_decide_eq_false k2
                  repeat (conv => whnf); first|refine IndepAnd (by kernel_rfl) ?_|refine ⟨rfl,?_⟩|refine And.intro (by first|decide|exact trivial|exact ⟨_,rfl,rfl⟩|exact ⟨rfl,trivial⟩|exact ⟨rfl,rfl,trivial⟩) ?_
                  conv => whnf
                  refine ⟨_, CallVC.pr hD rfl rfl, ?_⟩
                  repeat (conv => whnf); first|refine IndepAnd (by kernel_rfl) ?_|refine ⟨rfl,?_⟩|refine And.intro (by first|decide|exact trivial|exact ⟨_,rfl,rfl⟩|exact ⟨rfl,trivial⟩|exact ⟨rfl,rfl,trivial⟩) ?_
                  conv => whnf
                  have eN := okF (by unfold okS; rw [← eok0, decide_eq_false k1, if_neg k9, decide_eq_false k2]; rfl)
                  refine ⟨_, wrapN (n := i + 1) rfl (by omega), ?_⟩
                  repeat (conv => whnf); first|refine IndepAnd (by kernel_rfl) ?_|refine ⟨rfl,?_⟩|refine And.intro (by first|decide|exact trivial|exact ⟨_,rfl,rfl⟩|exact ⟨rfl,trivial⟩|exact ⟨rfl,rfl,trivial⟩) ?_
                  conv => whnf
                  refine ⟨⟨i + 1, hlt⟩, ?_, by show todo.length - (i + 1) < todo.length - i; omega⟩
                  refine Ge.of rfl ?_ ?_
                  · repeat (conv => whnf); first | refine ⟨LE.of rfl, ?_⟩ | refine ⟨LE.of (congrArg (fun l => SV.p (PV.lst (tmvs l))) eN.symm), ?_⟩
                    trivial
                  · repeat (conv => whnf); refine ⟨OLE.of rfl, ?_⟩
                    trivial
        · have hge : mdR l (todo.take i) M = mdI l todo (j + 1) := by
            rw [List.take_of_length_le (by have := of_decide_eq_false h5; rw [tmvs_length] at this; have h6 : ¬ ((i : Int) < todo.length) := this; omega), eN]
          repeat (conv => whnf); first|refine IndepAnd (by kernel_rfl) ?_|refine ⟨rfl,?_⟩|refine And.intro (by first|decide|exact trivial|exact ⟨_,rfl,rfl⟩|exact ⟨rfl,trivial⟩|exact ⟨rfl,rfl,trivial⟩) ?_
          conv => whnf
          refine ⟨⟨j + 1, hj1⟩, ?_, by show todo.length + 2 - (j + 1) < todo.length + 2 - j; omega⟩
          refine Ge.of rfl ?_ ?_
          · repeat (conv => whnf); first | refine ⟨LE.of rfl, ?_⟩ | refine ⟨LE.of (congrArg (fun l => SV.p (PV.lst (tmvs l))) hge), ?_⟩ | refine ⟨LE.of (congrArg (fun M : List Tm => iv (M.length : Int)) eM), ?_⟩
            trivial
          · repeat (conv => whnf); refine ⟨OLE.of rfl, ?_⟩
            trivial
      · have h4 : ¬ nI l todo j.1 < ((mdI l todo j.1).length : Int) := by have := of_decide_eq_false h4; rw [tmvs_length] at this; exact this
        obtain ⟨j, hj⟩ := j
        cases j with
        | zero => exact absurd (show (-1 : Int) < ((0 : Nat) : Int) by decide) h4
        | succ j =>
          have h4 : ¬ ((mdI l todo j).length : Int) < ((mdI l todo (j + 1)).length : Int) := h4
          have e := md_end (list := list) (g := goal) (by rw [← eg]; exact hg) (j := j) (by rw [← eg, ← el, ← etodo]; omega)
          rw [← eg, ← el, ← etodo] at e
          have hH := has_ok b (mdI l todo (j + 1)) g (by have := mdI_le l todo (j + 1); omega) (fun u hu => tft u (mdI_sub l todo (j + 1) u hu))
          rw [e] at hH
          repeat (conv => whnf); first|refine IndepAnd (by kernel_rfl) ?_|refine ⟨rfl,?_⟩|refine And.intro (by first|decide|exact trivial|exact ⟨_,rfl,rfl⟩|exact ⟨rfl,trivial⟩|exact ⟨rfl,rfl,trivial⟩) ?_
          conv => whnf
          refine ⟨_, CallVC.pr hH rfl rfl, ?_⟩
          repeat (conv => whnf); first|refine IndepAnd (by kernel_rfl) ?_|refine ⟨rfl,?_⟩|refine And.intro (by first|decide|exact trivial|exact ⟨_,rfl,rfl⟩|exact ⟨rfl,trivial⟩|exact ⟨rfl,rfl,trivial⟩) ?_
          conv => whnf
          exact LEP.refl _
end Go.Sl
/- short -/
namespace Go.Sl
open Go Go.Vc Go.Proofs Go.RowKit

theorem in_size : ∀ {t u : Tm}, u ∈ inT t → u.size ≤ t.size := by
  intro t
  induction t using Tm.indk with
  | h t ih =>
  intro u hu
  rw [inT_eq] at hu
  rcases List.mem_cons.1 hu with rfl | hu
  · exact Nat.le_refl _
  · obtain ⟨w, hw, hu⟩ := inTs_of hu
    have h1 := ih w hw hu
    have h2 := size_mem hw
    omega
theorem sizes_mem {l : List Tm} {t : Tm} (h : t ∈ l) : t.size ≤ Tm.sizes l := by
  induction l with
  | nil => cases h
  | cons u l ih =>
    rw [Tm.sizes]
    rcases List.mem_cons.1 h with rfl | h
    · omega
    · have := ih h; omega
theorem univ_size {l : List Tm} {t : Tm} (h : t ∈ univ l) : t.size ≤ Tm.sizes l := by
  obtain ⟨u, hu, ht⟩ := inTs_of h
  obtain ⟨v, hv, rfl⟩ := List.mem_map.1 hu
  have h1 := in_size ht
  rw [can_size] at h1
  have h2 := sizes_mem hv
  omega
theorem univ_fit {l : List Tm} (hf : ∀ t ∈ l, Fit t) {t : Tm} (h : t ∈ univ l) : Fit t := by
  obtain ⟨u, hu, ht⟩ := inTs_of h
  obtain ⟨v, hv, rfl⟩ := List.mem_map.1 hu
  exact (can_fit v (hf v hv)).inT t ht
theorem withs_nd : ∀ (m : List Tm) {l : List Tm}, l.Nodup → (m.foldl withT l).Nodup
  | [], _, h => h
  | t :: m, _, h => withs_nd m (with_nd h t)
theorem withs_le {U m l : List Tm} (hn : l.Nodup) (hl : ∀ t ∈ l, t ∈ U) (hm : ∀ t ∈ m, t ∈ U) : (m.foldl withT l).length ≤ U.length :=
  nodup_len (withs_nd m hn) fun u hu => by
    rcases (withs_mem m l).1 hu with hu | hu
    · exact hl u hu
    · exact hm u hu
theorem withs_take (l next : List Tm) {i : Nat} (h : i < l.length) : (l.take (i + 1)).foldl withT next = withT ((l.take i).foldl withT next) l[i] := by
  rw [List.take_succ_eq_append_getElem h, List.foldl_append]
  rfl
theorem gives3 {S : List Bs} {t : Tm} (k : t.kind = 3) : givesT S t = t.kids := by
  unfold givesT wayT; rw [if_pos k]; rfl
theorem gives4 {S : List Bs} {t x y : Tm} (k : t.kind = 4) (e : t.kids = [x, y]) : givesT S t = if mkB S x = true then [y] else [] := by
  unfold givesT wayT; rw [if_neg (by omega), if_pos k, e]; simp
theorem gives10 {S : List Bs} {t x y : Tm} (k : t.kind = 10) (e : t.kids = [x, y]) : givesT S t = if mkB S y = true then [x] else [] := by
  unfold givesT wayT; rw [if_neg (by omega), if_neg (by omega), if_pos k, e]; simp
theorem gives0 {S : List Bs} {t : Tm} (k3 : ¬ t.kind = 3) (k4 : ¬ t.kind = 4) (k10 : ¬ t.kind = 10) : givesT S t = [] := by
  unfold givesT wayT; rw [if_neg k3, if_neg k4, if_neg k10]
/-- How many there were a round ahead. -/
noncomputable def nA (l : List Tm) : Nat → Int
  | 0 => -1
  | j + 1 => (itK (ofT l) j).l.length
abbrev RdA (l : List Tm) : Type := { j : Nat // ∀ i, i + 1 < j → (itK (ofT l) i).l.length < (itK (ofT l) (i + 1)).l.length }
theorem RdA.le {l : List Tm} (h : Frm l) (j : RdA l) : j.1 ≤ 2001 := by
  obtain ⟨j, hj⟩ := j
  have key : ∀ i, i < j → i ≤ (itK (ofT l) i).l.length := by
    intro i
    induction i with
    | zero => intro _; exact Nat.zero_le _
    | succ i ih => intro hi; have := ih (by omega); have := hj i (by omega); omega
  show j ≤ 2001
  cases j with
  | zero => omega
  | succ j =>
    have h1 := key j (by omega)
    have h2 := (itK_wk (univ_kid l) (of_wk h.fit h.wt) j).len
    rw [univ_len] at h2
    have := h.sz
    omega
set_option maxHeartbeats 1000000 in
theorem analyze8_ok (b : Bool) (frame : List Tm) (h : Frm frame) : K b 12 [lv frame] (.pv (.lst (tmvs (anT frame)))) := by
  have hF := frame8_ok b frame ⟨h.fit, h.wt, by have := h.len; omega⟩
  rw [frR_of] at hF
  have hW := itK_wk (univ_kid frame) (of_wk h.fit h.wt)
  have hsz := h.sz
  have hul : (univ frame).length ≤ 2000 := by rw [univ_len]; exact hsz
  have hE := h.end.only
  refine PC_of_vc (cx_ok b) (mixed b) {} Tryd.func12 (by kernel_rfl) rfl rfl (by kernel_rfl) ?_
  repeat (conv => whnf); first|refine IndepAnd (by kernel_rfl) ?_|refine ⟨rfl,?_⟩|refine And.intro (by first|decide|exact trivial|exact ⟨_,rfl,rfl⟩|exact ⟨rfl,trivial⟩|exact ⟨rfl,rfl,trivial⟩) ?_
  conv => whnf
  refine ⟨_, CallVC.pr hF rfl rfl, ?_⟩
  repeat (conv => whnf); first|refine IndepAnd (by kernel_rfl) ?_|refine ⟨rfl,?_⟩|refine And.intro (by first|decide|exact trivial|exact ⟨_,rfl,rfl⟩|exact ⟨rfl,trivial⟩|exact ⟨rfl,rfl,trivial⟩) ?_
  conv => whnf
  refine ⟨RdA frame, fun j => S.of [(2, .p .nilS), (3, lv (itK (ofT frame) j.1).l), (4, iv (nA frame j.1))] [], fun j => 2002 - j.1, ⟨0, fun i hi => absurd hi (by omega)⟩, ?_, ?_⟩
  · refine Ge.of rfl ?_ ?_
    · repeat (conv => whnf); refine ⟨LE.of rfl, ?_⟩
      trivial
    · repeat (conv => whnf); refine ⟨OLE.of rfl, ?_⟩
      trivial
  intro j
  repeat (conv => whnf); first|refine IndepAnd (by kernel_rfl) ?_|refine ⟨rfl,?_⟩|refine And.intro (by first|decide|exact trivial|exact ⟨_,rfl,rfl⟩|exact ⟨rfl,trivial⟩|exact ⟨rfl,rfl,trivial⟩) ?_
  conv => whnf
  refine @bool_rec _ _ _ ?_ ?_ <;> intro h4
  · have h4 : nA frame j.1 < ((itK (ofT frame) j.1).l.length : Int) := by have := of_decide_eq_true h4; rw [tmvs_length] at this; exact this
    obtain ⟨j, hj⟩ := j
    have hj1 : ∀ i, i + 1 < j + 1 → (itK (ofT frame) i).l.length < (itK (ofT frame) (i + 1)).l.length := fun i hi => by
      by_cases hc : i + 1 < j
      · exact hj i hc
      · have hij : j = i + 1 := by omega
        subst hij
        exact Int.ofNat_lt.1 h4
    have hjle := RdA.le h ⟨j + 1, hj1⟩
    have hjle : j + 1 ≤ 2001 := hjle
    have w := hW j
    have ew : (itK (ofT frame) (j + 1)).l = (moreT (itK (ofT frame) j).s (itK (ofT frame) j).l).foldl withT (itK (ofT frame) j).l := step_with w
    have wn := w.nd
    have wlen := w.len
    obtain ⟨L, eL⟩ : ∃ L, L = (itK (ofT frame) j).l := ⟨_, rfl⟩
    have eS : (itK (ofT frame) j).s = L.map txtT := by rw [eL]; exact w.s
    rw [eS] at ew wn
    rw [← eL] at ew wlen
    have Lnd : L.Nodup := nodup_of_map wn
    have Lgd : ∀ t ∈ L, gdT t := fun t ht => itK_gd w (by rw [← eL]; exact ht)
    have Lsub : ∀ t ∈ L, t ∈ univ frame := fun t ht => w.sub t (by rw [← eL]; exact ht)
    have Lfit : ∀ t ∈ L, Fit t := fun t ht => w.fit t (by rw [← eL]; exact ht)
    have Lwt : ∀ t ∈ L, wt t ≤ 1000000000 := fun t ht => w.wt t (by rw [← eL]; exact ht)
    have Lok : Okl L := ⟨Lfit, Lwt, by omega⟩
    have Usub : ∀ i, ∀ t ∈ moreT (L.map txtT) (L.take i), t ∈ univ frame := fun i t ht => by
      obtain ⟨v, hv, ht⟩ := List.mem_flatMap.1 ht
      exact univ_kid frame v (Lsub v (List.mem_of_mem_take hv)) t (gives_sub ht)
    show vc _ _ _ _ _
    simp only [← eL]
    repeat (conv => whnf); first|refine IndepAnd (by kernel_rfl) ?_|refine ⟨rfl,?_⟩|refine And.intro (by first|decide|exact trivial|exact ⟨_,rfl,rfl⟩|exact ⟨rfl,trivial⟩|exact ⟨rfl,rfl,trivial⟩) ?_
    conv => whnf
    refine ⟨{ i : Nat // i ≤ L.length }, fun i => S.of [(2, .p .nilS), (3, lv L), (4, iv L.length), (5, lv ((moreT (L.map txtT) (L.take i.1)).foldl withT L)), (6, iv i.1)] [], fun i => L.length - i.1, ⟨0, Nat.zero_le _⟩, ?_, ?_⟩
    · refine Ge.of rfl ?_ ?_
      · repeat (conv => whnf); first | refine ⟨LE.of rfl, ?_⟩ | refine ⟨LE.of (congrArg (fun n : Nat => SV.p (PV.int .i64 n)) (tmvs_length L)), ?_⟩
        trivial
      · repeat (conv => whnf); refine ⟨OLE.of rfl, ?_⟩
        trivial
    rintro ⟨i, hi⟩
    repeat (conv => whnf); first|refine IndepAnd (by kernel_rfl) ?_|refine ⟨rfl,?_⟩|refine And.intro (by first|decide|exact trivial|exact ⟨_,rfl,rfl⟩|exact ⟨rfl,trivial⟩|exact ⟨rfl,rfl,trivial⟩) ?_
    conv => whnf
    refine @bool_rec _ _ _ ?_ ?_ <;> intro h5
    · have hlt : i < L.length := by have h5 : ((i : Nat) : Int) < (L.length : Int) := of_decide_eq_true h5; omega
      obtain ⟨t, et⟩ : ∃ t, t = L[i] := ⟨_, rfl⟩
      have hget : (tmvs L)[i]? = some (TV t) := by rw [et]; exact tmvs_getN hlt
      have hm : t ∈ L := by rw [et]; exact List.getElem_mem hlt
      have tg := Lgd t hm
      have tf := Lfit t hm
      have tkid : ∀ u ∈ t.kids, Fit u ∧ wt u ≤ 1000000000 ∧ u.size ≤ 10000 ∧ canT u = u := fun u hu => by
        have h1 := wts_mem hu
        have h2 := wt_eq t
        have h3 := Lwt t hm
        have h4 := univ_size (univ_kid frame t (Lsub t hm) u hu)
        exact ⟨tf.kid hu, by omega, by omega, (gd_kid tg hu).2⟩
      have emore := more_take (L.map txtT) hlt
      rw [← et] at emore
      obtain ⟨next, enext⟩ : ∃ next, next = (moreT (L.map txtT) (L.take i)).foldl withT L := ⟨_, rfl⟩
      obtain ⟨G, eG⟩ : ∃ G, G = givesT (L.map txtT) t := ⟨_, rfl⟩
      have enx : (moreT (L.map txtT) (L.take (i + 1))).foldl withT L = G.foldl withT next := by rw [emore, List.foldl_append, ← enext, ← eG]
      have Gsub : ∀ u ∈ G, u ∈ t.kids := fun u hu => gives_sub (by rw [← eG]; exact hu)
      have nnd : next.Nodup := by rw [enext]; exact withs_nd _ Lnd
      have nsub : ∀ u ∈ next, u ∈ univ frame := fun u hu => by
        rw [enext, withs_mem] at hu
        rcases hu with hu | hu
        · exact Lsub u hu
        · exact Usub i u hu
      have Glen : G.length ≤ 9223372036854775806 := by rw [eG]; have := gives_len (S := L.map txtT) (Lwt t hm); omega
      have Xlen : ∀ k, ((G.take k).foldl withT next).length ≤ 1000000000 := fun k => by
        have := withs_le (m := G.take k) nnd nsub (fun u hu => univ_kid frame t (Lsub t hm) u (Gsub u (List.mem_of_mem_take hu)))
        omega
      have Xfit : ∀ k, ∀ u ∈ (G.take k).foldl withT next, Fit u := fun k u hu => by
        rcases (withs_mem _ _).1 hu with hu | hu
        · exact univ_fit h.fit (nsub u hu)
        · exact (tkid u (Gsub u (List.mem_of_mem_take hu))).1
      show vc _ _ _ _ _
      simp only [← enext]
      repeat (conv => whnf); first|refine IndepAnd (by kernel_rfl) ?_|refine ⟨rfl,?_⟩|refine And.intro (by first|decide|exact trivial|exact ⟨_,rfl,rfl⟩|exact ⟨rfl,trivial⟩|exact ⟨rfl,rfl,trivial⟩) ?_
      conv => whnf
      refine ⟨Int.natCast_nonneg _, TV t, hget, rfl, rfl, ?_⟩
      repeat (conv => whnf); first|refine IndepAnd (by kernel_rfl) ?_|refine ⟨rfl,?_⟩|refine And.intro (by first|decide|exact trivial|exact ⟨_,rfl,rfl⟩|exact ⟨rfl,trivial⟩|exact ⟨rfl,rfl,trivial⟩) ?_
      conv => whnf
      refine @bool_rec _ _ _ ?_ ?_ <;> intro k3
      · have k3 : t.kind = 3 := of_decide_eq_true k3
        have h8 : tmvs t.kids = tmvs G := by rw [eG, gives3 k3]
        repeat (conv => whnf); first|refine IndepAnd (by kernel_rfl) ?_|refine ⟨rfl,?_⟩|refine And.intro (by first|decide|exact trivial|exact ⟨_,rfl,rfl⟩|exact ⟨rfl,trivial⟩|exact ⟨rfl,rfl,trivial⟩) ?_
        conv => whnf
        refine ⟨{ k : Nat // k ≤ G.length }, fun k => S.of [(2, .p .nilS), (3, lv L), (4, iv L.length), (5, lv ((G.take k.1).foldl withT next)), (6, iv i), (8, lv G), (11, iv k.1)] [], fun k => G.length - k.1, ⟨0, Nat.zero_le _⟩, ?_, ?_⟩
        · refine Ge.of rfl ?_ ?_
          · repeat (conv => whnf); first | refine ⟨LE.of rfl, ?_⟩ | refine ⟨LE.of (congrArg (fun l => SV.p (PV.lst l)) h8), ?_⟩
            trivial
          · repeat (conv => whnf); refine ⟨OLE.of rfl, ?_⟩
            trivial
        rintro ⟨k, hk⟩
        repeat (conv => whnf); first|refine IndepAnd (by kernel_rfl) ?_|refine ⟨rfl,?_⟩|refine And.intro (by first|decide|exact trivial|exact ⟨_,rfl,rfl⟩|exact ⟨rfl,trivial⟩|exact ⟨rfl,rfl,trivial⟩) ?_
        conv => whnf
        refine @bool_rec _ _ _ ?_ ?_ <;> intro h7
        · have hlt2 : k < G.length := by have := of_decide_eq_true h7; rw [tmvs_length] at this; exact Int.ofNat_lt.1 this
          have et2 := withs_take G next hlt2
          repeat (conv => whnf); first|refine IndepAnd (by kernel_rfl) ?_|refine ⟨rfl,?_⟩|refine And.intro (by first|decide|exact trivial|exact ⟨_,rfl,rfl⟩|exact ⟨rfl,trivial⟩|exact ⟨rfl,rfl,trivial⟩) ?_
          conv => whnf
          refine ⟨Int.natCast_nonneg _, TV G[k], tmvs_getN hlt2, rfl, rfl, ?_⟩
          repeat (conv => whnf); first|refine IndepAnd (by kernel_rfl) ?_|refine ⟨rfl,?_⟩|refine And.intro (by first|decide|exact trivial|exact ⟨_,rfl,rfl⟩|exact ⟨rfl,trivial⟩|exact ⟨rfl,rfl,trivial⟩) ?_
          conv => whnf
          refine ⟨_, CallVC.pr (with_ok b ((G.take k).foldl withT next) G[k] (Xlen k) (Xfit k)) rfl rfl, ?_⟩
          repeat (conv => whnf); first|refine IndepAnd (by kernel_rfl) ?_|refine ⟨rfl,?_⟩|refine And.intro (by first|decide|exact trivial|exact ⟨_,rfl,rfl⟩|exact ⟨rfl,trivial⟩|exact ⟨rfl,rfl,trivial⟩) ?_
          conv => whnf
          refine ⟨_, wrapN (n := k + 1) rfl (by omega), ?_⟩
          repeat (conv => whnf); first|refine IndepAnd (by kernel_rfl) ?_|refine ⟨rfl,?_⟩|refine And.intro (by first|decide|exact trivial|exact ⟨_,rfl,rfl⟩|exact ⟨rfl,trivial⟩|exact ⟨rfl,rfl,trivial⟩) ?_
          conv => whnf
          refine ⟨⟨k + 1, hlt2⟩, ?_, by show G.length - (k + 1) < G.length - k; omega⟩
          refine Ge.of rfl ?_ ?_
          · repeat (conv => whnf); first | refine ⟨LE.of rfl, ?_⟩ | refine ⟨LE.of (congrArg (fun l => SV.p (PV.lst (tmvs l))) et2.symm), ?_⟩
            trivial
          · repeat (conv => whnf); refine ⟨OLE.of rfl, ?_⟩
            trivial
        · have hge : (G.take k).foldl withT next = (moreT (L.map txtT) (L.take (i + 1))).foldl withT L := by
            rw [List.take_of_length_le (by have := of_decide_eq_false h7; rw [tmvs_length] at this; have h6 : ¬ ((k : Int) < G.length) := this; omega), enx]
          repeat (conv => whnf); first|refine IndepAnd (by kernel_rfl) ?_|refine ⟨rfl,?_⟩|refine And.intro (by first|decide|exact trivial|exact ⟨_,rfl,rfl⟩|exact ⟨rfl,trivial⟩|exact ⟨rfl,rfl,trivial⟩) ?_
          conv => whnf
          refine ⟨_, wrapN (n := i + 1) rfl (by omega), ?_⟩
          repeat (conv => whnf); first|refine IndepAnd (by kernel_rfl) ?_|refine ⟨rfl,?_⟩|refine And.intro (by first|decide|exact trivial|exact ⟨_,rfl,rfl⟩|exact ⟨rfl,trivial⟩|exact ⟨rfl,rfl,trivial⟩) ?_
          conv => whnf
          refine ⟨⟨i + 1, hlt⟩, ?_, by show L.length - (i + 1) < L.length - i; omega⟩
          refine Ge.of rfl ?_ ?_
          · repeat (conv => whnf); first | refine ⟨LE.of rfl, ?_⟩ | refine ⟨LE.of (congrArg (fun l => SV.p (PV.lst (tmvs l))) hge), ?_⟩
            trivial
          · repeat (conv => whnf); refine ⟨OLE.of rfl, ?_⟩
            trivial
      · have k3 : ¬ t.kind = 3 := of_decide_eq_false k3
        repeat (conv => whnf); first|refine IndepAnd (by kernel_rfl) ?_|refine ⟨rfl,?_⟩|refine And.intro (by first|decide|exact trivial|exact ⟨_,rfl,rfl⟩|exact ⟨rfl,trivial⟩|exact ⟨rfl,rfl,trivial⟩) ?_
        conv => whnf
        refine @bool_rec _ _ _ ?_ ?_ <;> intro k4
        · have k4 : t.kind = 4 := of_decide_eq_true k4
          obtain ⟨x, y, e⟩ := kids2 tg (.inl k4)
          have hx : x ∈ t.kids := by rw [e]; simp
          have ek : tmvs t.kids = [TV x, TV y] := by rw [e]; exact (tmvs2 x y).symm
          obtain ⟨x1, x2, x3, x4⟩ := tkid x hx
          have hM := made8_ok b L x Lok x1 x2 x3
          rw [← mk_mdT Lgd x4] at hM
          rw [gives4 k4 e] at eG
          obtain ⟨v, ev⟩ : ∃ v, v = mkB (L.map txtT) x := ⟨_, rfl⟩
          rw [← ev] at hM eG
          repeat (conv => whnf); first|refine IndepAnd (by kernel_rfl) ?_|refine ⟨rfl,?_⟩|refine And.intro (by first|decide|exact trivial|exact ⟨_,rfl,rfl⟩|exact ⟨rfl,trivial⟩|exact ⟨rfl,rfl,trivial⟩) ?_
          conv => whnf
          refine ⟨TV x, by show (tmvs t.kids)[0]? = _; rw [ek]; rfl, rfl, rfl, ?_⟩
          repeat (conv => whnf); first|refine IndepAnd (by kernel_rfl) ?_|refine ⟨rfl,?_⟩|refine And.intro (by first|decide|exact trivial|exact ⟨_,rfl,rfl⟩|exact ⟨rfl,trivial⟩|exact ⟨rfl,rfl,trivial⟩) ?_
          conv => whnf
          refine ⟨_, CallVC.pr hM rfl rfl, ?_⟩
          cases v with
          | true =>
            have h8 : [TV y] = tmvs G := by rw [eG, if_pos rfl, tmvs1]
            repeat (conv => whnf); first|refine IndepAnd (by kernel_rfl) ?_|refine ⟨rfl,?_⟩|refine And.intro (by first|decide|exact trivial|exact ⟨_,rfl,rfl⟩|exact ⟨rfl,trivial⟩|exact ⟨rfl,rfl,trivial⟩) ?_
            conv => whnf
            refine ⟨TV y, by show (tmvs t.kids)[1]? = _; rw [ek]; rfl, rfl, rfl, ?_⟩
            repeat (conv => whnf); first|refine IndepAnd (by kernel_rfl) ?_|refine ⟨rfl,?_⟩|refine And.intro (by first|decide|exact trivial|exact ⟨_,rfl,rfl⟩|exact ⟨rfl,trivial⟩|exact ⟨rfl,rfl,trivial⟩) ?_
            conv => whnf
            refine ⟨{ k : Nat // k ≤ G.length }, fun k => S.of [(2, .p .nilS), (3, lv L), (4, iv L.length), (5, lv ((G.take k.1).foldl withT next)), (6, iv i), (8, lv G), (11, iv k.1)] [], fun k => G.length - k.1, ⟨0, Nat.zero_le _⟩, ?_, ?_⟩
            · refine Ge.of rfl ?_ ?_
              · repeat (conv => whnf); first | refine ⟨LE.of rfl, ?_⟩ | refine ⟨LE.of (congrArg (fun l => SV.p (PV.lst l)) h8), ?_⟩
                trivial
              · repeat (conv => whnf); refine ⟨OLE.of rfl, ?_⟩
                trivial
            rintro ⟨k, hk⟩
            repeat (conv => whnf); first|refine IndepAnd (by kernel_rfl) ?_|refine ⟨rfl,?_⟩|refine And.intro (by first|decide|exact trivial|exact ⟨_,rfl,rfl⟩|exact ⟨rfl,trivial⟩|exact ⟨rfl,rfl,trivial⟩) ?_
            conv => whnf
            refine @bool_rec _ _ _ ?_ ?_ <;> intro h7
            · have hlt2 : k < G.length := by have := of_decide_eq_true h7; rw [tmvs_length] at this; exact Int.ofNat_lt.1 this
              have et2 := withs_take G next hlt2
              repeat (conv => whnf); first|refine IndepAnd (by kernel_rfl) ?_|refine ⟨rfl,?_⟩|refine And.intro (by first|decide|exact trivial|exact ⟨_,rfl,rfl⟩|exact ⟨rfl,trivial⟩|exact ⟨rfl,rfl,trivial⟩) ?_
              conv => whnf
              refine ⟨Int.natCast_nonneg _, TV G[k], tmvs_getN hlt2, rfl, rfl, ?_⟩
              repeat (conv => whnf); first|refine IndepAnd (by kernel_rfl) ?_|refine ⟨rfl,?_⟩|refine And.intro (by first|decide|exact trivial|exact ⟨_,rfl,rfl⟩|exact ⟨rfl,trivial⟩|exact ⟨rfl,rfl,trivial⟩) ?_
              conv => whnf
              refine ⟨_, CallVC.pr (with_ok b ((G.take k).foldl withT next) G[k] (Xlen k) (Xfit k)) rfl rfl, ?_⟩
              repeat (conv => whnf); first|refine IndepAnd (by kernel_rfl) ?_|refine ⟨rfl,?_⟩|refine And.intro (by first|decide|exact trivial|exact ⟨_,rfl,rfl⟩|exact ⟨rfl,trivial⟩|exact ⟨rfl,rfl,trivial⟩) ?_
              conv => whnf
              refine ⟨_, wrapN (n := k + 1) rfl (by omega), ?_⟩
              repeat (conv => whnf); first|refine IndepAnd (by kernel_rfl) ?_|refine ⟨rfl,?_⟩|refine And.intro (by first|decide|exact trivial|exact ⟨_,rfl,rfl⟩|exact ⟨rfl,trivial⟩|exact ⟨rfl,rfl,trivial⟩) ?_
              conv => whnf
              refine ⟨⟨k + 1, hlt2⟩, ?_, by show G.length - (k + 1) < G.length - k; omega⟩
              refine Ge.of rfl ?_ ?_
              · repeat (conv => whnf); first | refine ⟨LE.of rfl, ?_⟩ | refine ⟨LE.of (congrArg (fun l => SV.p (PV.lst (tmvs l))) et2.symm), ?_⟩
                trivial
              · repeat (conv => whnf); refine ⟨OLE.of rfl, ?_⟩
                trivial
            · have hge : (G.take k).foldl withT next = (moreT (L.map txtT) (L.take (i + 1))).foldl withT L := by
                rw [List.take_of_length_le (by have := of_decide_eq_false h7; rw [tmvs_length] at this; have h6 : ¬ ((k : Int) < G.length) := this; omega), enx]
              repeat (conv => whnf); first|refine IndepAnd (by kernel_rfl) ?_|refine ⟨rfl,?_⟩|refine And.intro (by first|decide|exact trivial|exact ⟨_,rfl,rfl⟩|exact ⟨rfl,trivial⟩|exact ⟨rfl,rfl,trivial⟩) ?_
              conv => whnf
              refine ⟨_, wrapN (n := i + 1) rfl (by omega), ?_⟩
              repeat (conv => whnf); first|refine IndepAnd (by kernel_rfl) ?_|refine ⟨rfl,?_⟩|refine And.intro (by first|decide|exact trivial|exact ⟨_,rfl,rfl⟩|exact ⟨rfl,trivial⟩|exact ⟨rfl,rfl,trivial⟩) ?_
              conv => whnf
              refine ⟨⟨i + 1, hlt⟩, ?_, by show L.length - (i + 1) < L.length - i; omega⟩
              refine Ge.of rfl ?_ ?_
              · repeat (conv => whnf); first | refine ⟨LE.of rfl, ?_⟩ | refine ⟨LE.of (congrArg (fun l => SV.p (PV.lst (tmvs l))) hge), ?_⟩
                trivial
              · repeat (conv => whnf); refine ⟨OLE.of rfl, ?_⟩
                trivial
          | false =>
            have h8 : ([] : List PV) = tmvs G := by rw [eG, if_neg (by decide)]; rfl
            repeat (conv => whnf); first|refine IndepAnd (by kernel_rfl) ?_|refine ⟨rfl,?_⟩|refine And.intro (by first|decide|exact trivial|exact ⟨_,rfl,rfl⟩|exact ⟨rfl,trivial⟩|exact ⟨rfl,rfl,trivial⟩) ?_
            conv => whnf
            refine ⟨{ k : Nat // k ≤ G.length }, fun k => S.of [(2, .p .nilS), (3, lv L), (4, iv L.length), (5, lv ((G.take k.1).foldl withT next)), (6, iv i), (8, lv G), (11, iv k.1)] [], fun k => G.length - k.1, ⟨0, Nat.zero_le _⟩, ?_, ?_⟩
            · refine Ge.of rfl ?_ ?_
              · repeat (conv => whnf); first | refine ⟨LE.of rfl, ?_⟩ | refine ⟨LE.of (congrArg (fun l => SV.p (PV.lst l)) h8), ?_⟩
                trivial
              · repeat (conv => whnf); refine ⟨OLE.of rfl, ?_⟩
                trivial
            rintro ⟨k, hk⟩
            repeat (conv => whnf); first|refine IndepAnd (by kernel_rfl) ?_|refine ⟨rfl,?_⟩|refine And.intro (by first|decide|exact trivial|exact ⟨_,rfl,rfl⟩|exact ⟨rfl,trivial⟩|exact ⟨rfl,rfl,trivial⟩) ?_
            conv => whnf
            refine @bool_rec _ _ _ ?_ ?_ <;> intro h7
            · have hlt2 : k < G.length := by have := of_decide_eq_true h7; rw [tmvs_length] at this; exact Int.ofNat_lt.1 this
              have et2 := withs_take G next hlt2
              repeat (conv => whnf); first|refine IndepAnd (by kernel_rfl) ?_|refine ⟨rfl,?_⟩|refine And.intro (by first|decide|exact trivial|exact ⟨_,rfl,rfl⟩|exact ⟨rfl,trivial⟩|exact ⟨rfl,rfl,trivial⟩) ?_
              conv => whnf
              refine ⟨Int.natCast_nonneg _, TV G[k], tmvs_getN hlt2, rfl, rfl, ?_⟩
              repeat (conv => whnf); first|refine IndepAnd (by kernel_rfl) ?_|refine ⟨rfl,?_⟩|refine And.intro (by first|decide|exact trivial|exact ⟨_,rfl,rfl⟩|exact ⟨rfl,trivial⟩|exact ⟨rfl,rfl,trivial⟩) ?_
              conv => whnf
              refine ⟨_, CallVC.pr (with_ok b ((G.take k).foldl withT next) G[k] (Xlen k) (Xfit k)) rfl rfl, ?_⟩
              repeat (conv => whnf); first|refine IndepAnd (by kernel_rfl) ?_|refine ⟨rfl,?_⟩|refine And.intro (by first|decide|exact trivial|exact ⟨_,rfl,rfl⟩|exact ⟨rfl,trivial⟩|exact ⟨rfl,rfl,trivial⟩) ?_
              conv => whnf
              refine ⟨_, wrapN (n := k + 1) rfl (by omega), ?_⟩
              repeat (conv => whnf); first|refine IndepAnd (by kernel_rfl) ?_|refine ⟨rfl,?_⟩|refine And.intro (by first|decide|exact trivial|exact ⟨_,rfl,rfl⟩|exact ⟨rfl,trivial⟩|exact ⟨rfl,rfl,trivial⟩) ?_
              conv => whnf
              refine ⟨⟨k + 1, hlt2⟩, ?_, by show G.length - (k + 1) < G.length - k; omega⟩
              refine Ge.of rfl ?_ ?_
              · repeat (conv => whnf); first | refine ⟨LE.of rfl, ?_⟩ | refine ⟨LE.of (congrArg (fun l => SV.p (PV.lst (tmvs l))) et2.symm), ?_⟩
                trivial
              · repeat (conv => whnf); refine ⟨OLE.of rfl, ?_⟩
                trivial
            · have hge : (G.take k).foldl withT next = (moreT (L.map txtT) (L.take (i + 1))).foldl withT L := by
                rw [List.take_of_length_le (by have := of_decide_eq_false h7; rw [tmvs_length] at this; have h6 : ¬ ((k : Int) < G.length) := this; omega), enx]
              repeat (conv => whnf); first|refine IndepAnd (by kernel_rfl) ?_|refine ⟨rfl,?_⟩|refine And.intro (by first|decide|exact trivial|exact ⟨_,rfl,rfl⟩|exact ⟨rfl,trivial⟩|exact ⟨rfl,rfl,trivial⟩) ?_
              conv => whnf
              refine ⟨_, wrapN (n := i + 1) rfl (by omega), ?_⟩
              repeat (conv => whnf); first|refine IndepAnd (by kernel_rfl) ?_|refine ⟨rfl,?_⟩|refine And.intro (by first|decide|exact trivial|exact ⟨_,rfl,rfl⟩|exact ⟨rfl,trivial⟩|exact ⟨rfl,rfl,trivial⟩) ?_
              conv => whnf
              refine ⟨⟨i + 1, hlt⟩, ?_, by show L.length - (i + 1) < L.length - i; omega⟩
              refine Ge.of rfl ?_ ?_
              · repeat (conv => whnf); first | refine ⟨LE.of rfl, ?_⟩ | refine ⟨LE.of (congrArg (fun l => SV.p (PV.lst (tmvs l))) hge), ?_⟩
                trivial
              · repeat (conv => whnf); refine ⟨OLE.of rfl, ?_⟩
                trivial
        · have k4 : ¬ t.kind = 4 := of_decide_eq_false k4
          repeat (conv => whnf); first|refine IndepAnd (by kernel_rfl) ?_|refine ⟨rfl,?_⟩|refine And.intro (by first|decide|exact trivial|exact ⟨_,rfl,rfl⟩|exact ⟨rfl,trivial⟩|exact ⟨rfl,rfl,trivial⟩) ?_
          conv => whnf
          refine @bool_rec _ _ _ ?_ ?_ <;> intro k10
          · have k10 : t.kind = 10 := of_decide_eq_true k10
            obtain ⟨x, y, e⟩ := kids2 tg (.inr (.inr (.inr k10)))
            have hx : y ∈ t.kids := by rw [e]; simp
            have ek : tmvs t.kids = [TV x, TV y] := by rw [e]; exact (tmvs2 x y).symm
            obtain ⟨x1, x2, x3, x4⟩ := tkid y hx
            have hM := made8_ok b L y Lok x1 x2 x3
            rw [← mk_mdT Lgd x4] at hM
            rw [gives10 k10 e] at eG
            obtain ⟨v, ev⟩ : ∃ v, v = mkB (L.map txtT) y := ⟨_, rfl⟩
            rw [← ev] at hM eG
            repeat (conv => whnf); first|refine IndepAnd (by kernel_rfl) ?_|refine ⟨rfl,?_⟩|refine And.intro (by first|decide|exact trivial|exact ⟨_,rfl,rfl⟩|exact ⟨rfl,trivial⟩|exact ⟨rfl,rfl,trivial⟩) ?_
            conv => whnf
            refine ⟨TV y, by show (tmvs t.kids)[1]? = _; rw [ek]; rfl, rfl, rfl, ?_⟩
            repeat (conv => whnf); first|refine IndepAnd (by kernel_rfl) ?_|refine ⟨rfl,?_⟩|refine And.intro (by first|decide|exact trivial|exact ⟨_,rfl,rfl⟩|exact ⟨rfl,trivial⟩|exact ⟨rfl,rfl,trivial⟩) ?_
            conv => whnf
            refine ⟨_, CallVC.pr hM rfl rfl, ?_⟩
            cases v with
            | true =>
              have h8 : [TV x] = tmvs G := by rw [eG, if_pos rfl, tmvs1]
              repeat (conv => whnf); first|refine IndepAnd (by kernel_rfl) ?_|refine ⟨rfl,?_⟩|refine And.intro (by first|decide|exact trivial|exact ⟨_,rfl,rfl⟩|exact ⟨rfl,trivial⟩|exact ⟨rfl,rfl,trivial⟩) ?_
              conv => whnf
              refine ⟨TV x, by show (tmvs t.kids)[0]? = _; rw [ek]; rfl, rfl, rfl, ?_⟩
              repeat (conv => whnf); first|refine IndepAnd (by kernel_rfl) ?_|refine ⟨rfl,?_⟩|refine And.intro (by first|decide|exact trivial|exact ⟨_,rfl,rfl⟩|exact ⟨rfl,trivial⟩|exact ⟨rfl,rfl,trivial⟩) ?_
              conv => whnf
              refine ⟨{ k : Nat // k ≤ G.length }, fun k => S.of [(2, .p .nilS), (3, lv L), (4, iv L.length), (5, lv ((G.take k.1).foldl withT next)), (6, iv i), (8, lv G), (11, iv k.1)] [], fun k => G.length - k.1, ⟨0, Nat.zero_le _⟩, ?_, ?_⟩
              · refine Ge.of rfl ?_ ?_
                · repeat (conv => whnf); first | refine ⟨LE.of rfl, ?_⟩ | refine ⟨LE.of (congrArg (fun l => SV.p (PV.lst l)) h8), ?_⟩
                  trivial
                · repeat (conv => whnf); refine ⟨OLE.of rfl, ?_⟩
                  trivial
              rintro ⟨k, hk⟩
              repeat (conv => whnf); first|refine IndepAnd (by kernel_rfl) ?_|refine ⟨rfl,?_⟩|refine And.intro (by first|decide|exact trivial|exact ⟨_,rfl,rfl⟩|exact ⟨rfl,trivial⟩|exact ⟨rfl,rfl,trivial⟩) ?_
              conv => whnf
              refine @bool_rec _ _ _ ?_ ?_ <;> intro h7
              · have hlt2 : k < G.length := by have := of_decide_eq_true h7; rw [tmvs_length] at this; exact Int.ofNat_lt.1 this
                have et2 := withs_take G next hlt2
                repeat (conv => whnf); first|refine IndepAnd (by kernel_rfl) ?_|refine ⟨rfl,?_⟩|refine And.intro (by first|decide|exact trivial|exact ⟨_,rfl,rfl⟩|exact ⟨rfl,trivial⟩|exact ⟨rfl,rfl,trivial⟩) ?_
                conv => whnf
                refine ⟨Int.natCast_nonneg _, TV G[k], tmvs_getN hlt2, rfl, rfl, ?_⟩
                repeat (conv => whnf); first|refine IndepAnd (by kernel_rfl) ?_|refine ⟨rfl,?_⟩|refine And.intro (by first|decide|exact trivial|exact ⟨_,rfl,rfl⟩|exact ⟨rfl,trivial⟩|exact ⟨rfl,rfl,trivial⟩) ?_
                conv => whnf
                refine ⟨_, CallVC.pr (with_ok b ((G.take k).foldl withT next) G[k] (Xlen k) (Xfit k)) rfl rfl, ?_⟩
                repeat (conv => whnf); first|refine IndepAnd (by kernel_rfl) ?_|refine ⟨rfl,?_⟩|refine And.intro (by first|decide|exact trivial|exact ⟨_,rfl,rfl⟩|exact ⟨rfl,trivial⟩|exact ⟨rfl,rfl,trivial⟩) ?_
                conv => whnf
                refine ⟨_, wrapN (n := k + 1) rfl (by omega), ?_⟩
                repeat (conv => whnf); first|refine IndepAnd (by kernel_rfl) ?_|refine ⟨rfl,?_⟩|refine And.intro (by first|decide|exact trivial|exact ⟨_,rfl,rfl⟩|exact ⟨rfl,trivial⟩|exact ⟨rfl,rfl,trivial⟩) ?_
                conv => whnf
                refine ⟨⟨k + 1, hlt2⟩, ?_, by show G.length - (k + 1) < G.length - k; omega⟩
                refine Ge.of rfl ?_ ?_
                · repeat (conv => whnf); first | refine ⟨LE.of rfl, ?_⟩ | refine ⟨LE.of (congrArg (fun l => SV.p (PV.lst (tmvs l))) et2.symm), ?_⟩
                  trivial
                · repeat (conv => whnf); refine ⟨OLE.of rfl, ?_⟩
                  trivial
              · have hge : (G.take k).foldl withT next = (moreT (L.map txtT) (L.take (i + 1))).foldl withT L := by
                  rw [List.take_of_length_le (by have := of_decide_eq_false h7; rw [tmvs_length] at this; have h6 : ¬ ((k : Int) < G.length) := this; omega), enx]
                repeat (conv => whnf); first|refine IndepAnd (by kernel_rfl) ?_|refine ⟨rfl,?_⟩|refine And.intro (by first|decide|exact trivial|exact ⟨_,rfl,rfl⟩|exact ⟨rfl,trivial⟩|exact ⟨rfl,rfl,trivial⟩) ?_
                conv => whnf
                refine ⟨_, wrapN (n := i + 1) rfl (by omega), ?_⟩
                repeat (conv => whnf); first|refine IndepAnd (by kernel_rfl) ?_|refine ⟨rfl,?_⟩|refine And.intro (by first|decide|exact trivial|exact ⟨_,rfl,rfl⟩|exact ⟨rfl,trivial⟩|exact ⟨rfl,rfl,trivial⟩) ?_
                conv => whnf
                refine ⟨⟨i + 1, hlt⟩, ?_, by show L.length - (i + 1) < L.length - i; omega⟩
                refine Ge.of rfl ?_ ?_
                · repeat (conv => whnf); first | refine ⟨LE.of rfl, ?_⟩ | refine ⟨LE.of (congrArg (fun l => SV.p (PV.lst (tmvs l))) hge), ?_⟩
                  trivial
                · repeat (conv => whnf); refine ⟨OLE.of rfl, ?_⟩
                  trivial
            | false =>
              have h8 : ([] : List PV) = tmvs G := by rw [eG, if_neg (by decide)]; rfl
              repeat (conv => whnf); first|refine IndepAnd (by kernel_rfl) ?_|refine ⟨rfl,?_⟩|refine And.intro (by first|decide|exact trivial|exact ⟨_,rfl,rfl⟩|exact ⟨rfl,trivial⟩|exact ⟨rfl,rfl,trivial⟩) ?_
              conv => whnf
              refine ⟨{ k : Nat // k ≤ G.length }, fun k => S.of [(2, .p .nilS), (3, lv L), (4, iv L.length), (5, lv ((G.take k.1).foldl withT next)), (6, iv i), (8, lv G), (11, iv k.1)] [], fun k => G.length - k.1, ⟨0, Nat.zero_le _⟩, ?_, ?_⟩
              · refine Ge.of rfl ?_ ?_
                · repeat (conv => whnf); first | refine ⟨LE.of rfl, ?_⟩ | refine ⟨LE.of (congrArg (fun l => SV.p (PV.lst l)) h8), ?_⟩
                  trivial
                · repeat (conv => whnf); refine ⟨OLE.of rfl, ?_⟩
                  trivial
              rintro ⟨k, hk⟩
              repeat (conv => whnf); first|refine IndepAnd (by kernel_rfl) ?_|refine ⟨rfl,?_⟩|refine And.intro (by first|decide|exact trivial|exact ⟨_,rfl,rfl⟩|exact ⟨rfl,trivial⟩|exact ⟨rfl,rfl,trivial⟩) ?_
              conv => whnf
              refine @bool_rec _ _ _ ?_ ?_ <;> intro h7
              · have hlt2 : k < G.length := by have := of_decide_eq_true h7; rw [tmvs_length] at this; exact Int.ofNat_lt.1 this
                have et2 := withs_take G next hlt2
                repeat (conv => whnf); first|refine IndepAnd (by kernel_rfl) ?_|refine ⟨rfl,?_⟩|refine And.intro (by first|decide|exact trivial|exact ⟨_,rfl,rfl⟩|exact ⟨rfl,trivial⟩|exact ⟨rfl,rfl,trivial⟩) ?_
                conv => whnf
                refine ⟨Int.natCast_nonneg _, TV G[k], tmvs_getN hlt2, rfl, rfl, ?_⟩
                repeat (conv => whnf); first|refine IndepAnd (by kernel_rfl) ?_|refine ⟨rfl,?_⟩|refine And.intro (by first|decide|exact trivial|exact ⟨_,rfl,rfl⟩|exact ⟨rfl,trivial⟩|exact ⟨rfl,rfl,trivial⟩) ?_
                conv => whnf
                refine ⟨_, CallVC.pr (with_ok b ((G.take k).foldl withT next) G[k] (Xlen k) (Xfit k)) rfl rfl, ?_⟩
                repeat (conv => whnf); first|refine IndepAnd (by kernel_rfl) ?_|refine ⟨rfl,?_⟩|refine And.intro (by first|decide|exact trivial|exact ⟨_,rfl,rfl⟩|exact ⟨rfl,trivial⟩|exact ⟨rfl,rfl,trivial⟩) ?_
                conv => whnf
                refine ⟨_, wrapN (n := k + 1) rfl (by omega), ?_⟩
                repeat (conv => whnf); first|refine IndepAnd (by kernel_rfl) ?_|refine ⟨rfl,?_⟩|refine And.intro (by first|decide|exact trivial|exact ⟨_,rfl,rfl⟩|exact ⟨rfl,trivial⟩|exact ⟨rfl,rfl,trivial⟩) ?_
                conv => whnf
                refine ⟨⟨k + 1, hlt2⟩, ?_, by show G.length - (k + 1) < G.length - k; omega⟩
                refine Ge.of rfl ?_ ?_
                · repeat (conv => whnf); first | refine ⟨LE.of rfl, ?_⟩ | refine ⟨LE.of (congrArg (fun l => SV.p (PV.lst (tmvs l))) et2.symm), ?_⟩
                  trivial
                · repeat (conv => whnf); refine ⟨OLE.of rfl, ?_⟩
                  trivial
              · have hge : (G.take k).foldl withT next = (moreT (L.map txtT) (L.take (i + 1))).foldl withT L := by
                  rw [List.take_of_length_le (by have := of_decide_eq_false h7; rw [tmvs_length] at this; have h6 : ¬ ((k : Int) < G.length) := this; omega), enx]
                repeat (conv => whnf); first|refine IndepAnd (by kernel_rfl) ?_|refine ⟨rfl,?_⟩|refine And.intro (by first|decide|exact trivial|exact ⟨_,rfl,rfl⟩|exact ⟨rfl,trivial⟩|exact ⟨rfl,rfl,trivial⟩) ?_
                conv => whnf
                refine ⟨_, wrapN (n := i + 1) rfl (by omega), ?_⟩
                repeat (conv => whnf); first|refine IndepAnd (by kernel_rfl) ?_|refine ⟨rfl,?_⟩|refine And.intro (by first|decide|exact trivial|exact ⟨_,rfl,rfl⟩|exact ⟨rfl,trivial⟩|exact ⟨rfl,rfl,trivial⟩) ?_
                conv => whnf
                refine ⟨⟨i + 1, hlt⟩, ?_, by show L.length - (i + 1) < L.length - i; omega⟩
                refine Ge.of rfl ?_ ?_
                · repeat (conv => whnf); first | refine ⟨LE.of rfl, ?_⟩ | refine ⟨LE.of (congrArg (fun l => SV.p (PV.lst (tmvs l))) hge), ?_⟩
                  trivial
                · repeat (conv => whnf); refine ⟨OLE.of rfl, ?_⟩
                  trivial
          · have k10 : ¬ t.kind = 10 := of_decide_eq_false k10
            have h8 : ([] : List PV) = tmvs G := by rw [eG, gives0 k3 k4 k10]; rfl
            repeat (conv => whnf); first|refine IndepAnd (by kernel_rfl) ?_|refine ⟨rfl,?_⟩|refine And.intro (by first|decide|exact trivial|exact ⟨_,rfl,rfl⟩|exact ⟨rfl,trivial⟩|exact ⟨rfl,rfl,trivial⟩) ?_
            conv => whnf
            refine ⟨{ k : Nat // k ≤ G.length }, fun k => S.of [(2, .p .nilS), (3, lv L), (4, iv L.length), (5, lv ((G.take k.1).foldl withT next)), (6, iv i), (8, lv G), (11, iv k.1)] [], fun k => G.length - k.1, ⟨0, Nat.zero_le _⟩, ?_, ?_⟩
            · refine Ge.of rfl ?_ ?_
              · repeat (conv => whnf); first | refine ⟨LE.of rfl, ?_⟩ | refine ⟨LE.of (congrArg (fun l => SV.p (PV.lst l)) h8), ?_⟩
                trivial
              · repeat (conv => whnf); refine ⟨OLE.of rfl, ?_⟩
                trivial
            rintro ⟨k, hk⟩
            repeat (conv => whnf); first|refine IndepAnd (by kernel_rfl) ?_|refine ⟨rfl,?_⟩|refine And.intro (by first|decide|exact trivial|exact ⟨_,rfl,rfl⟩|exact ⟨rfl,trivial⟩|exact ⟨rfl,rfl,trivial⟩) ?_
            conv => whnf
            refine @bool_rec _ _ _ ?_ ?_ <;> intro h7
            · have hlt2 : k < G.length := by have := of_decide_eq_true h7; rw [tmvs_length] at this; exact Int.ofNat_lt.1 this
              have et2 := withs_take G next hlt2
              repeat (conv => whnf); first|refine IndepAnd (by kernel_rfl) ?_|refine ⟨rfl,?_⟩|refine And.intro (by first|decide|exact trivial|exact ⟨_,rfl,rfl⟩|exact ⟨rfl,trivial⟩|exact ⟨rfl,rfl,trivial⟩) ?_
              conv => whnf
              refine ⟨Int.natCast_nonneg _, TV G[k], tmvs_getN hlt2, rfl, rfl, ?_⟩
              repeat (conv => whnf); first|refine IndepAnd (by kernel_rfl) ?_|refine ⟨rfl,?_⟩|refine And.intro (by first|decide|exact trivial|exact ⟨_,rfl,rfl⟩|exact ⟨rfl,trivial⟩|exact ⟨rfl,rfl,trivial⟩) ?_
              conv => whnf
              refine ⟨_, CallVC.pr (with_ok b ((G.take k).foldl withT next) G[k] (Xlen k) (Xfit k)) rfl rfl, ?_⟩
              repeat (conv => whnf); first|refine IndepAnd (by kernel_rfl) ?_|refine ⟨rfl,?_⟩|refine And.intro (by first|decide|exact trivial|exact ⟨_,rfl,rfl⟩|exact ⟨rfl,trivial⟩|exact ⟨rfl,rfl,trivial⟩) ?_
              conv => whnf
              refine ⟨_, wrapN (n := k + 1) rfl (by omega), ?_⟩
              repeat (conv => whnf); first|refine IndepAnd (by kernel_rfl) ?_|refine ⟨rfl,?_⟩|refine And.intro (by first|decide|exact trivial|exact ⟨_,rfl,rfl⟩|exact ⟨rfl,trivial⟩|exact ⟨rfl,rfl,trivial⟩) ?_
              conv => whnf
              refine ⟨⟨k + 1, hlt2⟩, ?_, by show G.length - (k + 1) < G.length - k; omega⟩
              refine Ge.of rfl ?_ ?_
              · repeat (conv => whnf); first | refine ⟨LE.of rfl, ?_⟩ | refine ⟨LE.of (congrArg (fun l => SV.p (PV.lst (tmvs l))) et2.symm), ?_⟩
                trivial
              · repeat (conv => whnf); refine ⟨OLE.of rfl, ?_⟩
                trivial
            · have hge : (G.take k).foldl withT next = (moreT (L.map txtT) (L.take (i + 1))).foldl withT L := by
                rw [List.take_of_length_le (by have := of_decide_eq_false h7; rw [tmvs_length] at this; have h6 : ¬ ((k : Int) < G.length) := this; omega), enx]
              repeat (conv => whnf); first|refine IndepAnd (by kernel_rfl) ?_|refine ⟨rfl,?_⟩|refine And.intro (by first|decide|exact trivial|exact ⟨_,rfl,rfl⟩|exact ⟨rfl,trivial⟩|exact ⟨rfl,rfl,trivial⟩) ?_
              conv => whnf
              refine ⟨_, wrapN (n := i + 1) rfl (by omega), ?_⟩
              repeat (conv => whnf); first|refine IndepAnd (by kernel_rfl) ?_|refine ⟨rfl,?_⟩|refine And.intro (by first|decide|exact trivial|exact ⟨_,rfl,rfl⟩|exact ⟨rfl,trivial⟩|exact ⟨rfl,rfl,trivial⟩) ?_
              conv => whnf
              refine ⟨⟨i + 1, hlt⟩, ?_, by show L.length - (i + 1) < L.length - i; omega⟩
              refine Ge.of rfl ?_ ?_
              · repeat (conv => whnf); first | refine ⟨LE.of rfl, ?_⟩ | refine ⟨LE.of (congrArg (fun l => SV.p (PV.lst (tmvs l))) hge), ?_⟩
                trivial
              · repeat (conv => whnf); refine ⟨OLE.of rfl, ?_⟩
                trivial
    · have hge : (moreT (L.map txtT) (L.take i)).foldl withT L = (itK (ofT frame) (j + 1)).l := by
        rw [List.take_of_length_le (by have h5 : ¬ ((i : Nat) : Int) < (L.length : Int) := of_decide_eq_false h5; omega), ew]
      repeat (conv => whnf); first|refine IndepAnd (by kernel_rfl) ?_|refine ⟨rfl,?_⟩|refine And.intro (by first|decide|exact trivial|exact ⟨_,rfl,rfl⟩|exact ⟨rfl,trivial⟩|exact ⟨rfl,rfl,trivial⟩) ?_
      conv => whnf
      refine ⟨⟨j + 1, hj1⟩, ?_, by show 2002 - (j + 1) < 2002 - j; omega⟩
      refine Ge.of rfl ?_ ?_
      · repeat (conv => whnf); first | refine ⟨LE.of rfl, ?_⟩ | refine ⟨LE.of (congrArg (fun l => SV.p (PV.lst (tmvs l))) hge), ?_⟩ | refine ⟨LE.of (congrArg (fun M : List Tm => iv (M.length : Int)) eL), ?_⟩
        trivial
      · repeat (conv => whnf); refine ⟨OLE.of rfl, ?_⟩
        trivial
  · have h4 : ¬ nA frame j.1 < ((itK (ofT frame) j.1).l.length : Int) := by have := of_decide_eq_false h4; rw [tmvs_length] at this; exact this
    obtain ⟨j, hj⟩ := j
    cases j with
    | zero => exact absurd (show (-1 : Int) < (((itK (ofT frame) 0).l.length : Nat) : Int) by omega) h4
    | succ j =>
      have h4 : ¬ ((itK (ofT frame) j).l.length : Int) < ((itK (ofT frame) (j + 1)).l.length : Int) := h4
      have e := hE (j + 1) hj (by omega) (by rw [Nat.add_sub_cancel]; omega)
      repeat (conv => whnf); first|refine IndepAnd (by kernel_rfl) ?_|refine ⟨rfl,?_⟩|refine And.intro (by first|decide|exact trivial|exact ⟨_,rfl,rfl⟩|exact ⟨rfl,trivial⟩|exact ⟨rfl,rfl,trivial⟩) ?_
      conv => whnf
      exact LEP.of (congrArg (fun k : Kn => PV.lst (tmvs k.l)) e)
theorem mdT_an {l : List Tm} (h : Frm l) (t : Tm) : mdT (anT l) t = knT l t := by
  have w := h.wk
  have g : ∀ t ∈ anT l, gdT t := fun t ht => ⟨w.ne t ht, w.can t ht⟩
  have hc := can_can t
  rw [Bool.eq_iff_iff, knT_iff, ← h.fin.iff hc]
  have e : mdT (anT l) t = mdT (anT l) (canT t) := by rw [Bool.eq_iff_iff, mdT_iff, mdT_iff, hc]
  rw [e, ← mk_mdT g hc, ← w.s]
theorem an_okl {l : List Tm} (h : Frm l) : Okl (anT l) := ⟨h.wk.fit, h.wk.wt, by
  have h1 := h.wk.len
  rw [univ_len] at h1
  have h2 := h.sz
  show (anK l).l.length ≤ 1000000
  omega⟩
theorem knows8_ok (b : Bool) (frame : List Tm) (t : Tm) (h : Frm frame) (hf : Fit t) (hw : wt t ≤ 1000000000) (hs : t.size ≤ 10000) : K b 14 [lv frame, tv t] (.pv (.bool (knT frame t))) := by
  have hM := made8_ok b (anT frame) t (an_okl h) hf hw hs
  rw [mdT_an h] at hM
  refine PC_of_vc (cx_ok b) (mixed b) {} Tryd.func14 (by kernel_rfl) rfl rfl (by kernel_rfl) ?_
  repeat (conv => whnf); first|refine IndepAnd (by kernel_rfl) ?_|refine ⟨rfl,?_⟩|refine And.intro (by first|decide|exact trivial|exact ⟨_,rfl,rfl⟩|exact ⟨rfl,trivial⟩|exact ⟨rfl,rfl,trivial⟩) ?_
  conv => whnf
  refine ⟨_, CallVC.pr (analyze8_ok b frame h) rfl rfl, ?_⟩
  repeat (conv => whnf); first|refine IndepAnd (by kernel_rfl) ?_|refine ⟨rfl,?_⟩|refine And.intro (by first|decide|exact trivial|exact ⟨_,rfl,rfl⟩|exact ⟨rfl,trivial⟩|exact ⟨rfl,rfl,trivial⟩) ?_
  conv => whnf
  refine ⟨_, CallVC.pr hM rfl rfl, ?_⟩
  repeat (conv => whnf); first|refine IndepAnd (by kernel_rfl) ?_|refine ⟨rfl,?_⟩|refine And.intro (by first|decide|exact trivial|exact ⟨_,rfl,rfl⟩|exact ⟨rfl,trivial⟩|exact ⟨rfl,rfl,trivial⟩) ?_
  conv => whnf
  exact LEP.refl _
end Go.Sl
