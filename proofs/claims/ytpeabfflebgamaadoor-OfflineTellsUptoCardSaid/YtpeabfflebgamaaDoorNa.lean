/- Contracts of layer 8's laws: how many, and few. -/
/- short -/
import Derived.Test.YtpeabfflebgamaaDoorJc
import Derived.Test.YtpeabfflebgamaaDoorGg
set_option linter.unusedVariables false
set_option linter.unusedSimpArgs false
namespace Go.Sl
open Go Go.Vc Go.Proofs Go.RowKit

theorem count8_ok (b : Bool) : ∀ t, Fit t → K b 26 [tv t] (.pv (.int .i64 ((min t.size 21 : Nat) : Int))) := by
  intro t
  induction t using Tm.indk with
  | h t ih =>
  intro hf
  have hlen := hf.len
  have hts := Tm.size_eq t
  refine PC_of_vc (cx_ok b) (mixed b) {} Tryd.func26 (by kernel_rfl) rfl rfl (by kernel_rfl) ?_
  repeat (conv => whnf); first|refine IndepAnd (by kernel_rfl) ?_|refine ⟨rfl,?_⟩|refine And.intro (by first|decide|exact trivial|exact ⟨_,rfl,rfl⟩|exact ⟨rfl,trivial⟩|exact ⟨rfl,rfl,trivial⟩) ?_
  conv => whnf
  refine ⟨{ x : Nat × Nat // x.1 ≤ t.kids.length ∧ min x.2 21 = min (Tm.sizes (t.kids.take x.1) + 1) 21 ∧ x.2 ≤ 2 * 20 + 2 }, fun x => S.of [(1, .ptr 1 0), (3, iv x.1.2), (4, iv x.1.1)] [(1, .var true 24 (tv t))], fun x => t.kids.length - x.1.1, ⟨(0, 1), Nat.zero_le _, by simp [Tm.sizes], by omega⟩, ?_, ?_⟩
  · refine Ge.of rfl ?_ ?_
    · repeat (conv => whnf); refine ⟨LE.of rfl, ?_⟩
      trivial
    · repeat (conv => whnf); refine ⟨OLE.of rfl, ?_⟩
      trivial
  rintro ⟨⟨i, n⟩, hi, hn, hb⟩
  have hi : i ≤ t.kids.length := hi
  have hn : min n 21 = min (Tm.sizes (t.kids.take i) + 1) 21 := hn
  have hb : n ≤ 2 * 20 + 2 := hb
  have hst := sizes_take_le t.kids i
  repeat (conv => whnf); first|refine IndepAnd (by kernel_rfl) ?_|refine ⟨rfl,?_⟩|refine And.intro (by first|decide|exact trivial|exact ⟨_,rfl,rfl⟩|exact ⟨rfl,trivial⟩|exact ⟨rfl,rfl,trivial⟩) ?_
  conv => whnf
  refine @bool_rec _ _ _ ?_ ?_ <;> intro h1
  · have hlt : i < t.kids.length := by have := of_decide_eq_true h1; rw [tmvs_length] at this; exact Int.ofNat_lt.1 this
    repeat (conv => whnf); first|refine IndepAnd (by kernel_rfl) ?_|refine ⟨rfl,?_⟩|refine And.intro (by first|decide|exact trivial|exact ⟨_,rfl,rfl⟩|exact ⟨rfl,trivial⟩|exact ⟨rfl,rfl,trivial⟩) ?_
    conv => whnf
    refine @bool_rec _ _ _ ?_ ?_ <;> intro h2
    · have h2 : n ≤ 20 := by have : (n : Int) ≤ 20 := of_decide_eq_true h2; omega
      have htk := Tm.sizes_take hlt
      repeat (conv => whnf); first|refine IndepAnd (by kernel_rfl) ?_|refine ⟨rfl,?_⟩|refine And.intro (by first|decide|exact trivial|exact ⟨_,rfl,rfl⟩|exact ⟨rfl,trivial⟩|exact ⟨rfl,rfl,trivial⟩) ?_
      conv => whnf
      refine ⟨Int.natCast_nonneg _, TV t.kids[i], tmvs_getN hlt, rfl, rfl, ?_⟩
      repeat (conv => whnf); first|refine IndepAnd (by kernel_rfl) ?_|refine ⟨rfl,?_⟩|refine And.intro (by first|decide|exact trivial|exact ⟨_,rfl,rfl⟩|exact ⟨rfl,trivial⟩|exact ⟨rfl,rfl,trivial⟩) ?_
      conv => whnf
      refine ⟨_, CallVC.pr (ih t.kids[i] (List.getElem_mem hlt) (hf.kid (List.getElem_mem hlt))) rfl rfl, ?_⟩
      repeat (conv => whnf); first|refine IndepAnd (by kernel_rfl) ?_|refine ⟨rfl,?_⟩|refine And.intro (by first|decide|exact trivial|exact ⟨_,rfl,rfl⟩|exact ⟨rfl,trivial⟩|exact ⟨rfl,rfl,trivial⟩) ?_
      conv => whnf
      refine ⟨_, wrapN (n := n + min t.kids[i].size 21) rfl (by omega), ?_⟩
      repeat (conv => whnf); first|refine IndepAnd (by kernel_rfl) ?_|refine ⟨rfl,?_⟩|refine And.intro (by first|decide|exact trivial|exact ⟨_,rfl,rfl⟩|exact ⟨rfl,trivial⟩|exact ⟨rfl,rfl,trivial⟩) ?_
      conv => whnf
      refine ⟨_, wrapN (n := i + 1) rfl (by omega), ?_⟩
      repeat (conv => whnf); first|refine IndepAnd (by kernel_rfl) ?_|refine ⟨rfl,?_⟩|refine And.intro (by first|decide|exact trivial|exact ⟨_,rfl,rfl⟩|exact ⟨rfl,trivial⟩|exact ⟨rfl,rfl,trivial⟩) ?_
      conv => whnf
      refine ⟨⟨(i + 1, n + min t.kids[i].size 21), hlt, ?_, ?_⟩, ?_, by show t.kids.length - (i + 1) < t.kids.length - i; omega⟩
      · show min (n + min t.kids[i].size 21) 21 = min (Tm.sizes (t.kids.take (i + 1)) + 1) 21
        omega
      · show n + min t.kids[i].size 21 ≤ 2 * 20 + 2
        omega
      · refine Ge.of rfl ?_ ?_
        · repeat (conv => whnf); refine ⟨LE.of rfl, ?_⟩
          trivial
        · repeat (conv => whnf); refine ⟨OLE.of rfl, ?_⟩
          trivial
    · have h2 : 20 < n := by have : ¬ (n : Int) ≤ 20 := of_decide_eq_false h2; omega
      repeat (conv => whnf); first|refine IndepAnd (by kernel_rfl) ?_|refine ⟨rfl,?_⟩|refine And.intro (by first|decide|exact trivial|exact ⟨_,rfl,rfl⟩|exact ⟨rfl,trivial⟩|exact ⟨rfl,rfl,trivial⟩) ?_
      conv => whnf
      refine LEP.of (congrArg (PV.int .i64) ?_)
      show min (n : Int) 21 = _
      omega
  · have hge : t.kids.take i = t.kids := List.take_of_length_le (by have := of_decide_eq_false h1; rw [tmvs_length] at this; have h5 : ¬ ((i : Int) < t.kids.length) := this; omega)
    rw [hge] at hn
    repeat (conv => whnf); first|refine IndepAnd (by kernel_rfl) ?_|refine ⟨rfl,?_⟩|refine And.intro (by first|decide|exact trivial|exact ⟨_,rfl,rfl⟩|exact ⟨rfl,trivial⟩|exact ⟨rfl,rfl,trivial⟩) ?_
    conv => whnf
    refine LEP.of (congrArg (PV.int .i64) ?_)
    show min (n : Int) 21 = _
    omega
theorem small8_ok (b : Bool) (t : Tm) (hf : Fit t) : K b 7 [tv t] (.pv (.bool (decide (t.size ≤ 20)))) := by
  refine PC_of_vc (cx_ok b) (mixed b) {} Tryd.func7 (by kernel_rfl) rfl rfl (by kernel_rfl) ?_
  repeat (conv => whnf); first|refine IndepAnd (by kernel_rfl) ?_|refine ⟨rfl,?_⟩|refine And.intro (by first|decide|exact trivial|exact ⟨_,rfl,rfl⟩|exact ⟨rfl,trivial⟩|exact ⟨rfl,rfl,trivial⟩) ?_
  conv => whnf
  refine ⟨_, CallVC.pr (count8_ok b t hf) rfl rfl, ?_⟩
  repeat (conv => whnf); first|refine IndepAnd (by kernel_rfl) ?_|refine ⟨rfl,?_⟩|refine And.intro (by first|decide|exact trivial|exact ⟨_,rfl,rfl⟩|exact ⟨rfl,trivial⟩|exact ⟨rfl,rfl,trivial⟩) ?_
  conv => whnf
  refine LEP.of (congrArg PV.bool ?_)
  have e : ∀ n : Nat, decide (((min n 21 : Nat) : Int) ≤ 20) = decide (n ≤ 20) := fun n => by rw [decide_eq_decide]; omega
  exact e t.size
/-- So many terms, none of more than so many terms. -/
def fewN8 : Nat → List Tm → List Tm
  | 0, _ => []
  | _, [] => []
  | n + 1, t :: l => if t.size ≤ 20 then t :: fewN8 n l else fewN8 (n + 1) l
def few8 (l : List Tm) : List Tm := fewN8 8 l
structure FewI8 (l : List Tm) (i : Nat) (o : List Tm) : Prop where
  hi : i ≤ l.length
  hn : o.length ≤ 8
  he : o ++ fewN8 (8 - o.length) (l.drop i) = few8 l
theorem fewN_zero8 : ∀ l : List Tm, fewN8 0 l = []
  | [] => rfl
  | _ :: _ => rfl
theorem fewN_nil8 : ∀ n : Nat, fewN8 n [] = []
  | 0 => rfl
  | _ + 1 => rfl
theorem fewN_mem8 : ∀ (n : Nat) (l : List Tm) (t : Tm), t ∈ fewN8 n l → t ∈ l ∧ t.size ≤ 20
  | 0, l, t, h => by rw [fewN_zero8] at h; cases h
  | n + 1, [], t, h => by cases h
  | n + 1, u :: l, t, h => by
    rw [fewN8] at h
    split at h
    · cases h with
      | head => exact ⟨List.mem_cons_self .., by assumption⟩
      | tail _ h => have := fewN_mem8 n l t h; exact ⟨List.mem_cons_of_mem _ this.1, this.2⟩
    · have := fewN_mem8 (n + 1) l t h; exact ⟨List.mem_cons_of_mem _ this.1, this.2⟩
theorem fewN_len8 : ∀ (n : Nat) (l : List Tm), (fewN8 n l).length ≤ n
  | 0, l => by rw [fewN_zero8]; exact Nat.le_refl _
  | n + 1, [] => Nat.zero_le _
  | n + 1, u :: l => by
    rw [fewN8]
    split
    · have := fewN_len8 n l; simp; exact this
    · exact fewN_len8 (n + 1) l
theorem few_mem8 {l : List Tm} {t : Tm} (h : t ∈ few8 l) : t ∈ l ∧ t.size ≤ 20 := fewN_mem8 _ l t h
theorem few_len8 (l : List Tm) : (few8 l).length ≤ 8 := fewN_len8 _ l
theorem fewN_wt8 : ∀ (n : Nat) (l : List Tm), wts (fewN8 n l) ≤ wts l
  | 0, l => by rw [fewN_zero8]; exact Nat.zero_le _
  | n + 1, [] => Nat.le_refl _
  | n + 1, u :: l => by
    rw [fewN8]
    split
    · have := fewN_wt8 n l; simp only [wts]; omega
    · have := fewN_wt8 (n + 1) l; simp only [wts]; omega
theorem few_wt8 (l : List Tm) : wts (few8 l) ≤ wts l := fewN_wt8 _ l
theorem sizes_le8 {l : List Tm} (h : ∀ t ∈ l, t.size ≤ 20) : Tm.sizes l ≤ l.length * 20 := by
  induction l with
  | nil => simp [Tm.sizes]
  | cons t l ih => have := h t (List.mem_cons_self ..); have := ih fun u hu => h u (List.mem_cons_of_mem _ hu); simp only [Tm.sizes, List.length_cons, Nat.succ_mul]; omega
theorem few_sizes8 (l : List Tm) : Tm.sizes (few8 l) ≤ 8 * 20 := by
  have h1 := sizes_le8 (l := few8 l) fun t ht => (few_mem8 ht).2
  have h2 := few_len8 l
  have h3 : (few8 l).length * 20 ≤ 8 * 20 := Nat.mul_le_mul_right _ h2
  omega
theorem few8_ok (l : List Tm) (hf : ∀ t ∈ l, Fit t) (hl : l.length ≤ 9223372036854775807) : K true 6 [lv l] (.pv (.lst (tmvs (few8 l)))) := by
  refine PC_of_vc (cx_ok true) (mixed true) { own := fun q => Nat.beq q 3 || Nat.beq q 27 } Tryd.func6 (by kernel_rfl) rfl rfl (by kernel_rfl) ?_
  repeat (conv => whnf); first|refine IndepAnd (by kernel_rfl) ?_|refine ⟨rfl,?_⟩|refine And.intro (by first|decide|exact trivial|exact ⟨_,rfl,rfl⟩|exact ⟨rfl,trivial⟩|exact ⟨rfl,rfl,trivial⟩) ?_
  conv => whnf
  refine ⟨{ x : Nat × List Tm // FewI8 l x.1 x.2 }, fun x => S.of [(0, lv l), (3, .slc 3), (4, iv x.1.1)] [(3, .row 24 3 (tmvs x.1.2))], fun x => l.length - x.1.1, ⟨(0, []), Nat.zero_le _, by simp, by simp [few8]⟩, ?_, ?_⟩
  · refine Ge.of rfl ?_ ?_
    · repeat (conv => whnf); refine ⟨LE.of rfl, ?_⟩
      trivial
    · repeat (conv => whnf); refine ⟨OLE.of rfl, ?_⟩
      trivial
  rintro ⟨⟨i, o⟩, hI⟩
  have hI : FewI8 l i o := hI
  obtain ⟨hi, hn, he⟩ := hI
  repeat (conv => whnf); first|refine IndepAnd (by kernel_rfl) ?_|refine ⟨rfl,?_⟩|refine And.intro (by first|decide|exact trivial|exact ⟨_,rfl,rfl⟩|exact ⟨rfl,trivial⟩|exact ⟨rfl,rfl,trivial⟩) ?_
  conv => whnf
  refine @bool_rec _ _ _ ?_ ?_ <;> intro h1
  · have hlt : i < l.length := by have := of_decide_eq_true h1; rw [tmvs_length] at this; exact Int.ofNat_lt.1 this
    have hd : l.drop i = l[i] :: l.drop (i + 1) := List.drop_eq_getElem_cons hlt
    repeat (conv => whnf); first|refine IndepAnd (by kernel_rfl) ?_|refine ⟨rfl,?_⟩|refine And.intro (by first|decide|exact trivial|exact ⟨_,rfl,rfl⟩|exact ⟨rfl,trivial⟩|exact ⟨rfl,rfl,trivial⟩) ?_
    conv => whnf
    refine @bool_rec _ _ _ ?_ ?_ <;> intro h2
    · have h2 : o.length < 8 := by have := of_decide_eq_true h2; rw [tmvs_length] at this; have : (o.length : Int) < 8 := this; omega
      obtain ⟨m, hm⟩ : ∃ m, 8 - o.length = m + 1 := ⟨8 - o.length - 1, by omega⟩
      rw [hd, hm, fewN8] at he
      repeat (conv => whnf); first|refine IndepAnd (by kernel_rfl) ?_|refine ⟨rfl,?_⟩|refine And.intro (by first|decide|exact trivial|exact ⟨_,rfl,rfl⟩|exact ⟨rfl,trivial⟩|exact ⟨rfl,rfl,trivial⟩) ?_
      conv => whnf
      refine ⟨Int.natCast_nonneg _, TV l[i], tmvs_getN hlt, rfl, rfl, ?_⟩
      repeat (conv => whnf); first|refine IndepAnd (by kernel_rfl) ?_|refine ⟨rfl,?_⟩|refine And.intro (by first|decide|exact trivial|exact ⟨_,rfl,rfl⟩|exact ⟨rfl,trivial⟩|exact ⟨rfl,rfl,trivial⟩) ?_
      conv => whnf
      refine ⟨_, CallVC.pr (small8_ok true l[i] (hf _ (List.getElem_mem hlt))) rfl rfl, ?_⟩
      repeat (conv => whnf); first|refine IndepAnd (by kernel_rfl) ?_|refine ⟨rfl,?_⟩|refine And.intro (by first|decide|exact trivial|exact ⟨_,rfl,rfl⟩|exact ⟨rfl,trivial⟩|exact ⟨rfl,rfl,trivial⟩) ?_
      conv => whnf
      refine @bool_rec _ _ _ ?_ ?_ <;> intro h3
      · have h3 : l[i].size ≤ 20 := of_decide_eq_true h3
        rw [if_pos h3] at he
        repeat (conv => whnf); first|refine IndepAnd (by kernel_rfl) ?_|refine ⟨rfl,?_⟩|refine And.intro (by first|decide|exact trivial|exact ⟨_,rfl,rfl⟩|exact ⟨rfl,trivial⟩|exact ⟨rfl,rfl,trivial⟩) ?_
        conv => whnf
        refine ⟨Int.natCast_nonneg _, TV l[i], tmvs_getN hlt, rfl, rfl, ?_⟩
        repeat (conv => whnf); first|refine IndepAnd (by kernel_rfl) ?_|refine ⟨rfl,?_⟩|refine And.intro (by first|decide|exact trivial|exact ⟨_,rfl,rfl⟩|exact ⟨rfl,trivial⟩|exact ⟨rfl,rfl,trivial⟩) ?_
        conv => whnf
        refine ⟨by show ((tmvs o).length + 1) * 48 ≤ _; rw [tmvs_length]; omega, ?_⟩
        repeat (conv => whnf); first|refine IndepAnd (by kernel_rfl) ?_|refine ⟨rfl,?_⟩|refine And.intro (by first|decide|exact trivial|exact ⟨_,rfl,rfl⟩|exact ⟨rfl,trivial⟩|exact ⟨rfl,rfl,trivial⟩) ?_
        conv => whnf
        refine ⟨_, wrapN (n := i + 1) rfl (by omega), ?_⟩
        repeat (conv => whnf); first|refine IndepAnd (by kernel_rfl) ?_|refine ⟨rfl,?_⟩|refine And.intro (by first|decide|exact trivial|exact ⟨_,rfl,rfl⟩|exact ⟨rfl,trivial⟩|exact ⟨rfl,rfl,trivial⟩) ?_
        conv => whnf
        refine ⟨⟨(i + 1, o ++ [l[i]]), hlt, by simp; omega, by rw [show 8 - (o ++ [l[i]]).length = m by simp; omega]; simpa using he⟩, ?_, by show l.length - (i + 1) < l.length - i; omega⟩
        refine Ge.of rfl ?_ ?_
        · repeat (conv => whnf); refine ⟨LE.of rfl, ?_⟩
          trivial
        · repeat (conv => whnf); first | refine ⟨OLE.of rfl, ?_⟩ | refine ⟨OLE.of (congrArg (AO.row 24 3) (by show tmvs o ++ [TV l[i]] = tmvs (o ++ [l[i]]); rw [tmvs_append, tmvs1])), ?_⟩
          trivial
      · have h3 : ¬ l[i].size ≤ 20 := of_decide_eq_false h3
        rw [if_neg h3] at he
        repeat (conv => whnf); first|refine IndepAnd (by kernel_rfl) ?_|refine ⟨rfl,?_⟩|refine And.intro (by first|decide|exact trivial|exact ⟨_,rfl,rfl⟩|exact ⟨rfl,trivial⟩|exact ⟨rfl,rfl,trivial⟩) ?_
        conv => whnf
        refine ⟨_, wrapN (n := i + 1) rfl (by omega), ?_⟩
        repeat (conv => whnf); first|refine IndepAnd (by kernel_rfl) ?_|refine ⟨rfl,?_⟩|refine And.intro (by first|decide|exact trivial|exact ⟨_,rfl,rfl⟩|exact ⟨rfl,trivial⟩|exact ⟨rfl,rfl,trivial⟩) ?_
        conv => whnf
        refine ⟨⟨(i + 1, o), hlt, hn, by rw [hm]; exact he⟩, ?_, by show l.length - (i + 1) < l.length - i; omega⟩
        refine Ge.of rfl ?_ ?_
        · repeat (conv => whnf); refine ⟨LE.of rfl, ?_⟩
          trivial
        · repeat (conv => whnf); refine ⟨OLE.of rfl, ?_⟩
          trivial
    · have h2 : 8 ≤ o.length := by have := of_decide_eq_false h2; rw [tmvs_length] at this; have : ¬ (o.length : Int) < 8 := this; omega
      rw [show 8 - o.length = 0 by omega, fewN_zero8, List.append_nil] at he
      repeat (conv => whnf); first|refine IndepAnd (by kernel_rfl) ?_|refine ⟨rfl,?_⟩|refine And.intro (by first|decide|exact trivial|exact ⟨_,rfl,rfl⟩|exact ⟨rfl,trivial⟩|exact ⟨rfl,rfl,trivial⟩) ?_
      conv => whnf
      exact LEP.of (congrArg (fun l => PV.lst (tmvs l)) he)
  · have hge : l.drop i = [] := List.drop_eq_nil_of_le (by have := of_decide_eq_false h1; rw [tmvs_length] at this; have h5 : ¬ ((i : Int) < l.length) := this; omega)
    rw [hge, fewN_nil8, List.append_nil] at he
    repeat (conv => whnf); first|refine IndepAnd (by kernel_rfl) ?_|refine ⟨rfl,?_⟩|refine And.intro (by first|decide|exact trivial|exact ⟨_,rfl,rfl⟩|exact ⟨rfl,trivial⟩|exact ⟨rfl,rfl,trivial⟩) ?_
    conv => whnf
    exact LEP.of (congrArg (fun l => PV.lst (tmvs l)) he)
end Go.Sl
