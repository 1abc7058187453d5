/- Contracts of layer 9's laws: how many, and few. -/
/- short -/
import Derived.Test.YtpeabfflebgamaaDoorJc
import Derived.Test.YtpeabfflebgamaaDoorGg
set_option linter.unusedVariables false
set_option linter.unusedSimpArgs false
namespace Go.Sl
open Go Go.Vc Go.Proofs Go.RowKit

theorem count9_ok (b : Bool) : ∀ t, Fit t → K b 17 [tv t] (.pv (.int .i64 ((min t.size 16 : Nat) : Int))) := by
  intro t
  induction t using Tm.indk with
  | h t ih =>
  intro hf
  have hlen := hf.len
  have hts := Tm.size_eq t
  refine PC_of_vc (cx_ok b) (mixed b) {} Tryd.func17 (by kernel_rfl) rfl rfl (by kernel_rfl) ?_
  repeat (conv => whnf); first|refine IndepAnd (by kernel_rfl) ?_|refine ⟨rfl,?_⟩|refine And.intro (by first|decide|exact trivial|exact ⟨_,rfl,rfl⟩|exact ⟨rfl,trivial⟩|exact ⟨rfl,rfl,trivial⟩) ?_
  conv => whnf
  refine ⟨{ x : Nat × Nat // x.1 ≤ t.kids.length ∧ min x.2 16 = min (Tm.sizes (t.kids.take x.1) + 1) 16 ∧ x.2 ≤ 2 * 15 + 2 }, fun x => S.of [(1, .ptr 1 0), (3, iv x.1.2), (4, iv x.1.1)] [(1, .var true 24 (tv t))], fun x => t.kids.length - x.1.1, ⟨(0, 1), Nat.zero_le _, by simp [Tm.sizes], by omega⟩, ?_, ?_⟩
  · refine Ge.of rfl ?_ ?_
    · repeat (conv => whnf); refine ⟨LE.of rfl, ?_⟩
      trivial
    · repeat (conv => whnf); refine ⟨OLE.of rfl, ?_⟩
      trivial
  rintro ⟨⟨i, n⟩, hi, hn, hb⟩
  have hi : i ≤ t.kids.length := hi
  have hn : min n 16 = min (Tm.sizes (t.kids.take i) + 1) 16 := hn
  have hb : n ≤ 2 * 15 + 2 := hb
  have hst := sizes_take_le t.kids i
  repeat (conv => whnf); first|refine IndepAnd (by kernel_rfl) ?_|refine ⟨rfl,?_⟩|refine And.intro (by first|decide|exact trivial|exact ⟨_,rfl,rfl⟩|exact ⟨rfl,trivial⟩|exact ⟨rfl,rfl,trivial⟩) ?_
  conv => whnf
  refine @bool_rec _ _ _ ?_ ?_ <;> intro h1
  · have hlt : i < t.kids.length := by have := of_decide_eq_true h1; rw [tmvs_length] at this; exact Int.ofNat_lt.1 this
    repeat (conv => whnf); first|refine IndepAnd (by kernel_rfl) ?_|refine ⟨rfl,?_⟩|refine And.intro (by first|decide|exact trivial|exact ⟨_,rfl,rfl⟩|exact ⟨rfl,trivial⟩|exact ⟨rfl,rfl,trivial⟩) ?_
    conv => whnf
    refine @bool_rec _ _ _ ?_ ?_ <;> intro h2
    · have h2 : n ≤ 15 := by have : (n : Int) ≤ 15 := of_decide_eq_true h2; omega
      have htk := Tm.sizes_take hlt
      repeat (conv => whnf); first|refine IndepAnd (by kernel_rfl) ?_|refine ⟨rfl,?_⟩|refine And.intro (by first|decide|exact trivial|exact ⟨_,rfl,rfl⟩|exact ⟨rfl,trivial⟩|exact ⟨rfl,rfl,trivial⟩) ?_
      conv => whnf
      refine ⟨Int.natCast_nonneg _, TV t.kids[i], tmvs_getN hlt, rfl, rfl, ?_⟩
      repeat (conv => whnf); first|refine IndepAnd (by kernel_rfl) ?_|refine ⟨rfl,?_⟩|refine And.intro (by first|decide|exact trivial|exact ⟨_,rfl,rfl⟩|exact ⟨rfl,trivial⟩|exact ⟨rfl,rfl,trivial⟩) ?_
      conv => whnf
      refine ⟨_, CallVC.pr (ih t.kids[i] (List.getElem_mem hlt) (hf.kid (List.getElem_mem hlt))) rfl rfl, ?_⟩
      repeat (conv => whnf); first|refine IndepAnd (by kernel_rfl) ?_|refine ⟨rfl,?_⟩|refine And.intro (by first|decide|exact trivial|exact ⟨_,rfl,rfl⟩|exact ⟨rfl,trivial⟩|exact ⟨rfl,rfl,trivial⟩) ?_
      conv => whnf
      refine ⟨_, wrapN (n := n + min t.kids[i].size 16) rfl (by omega), ?_⟩
      repeat (conv => whnf); first|refine IndepAnd (by kernel_rfl) ?_|refine ⟨rfl,?_⟩|refine And.intro (by first|decide|exact trivial|exact ⟨_,rfl,rfl⟩|exact ⟨rfl,trivial⟩|exact ⟨rfl,rfl,trivial⟩) ?_
      conv => whnf
      refine ⟨_, wrapN (n := i + 1) rfl (by omega), ?_⟩
      repeat (conv => whnf); first|refine IndepAnd (by kernel_rfl) ?_|refine ⟨rfl,?_⟩|refine And.intro (by first|decide|exact trivial|exact ⟨_,rfl,rfl⟩|exact ⟨rfl,trivial⟩|exact ⟨rfl,rfl,trivial⟩) ?_
      conv => whnf
      refine ⟨⟨(i + 1, n + min t.kids[i].size 16), hlt, ?_, ?_⟩, ?_, by show t.kids.length - (i + 1) < t.kids.length - i; omega⟩
      · show min (n + min t.kids[i].size 16) 16 = min (Tm.sizes (t.kids.take (i + 1)) + 1) 16
        omega
      · show n + min t.kids[i].size 16 ≤ 2 * 15 + 2
        omega
      · refine Ge.of rfl ?_ ?_
        · repeat (conv => whnf); refine ⟨LE.of rfl, ?_⟩
          trivial
        · repeat (conv => whnf); refine ⟨OLE.of rfl, ?_⟩
          trivial
    · have h2 : 15 < n := by have : ¬ (n : Int) ≤ 15 := of_decide_eq_false h2; omega
      repeat (conv => whnf); first|refine IndepAnd (by kernel_rfl) ?_|refine ⟨rfl,?_⟩|refine And.intro (by first|decide|exact trivial|exact ⟨_,rfl,rfl⟩|exact ⟨rfl,trivial⟩|exact ⟨rfl,rfl,trivial⟩) ?_
      conv => whnf
      refine LEP.of (congrArg (PV.int .i64) ?_)
      show min (n : Int) 16 = _
      omega
  · have hge : t.kids.take i = t.kids := List.take_of_length_le (by have := of_decide_eq_false h1; rw [tmvs_length] at this; have h5 : ¬ ((i : Int) < t.kids.length) := this; omega)
    rw [hge] at hn
    repeat (conv => whnf); first|refine IndepAnd (by kernel_rfl) ?_|refine ⟨rfl,?_⟩|refine And.intro (by first|decide|exact trivial|exact ⟨_,rfl,rfl⟩|exact ⟨rfl,trivial⟩|exact ⟨rfl,rfl,trivial⟩) ?_
    conv => whnf
    refine LEP.of (congrArg (PV.int .i64) ?_)
    show min (n : Int) 16 = _
    omega
/-- So many terms, none of more than so many terms. -/
def fewN9 : Nat → List Tm → List Tm
  | 0, _ => []
  | _, [] => []
  | n + 1, t :: l => if t.size ≤ 15 then t :: fewN9 n l else fewN9 (n + 1) l
def few9 (l : List Tm) : List Tm := fewN9 7 l
structure FewI9 (l : List Tm) (i : Nat) (o : List Tm) : Prop where
  hi : i ≤ l.length
  hn : o.length ≤ 7
  he : o ++ fewN9 (7 - o.length) (l.drop i) = few9 l
theorem fewN_zero9 : ∀ l : List Tm, fewN9 0 l = []
  | [] => rfl
  | _ :: _ => rfl
theorem fewN_nil9 : ∀ n : Nat, fewN9 n [] = []
  | 0 => rfl
  | _ + 1 => rfl
theorem fewN_mem9 : ∀ (n : Nat) (l : List Tm) (t : Tm), t ∈ fewN9 n l → t ∈ l ∧ t.size ≤ 15
  | 0, l, t, h => by rw [fewN_zero9] at h; cases h
  | n + 1, [], t, h => by cases h
  | n + 1, u :: l, t, h => by
    rw [fewN9] at h
    split at h
    · cases h with
      | head => exact ⟨List.mem_cons_self .., by assumption⟩
      | tail _ h => have := fewN_mem9 n l t h; exact ⟨List.mem_cons_of_mem _ this.1, this.2⟩
    · have := fewN_mem9 (n + 1) l t h; exact ⟨List.mem_cons_of_mem _ this.1, this.2⟩
theorem fewN_len9 : ∀ (n : Nat) (l : List Tm), (fewN9 n l).length ≤ n
  | 0, l => by rw [fewN_zero9]; exact Nat.le_refl _
  | n + 1, [] => Nat.zero_le _
  | n + 1, u :: l => by
    rw [fewN9]
    split
    · have := fewN_len9 n l; simp; exact this
    · exact fewN_len9 (n + 1) l
theorem few_mem9 {l : List Tm} {t : Tm} (h : t ∈ few9 l) : t ∈ l ∧ t.size ≤ 15 := fewN_mem9 _ l t h
theorem few_len9 (l : List Tm) : (few9 l).length ≤ 7 := fewN_len9 _ l
theorem fewN_wt9 : ∀ (n : Nat) (l : List Tm), wts (fewN9 n l) ≤ wts l
  | 0, l => by rw [fewN_zero9]; exact Nat.zero_le _
  | n + 1, [] => Nat.le_refl _
  | n + 1, u :: l => by
    rw [fewN9]
    split
    · have := fewN_wt9 n l; simp only [wts]; omega
    · have := fewN_wt9 (n + 1) l; simp only [wts]; omega
theorem few_wt9 (l : List Tm) : wts (few9 l) ≤ wts l := fewN_wt9 _ l
theorem sizes_le9 {l : List Tm} (h : ∀ t ∈ l, t.size ≤ 15) : Tm.sizes l ≤ l.length * 15 := by
  induction l with
  | nil => simp [Tm.sizes]
  | cons t l ih => have := h t (List.mem_cons_self ..); have := ih fun u hu => h u (List.mem_cons_of_mem _ hu); simp only [Tm.sizes, List.length_cons, Nat.succ_mul]; omega
theorem few_sizes9 (l : List Tm) : Tm.sizes (few9 l) ≤ 7 * 15 := by
  have h1 := sizes_le9 (l := few9 l) fun t ht => (few_mem9 ht).2
  have h2 := few_len9 l
  have h3 : (few9 l).length * 15 ≤ 7 * 15 := Nat.mul_le_mul_right _ h2
  omega
theorem few9_ok (l : List Tm) (hf : ∀ t ∈ l, Fit t) (hl : l.length ≤ 9223372036854775807) : K true 16 [lv l] (.pv (.lst (tmvs (few9 l)))) := by
  refine PC_of_vc (cx_ok true) (mixed true) { own := fun q => Nat.beq q 3 || Nat.beq q 28 } Tryd.func16 (by kernel_rfl) rfl rfl (by kernel_rfl) ?_
  repeat (conv => whnf); first|refine IndepAnd (by kernel_rfl) ?_|refine ⟨rfl,?_⟩|refine And.intro (by first|decide|exact trivial|exact ⟨_,rfl,rfl⟩|exact ⟨rfl,trivial⟩|exact ⟨rfl,rfl,trivial⟩) ?_
  conv => whnf
  refine ⟨{ x : Nat × List Tm // FewI9 l x.1 x.2 }, fun x => S.of [(0, lv l), (3, .slc 3), (4, iv x.1.1)] [(3, .row 24 3 (tmvs x.1.2))], fun x => l.length - x.1.1, ⟨(0, []), Nat.zero_le _, by simp, by simp [few9]⟩, ?_, ?_⟩
  · refine Ge.of rfl ?_ ?_
    · repeat (conv => whnf); refine ⟨LE.of rfl, ?_⟩
      trivial
    · repeat (conv => whnf); refine ⟨OLE.of rfl, ?_⟩
      trivial
  rintro ⟨⟨i, o⟩, hI⟩
  have hI : FewI9 l i o := hI
  obtain ⟨hi, hn, he⟩ := hI
  repeat (conv => whnf); first|refine IndepAnd (by kernel_rfl) ?_|refine ⟨rfl,?_⟩|refine And.intro (by first|decide|exact trivial|exact ⟨_,rfl,rfl⟩|exact ⟨rfl,trivial⟩|exact ⟨rfl,rfl,trivial⟩) ?_
  conv => whnf
  refine @bool_rec _ _ _ ?_ ?_ <;> intro h1
  · have hlt : i < l.length := by have := of_decide_eq_true h1; rw [tmvs_length] at this; exact Int.ofNat_lt.1 this
    have hd : l.drop i = l[i] :: l.drop (i + 1) := List.drop_eq_getElem_cons hlt
    repeat (conv => whnf); first|refine IndepAnd (by kernel_rfl) ?_|refine ⟨rfl,?_⟩|refine And.intro (by first|decide|exact trivial|exact ⟨_,rfl,rfl⟩|exact ⟨rfl,trivial⟩|exact ⟨rfl,rfl,trivial⟩) ?_
    conv => whnf
    refine @bool_rec _ _ _ ?_ ?_ <;> intro h2
    · have h2 : o.length < 7 := by have := of_decide_eq_true h2; rw [tmvs_length] at this; have : (o.length : Int) < 7 := this; omega
      obtain ⟨m, hm⟩ : ∃ m, 7 - o.length = m + 1 := ⟨7 - o.length - 1, by omega⟩
      rw [hd, hm, fewN9] at he
      repeat (conv => whnf); first|refine IndepAnd (by kernel_rfl) ?_|refine ⟨rfl,?_⟩|refine And.intro (by first|decide|exact trivial|exact ⟨_,rfl,rfl⟩|exact ⟨rfl,trivial⟩|exact ⟨rfl,rfl,trivial⟩) ?_
      conv => whnf
      refine ⟨Int.natCast_nonneg _, TV l[i], tmvs_getN hlt, rfl, rfl, ?_⟩
      repeat (conv => whnf); first|refine IndepAnd (by kernel_rfl) ?_|refine ⟨rfl,?_⟩|refine And.intro (by first|decide|exact trivial|exact ⟨_,rfl,rfl⟩|exact ⟨rfl,trivial⟩|exact ⟨rfl,rfl,trivial⟩) ?_
      conv => whnf
      refine ⟨_, CallVC.pr (count9_ok true l[i] (hf _ (List.getElem_mem hlt))) rfl rfl, ?_⟩
      repeat (conv => whnf); first|refine IndepAnd (by kernel_rfl) ?_|refine ⟨rfl,?_⟩|refine And.intro (by first|decide|exact trivial|exact ⟨_,rfl,rfl⟩|exact ⟨rfl,trivial⟩|exact ⟨rfl,rfl,trivial⟩) ?_
      conv => whnf
      refine @bool_rec _ _ _ ?_ ?_ <;> intro h3
      · have h3 : l[i].size ≤ 15 := (by have : ((min l[i].size 16 : Nat) : Int) ≤ 15 := of_decide_eq_true h3; omega)
        rw [if_pos h3] at he
        repeat (conv => whnf); first|refine IndepAnd (by kernel_rfl) ?_|refine ⟨rfl,?_⟩|refine And.intro (by first|decide|exact trivial|exact ⟨_,rfl,rfl⟩|exact ⟨rfl,trivial⟩|exact ⟨rfl,rfl,trivial⟩) ?_
        conv => whnf
        refine ⟨Int.natCast_nonneg _, TV l[i], tmvs_getN hlt, rfl, rfl, ?_⟩
        repeat (conv => whnf); first|refine IndepAnd (by kernel_rfl) ?_|refine ⟨rfl,?_⟩|refine And.intro (by first|decide|exact trivial|exact ⟨_,rfl,rfl⟩|exact ⟨rfl,trivial⟩|exact ⟨rfl,rfl,trivial⟩) ?_
        conv => whnf
        refine ⟨by show ((tmvs o).length + 1) * 48 ≤ _; rw [tmvs_length]; omega, ?_⟩
        repeat (conv => whnf); first|refine IndepAnd (by kernel_rfl) ?_|refine ⟨rfl,?_⟩|refine And.intro (by first|decide|exact trivial|exact ⟨_,rfl,rfl⟩|exact ⟨rfl,trivial⟩|exact ⟨rfl,rfl,trivial⟩) ?_
        conv => whnf
        refine ⟨_, wrapN (n := i + 1) rfl (by omega), ?_⟩
        repeat (conv => whnf); first|refine IndepAnd (by kernel_rfl) ?_|refine ⟨rfl,?_⟩|refine And.intro (by first|decide|exact trivial|exact ⟨_,rfl,rfl⟩|exact ⟨rfl,trivial⟩|exact ⟨rfl,rfl,trivial⟩) ?_
        conv => whnf
        refine ⟨⟨(i + 1, o ++ [l[i]]), hlt, by simp; omega, by rw [show 7 - (o ++ [l[i]]).length = m by simp; omega]; simpa using he⟩, ?_, by show l.length - (i + 1) < l.length - i; omega⟩
        refine Ge.of rfl ?_ ?_
        · repeat (conv => whnf); refine ⟨LE.of rfl, ?_⟩
          trivial
        · repeat (conv => whnf); first | refine ⟨OLE.of rfl, ?_⟩ | refine ⟨OLE.of (congrArg (AO.row 24 3) (by show tmvs o ++ [TV l[i]] = tmvs (o ++ [l[i]]); rw [tmvs_append, tmvs1])), ?_⟩
          trivial
      · have h3 : ¬ l[i].size ≤ 15 := (by have : ¬ ((min l[i].size 16 : Nat) : Int) ≤ 15 := of_decide_eq_false h3; omega)
        rw [if_neg h3] at he
        repeat (conv => whnf); first|refine IndepAnd (by kernel_rfl) ?_|refine ⟨rfl,?_⟩|refine And.intro (by first|decide|exact trivial|exact ⟨_,rfl,rfl⟩|exact ⟨rfl,trivial⟩|exact ⟨rfl,rfl,trivial⟩) ?_
        conv => whnf
        refine ⟨_, wrapN (n := i + 1) rfl (by omega), ?_⟩
        repeat (conv => whnf); first|refine IndepAnd (by kernel_rfl) ?_|refine ⟨rfl,?_⟩|refine And.intro (by first|decide|exact trivial|exact ⟨_,rfl,rfl⟩|exact ⟨rfl,trivial⟩|exact ⟨rfl,rfl,trivial⟩) ?_
        conv => whnf
        refine ⟨⟨(i + 1, o), hlt, hn, by rw [hm]; exact he⟩, ?_, by show l.length - (i + 1) < l.length - i; omega⟩
        refine Ge.of rfl ?_ ?_
        · repeat (conv => whnf); refine ⟨LE.of rfl, ?_⟩
          trivial
        · repeat (conv => whnf); refine ⟨OLE.of rfl, ?_⟩
          trivial
    · have h2 : 7 ≤ o.length := by have := of_decide_eq_false h2; rw [tmvs_length] at this; have : ¬ (o.length : Int) < 7 := this; omega
      rw [show 7 - o.length = 0 by omega, fewN_zero9, List.append_nil] at he
      repeat (conv => whnf); first|refine IndepAnd (by kernel_rfl) ?_|refine ⟨rfl,?_⟩|refine And.intro (by first|decide|exact trivial|exact ⟨_,rfl,rfl⟩|exact ⟨rfl,trivial⟩|exact ⟨rfl,rfl,trivial⟩) ?_
      conv => whnf
      exact LEP.of (congrArg (fun l => PV.lst (tmvs l)) he)
  · have hge : l.drop i = [] := List.drop_eq_nil_of_le (by have := of_decide_eq_false h1; rw [tmvs_length] at this; have h5 : ¬ ((i : Int) < l.length) := this; omega)
    rw [hge, fewN_nil9, List.append_nil] at he
    repeat (conv => whnf); first|refine IndepAnd (by kernel_rfl) ?_|refine ⟨rfl,?_⟩|refine And.intro (by first|decide|exact trivial|exact ⟨_,rfl,rfl⟩|exact ⟨rfl,trivial⟩|exact ⟨rfl,rfl,trivial⟩) ?_
    conv => whnf
    exact LEP.of (congrArg (fun l => PV.lst (tmvs l)) he)
end Go.Sl
