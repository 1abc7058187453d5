/- Contracts: Sub. -/
import Derived.Test.YtakehleacibfiaaDoorGd
set_option linter.unusedVariables false
set_option linter.unusedSimpArgs false
namespace Go.Sl
open Go Go.Vc Go.Proofs Go.RowKit

theorem hbd48' {a b : Nat} (h : a + b ≤ 2932031007402) : (a + b) * tiTerm.bytes ≤ 140737488355328 := by
  show (a + b) * 48 ≤ 140737488355328
  omega
def insT (acc : List Tm) (x : Tm) : List Tm := if acc.any (fun y => decide (x = y)) then acc else acc ++ [x]
mutual
/-- All terms within one. -/
def subT : Tm → List Tm
  | .mk k n l => subTs [.mk k n l] l
def subTs (acc : List Tm) : List Tm → List Tm
  | [] => acc
  | t :: ts => subTs ((subT t).foldl insT acc) ts
end
theorem subT_eq (t : Tm) : subT t = subTs [t] t.kids := by cases t; rw [subT]; rfl
theorem subTs_take {l : List Tm} {i : Nat} (h : i < l.length) (acc : List Tm) : subTs acc (l.take (i + 1)) = (subT l[i]).foldl insT (subTs acc (l.take i)) := by
  induction l generalizing i acc with
  | nil => simp at h
  | cons t ts ih =>
    cases i with
    | zero => simp [subTs]
    | succ i =>
      simp only [List.take_succ_cons, subTs, List.getElem_cons_succ]
      exact ih (by simpa using h) _
theorem insT_len (acc : List Tm) (x : Tm) : (insT acc x).length ≤ acc.length + 1 := by unfold insT; split <;> simp
theorem foldl_len (m acc : List Tm) : (m.foldl insT acc).length ≤ acc.length + m.length := by
  induction m generalizing acc with
  | nil => simp
  | cons x m ih =>
    have := ih (insT acc x)
    have := insT_len acc x
    simp only [List.foldl_cons, List.length_cons]
    omega
theorem sub_len : ∀ t : Tm, (subT t).length ≤ t.size := by
  intro t
  induction t using Tm.indk with
  | h t ih =>
  have key : ∀ (l acc : List Tm), (∀ u ∈ l, (subT u).length ≤ u.size) → (subTs acc l).length ≤ acc.length + Tm.sizes l := by
    intro l
    induction l with
    | nil => intro acc _; simp [subTs, Tm.sizes]
    | cons u l ihl =>
      intro acc h
      have h1 := h u (List.mem_cons_self ..)
      have h2 := foldl_len (subT u) acc
      have h3 := ihl ((subT u).foldl insT acc) fun v hv => h v (List.mem_cons_of_mem _ hv)
      simp only [subTs, Tm.sizes]
      omega
  have := key t.kids [t] ih
  rw [subT_eq, Tm.size_eq]
  simp at this
  omega
theorem subTs_len (l acc : List Tm) : (subTs acc l).length ≤ acc.length + Tm.sizes l := by
  induction l generalizing acc with
  | nil => simp [subTs, Tm.sizes]
  | cons u l ihl =>
    have h1 := sub_len u
    have h2 := foldl_len (subT u) acc
    have h3 := ihl ((subT u).foldl insT acc)
    simp only [subTs, Tm.sizes]
    omega
theorem sizes_take_le (l : List Tm) (i : Nat) : Tm.sizes (l.take i) ≤ Tm.sizes l := by
  induction l generalizing i with
  | nil => simp
  | cons t ts ih =>
    cases i with
    | zero => simp [Tm.sizes]
    | succ i => simp only [List.take_succ_cons, Tm.sizes]; have := ih i; omega
theorem mem_insT {acc : List Tm} {x y : Tm} (h : y ∈ insT acc x) : y ∈ acc ∨ y = x := by
  unfold insT at h
  split at h
  · exact .inl h
  · simpa using h
theorem mem_foldl {m acc : List Tm} {y : Tm} (h : y ∈ m.foldl insT acc) : y ∈ acc ∨ y ∈ m := by
  induction m generalizing acc with
  | nil => exact .inl h
  | cons x m ih =>
    rcases ih h with h | h
    · rcases mem_insT h with h | h
      · exact .inl h
      · exact .inr (by rw [h]; exact List.mem_cons_self ..)
    · exact .inr (List.mem_cons_of_mem _ h)
theorem Fit.sub : ∀ t, Fit t → ∀ x ∈ subT t, Fit x := by
  intro t
  induction t using Tm.indk with
  | h t ih =>
  intro hf
  have key : ∀ (l acc : List Tm), (∀ u ∈ l, ∀ x ∈ subT u, Fit x) → (∀ x ∈ acc, Fit x) → ∀ x ∈ subTs acc l, Fit x := by
    intro l
    induction l with
    | nil => intro acc _ h x hx; rw [subTs] at hx; exact h x hx
    | cons u l ihl =>
      intro acc h hacc x hx
      rw [subTs] at hx
      refine ihl _ (fun v hv => h v (List.mem_cons_of_mem _ hv)) (fun y hy => ?_) x hx
      rcases mem_foldl hy with hy | hy
      · exact hacc y hy
      · exact h u (List.mem_cons_self ..) y hy
  rw [subT_eq]
  exact key t.kids [t] (fun u hu => ih u hu (hf.kid hu)) (fun x hx => by rw [List.mem_singleton.1 hx]; exact hf)
theorem foldl_take {m : List Tm} {j : Nat} (h : j < m.length) (acc : List Tm) : (m.take (j + 1)).foldl insT acc = insT ((m.take j).foldl insT acc) m[j] := by
  rw [List.take_succ_eq_append_getElem h, List.foldl_append]
  rfl
theorem subcl_ok (b : Bool) (x : Tm) (hx : Fit x) (y : Tm) : PC (cx b) 62 (lookO [(100, .var false 24 (tv x))]) [tv y, .ptr 100 0] (.pv (.bool (decide (x = y)))) := by
  refine PC_of_vc (cx_ok b) (mixed b) {} Tryd.func62 (by kernel_rfl) rfl rfl (by kernel_rfl) ?_
  repeat (conv => whnf); first | refine IndepAnd (by kernel_rfl) ?_ | refine TreeAnd (by kernel_rfl) ?_ | refine ⟨rfl, ?_⟩ | refine ⟨by decide, ?_⟩ | refine ⟨trivial, ?_⟩ | refine ⟨⟨rfl, trivial⟩, ?_⟩ | refine ⟨Nat.le_of_ble_eq_true rfl, ?_⟩ | refine ⟨⟨_, rfl, rfl⟩, ?_⟩ | refine ⟨⟨rfl, rfl, trivial⟩, ?_⟩ | refine ⟨⟨rfl, rfl, rfl, trivial⟩, ?_⟩ | refine ⟨⟨rfl, rfl, rfl, rfl, trivial⟩, ?_⟩ | refine ⟨⟨rfl, rfl, rfl, rfl, rfl, trivial⟩, ?_⟩
  conv => whnf
  refine ⟨_, CallVC.pr (same_ok b x hx y) rfl rfl, ?_⟩
  repeat (conv => whnf); first | refine IndepAnd (by kernel_rfl) ?_ | refine TreeAnd (by kernel_rfl) ?_ | refine ⟨rfl, ?_⟩ | refine ⟨by decide, ?_⟩ | refine ⟨trivial, ?_⟩ | refine ⟨⟨rfl, trivial⟩, ?_⟩ | refine ⟨Nat.le_of_ble_eq_true rfl, ?_⟩ | refine ⟨⟨_, rfl, rfl⟩, ?_⟩ | refine ⟨⟨rfl, rfl, trivial⟩, ?_⟩ | refine ⟨⟨rfl, rfl, rfl, trivial⟩, ?_⟩ | refine ⟨⟨rfl, rfl, rfl, rfl, trivial⟩, ?_⟩ | refine ⟨⟨rfl, rfl, rfl, rfl, rfl, trivial⟩, ?_⟩
  conv => whnf
  exact LEP.refl _
theorem sub_ok (b : Bool) : ∀ t, Fit t → t.size ≤ 1099511627776 → K b 40 [tv t] (.pv (.lst (tmvs (subT t)))) := by
  intro t
  induction t using Tm.indk with
  | h t ih =>
  intro hf hz
  have hlen := hf.len
  refine PC_of_vc (cx_ok b) (mixed b) { own := fun q => Nat.beq q 9 || Nat.beq q 31 } Tryd.func40 (by kernel_rfl) rfl rfl (by kernel_rfl) ?_
  repeat (conv => whnf); first | refine IndepAnd (by kernel_rfl) ?_ | refine TreeAnd (by kernel_rfl) ?_ | refine ⟨rfl, ?_⟩ | refine ⟨by decide, ?_⟩ | refine ⟨trivial, ?_⟩ | refine ⟨⟨rfl, trivial⟩, ?_⟩ | refine ⟨Nat.le_of_ble_eq_true rfl, ?_⟩ | refine ⟨⟨_, rfl, rfl⟩, ?_⟩ | refine ⟨⟨rfl, rfl, trivial⟩, ?_⟩ | refine ⟨⟨rfl, rfl, rfl, trivial⟩, ?_⟩ | refine ⟨⟨rfl, rfl, rfl, rfl, trivial⟩, ?_⟩ | refine ⟨⟨rfl, rfl, rfl, rfl, rfl, trivial⟩, ?_⟩
  conv => whnf
  refine ⟨Rd t.kids.length, fun i => S.of [(3, .slc 9), (11, lv t.kids), (12, iv ((tmvs t.kids).length : Int)), (13, iv (i.1 : Int))] [(9, .row 24 3 (tmvs (subTs [t] (t.kids.take i.1))))], fun i => t.kids.length - i.1, Rd.zero _, ?_, ?_⟩
  · refine Ge.of rfl ?_ ?_
    · repeat (conv => whnf); refine ⟨LE.of rfl, ?_⟩
      trivial
    · conv => whnf
      refine ⟨OLE.of (congrArg _ (show [TV t] = tmvs (subTs [t] (t.kids.take 0)) by simp [subTs, tmvs_eq])), ?_⟩
      trivial
  rintro ⟨i, hi⟩
  repeat (conv => whnf); first | refine IndepAnd (by kernel_rfl) ?_ | refine TreeAnd (by kernel_rfl) ?_ | refine ⟨rfl, ?_⟩ | refine ⟨by decide, ?_⟩ | refine ⟨trivial, ?_⟩ | refine ⟨⟨rfl, trivial⟩, ?_⟩ | refine ⟨Nat.le_of_ble_eq_true rfl, ?_⟩ | refine ⟨⟨_, rfl, rfl⟩, ?_⟩ | refine ⟨⟨rfl, rfl, trivial⟩, ?_⟩ | refine ⟨⟨rfl, rfl, rfl, trivial⟩, ?_⟩ | refine ⟨⟨rfl, rfl, rfl, rfl, trivial⟩, ?_⟩ | refine ⟨⟨rfl, rfl, rfl, rfl, rfl, trivial⟩, ?_⟩
  conv => whnf
  refine @bool_rec _ _ _ ?_ ?_ <;> intro h1
  · have hlt : i < t.kids.length := by have := of_decide_eq_true h1; rw [tmvs_length] at this; exact Int.ofNat_lt.1 this
    have hm := List.getElem_mem hlt
    have hsz : Tm.sizes (t.kids.take i) + t.kids[i].size ≤ Tm.sizes t.kids := by rw [← Tm.sizes_take hlt]; exact sizes_take_le _ _
    have hts := Tm.size_eq t
    have hsl := subTs_len (t.kids.take i) [t]
    have hml := sub_len t.kids[i]
    have hfm := Fit.sub t.kids[i] (hf.kid hm)
    have hih := ih t.kids[i] hm (hf.kid hm) (by omega)
    repeat (conv => whnf); first | refine IndepAnd (by kernel_rfl) ?_ | refine TreeAnd (by kernel_rfl) ?_ | refine ⟨rfl, ?_⟩ | refine ⟨by decide, ?_⟩ | refine ⟨trivial, ?_⟩ | refine ⟨⟨rfl, trivial⟩, ?_⟩ | refine ⟨Nat.le_of_ble_eq_true rfl, ?_⟩ | refine ⟨⟨_, rfl, rfl⟩, ?_⟩ | refine ⟨⟨rfl, rfl, trivial⟩, ?_⟩ | refine ⟨⟨rfl, rfl, rfl, trivial⟩, ?_⟩ | refine ⟨⟨rfl, rfl, rfl, rfl, trivial⟩, ?_⟩ | refine ⟨⟨rfl, rfl, rfl, rfl, rfl, trivial⟩, ?_⟩
    conv => whnf
    refine ⟨Int.natCast_nonneg _, TV t.kids[i], tmvs_getN hlt, rfl, rfl, ?_⟩
    repeat (conv => whnf); first | refine IndepAnd (by kernel_rfl) ?_ | refine TreeAnd (by kernel_rfl) ?_ | refine ⟨rfl, ?_⟩ | refine ⟨by decide, ?_⟩ | refine ⟨trivial, ?_⟩ | refine ⟨⟨rfl, trivial⟩, ?_⟩ | refine ⟨Nat.le_of_ble_eq_true rfl, ?_⟩ | refine ⟨⟨_, rfl, rfl⟩, ?_⟩ | refine ⟨⟨rfl, rfl, trivial⟩, ?_⟩ | refine ⟨⟨rfl, rfl, rfl, trivial⟩, ?_⟩ | refine ⟨⟨rfl, rfl, rfl, rfl, trivial⟩, ?_⟩ | refine ⟨⟨rfl, rfl, rfl, rfl, rfl, trivial⟩, ?_⟩
    conv => whnf
    refine ⟨_, CallVC.pr hih rfl rfl, ?_⟩
    repeat (conv => whnf); first | refine IndepAnd (by kernel_rfl) ?_ | refine TreeAnd (by kernel_rfl) ?_ | refine ⟨rfl, ?_⟩ | refine ⟨by decide, ?_⟩ | refine ⟨trivial, ?_⟩ | refine ⟨⟨rfl, trivial⟩, ?_⟩ | refine ⟨Nat.le_of_ble_eq_true rfl, ?_⟩ | refine ⟨⟨_, rfl, rfl⟩, ?_⟩ | refine ⟨⟨rfl, rfl, trivial⟩, ?_⟩ | refine ⟨⟨rfl, rfl, rfl, trivial⟩, ?_⟩ | refine ⟨⟨rfl, rfl, rfl, rfl, trivial⟩, ?_⟩ | refine ⟨⟨rfl, rfl, rfl, rfl, rfl, trivial⟩, ?_⟩
    conv => whnf
    generalize hM : subT t.kids[i] = m at hml hfm ⊢
    refine ⟨Rd m.length, fun j => S.of [(3, .slc 9), (11, lv t.kids), (12, iv ((tmvs t.kids).length : Int)), (13, iv (i : Int)), (18, lv m), (19, iv ((tmvs m).length : Int)), (20, iv (j.1 : Int))] [(9, .row 24 3 (tmvs ((m.take j.1).foldl insT (subTs [t] (t.kids.take i)))))], fun j => m.length - j.1, Rd.zero _, ?_, ?_⟩
    · refine Ge.of rfl ?_ ?_
      · repeat (conv => whnf); refine ⟨LE.of rfl, ?_⟩
        trivial
      · repeat (conv => whnf); refine ⟨OLE.of rfl, ?_⟩
        trivial
    rintro ⟨j, hj⟩
    have hfl := foldl_len (m.take j) (subTs [t] (t.kids.take i))
    rw [List.length_take] at hfl
    simp only [List.length_singleton] at hsl
    repeat (conv => whnf); first | refine IndepAnd (by kernel_rfl) ?_ | refine TreeAnd (by kernel_rfl) ?_ | refine ⟨rfl, ?_⟩ | refine ⟨by decide, ?_⟩ | refine ⟨trivial, ?_⟩ | refine ⟨⟨rfl, trivial⟩, ?_⟩ | refine ⟨Nat.le_of_ble_eq_true rfl, ?_⟩ | refine ⟨⟨_, rfl, rfl⟩, ?_⟩ | refine ⟨⟨rfl, rfl, trivial⟩, ?_⟩ | refine ⟨⟨rfl, rfl, rfl, trivial⟩, ?_⟩ | refine ⟨⟨rfl, rfl, rfl, rfl, trivial⟩, ?_⟩ | refine ⟨⟨rfl, rfl, rfl, rfl, rfl, trivial⟩, ?_⟩
    conv => whnf
    refine @bool_rec _ _ _ ?_ ?_ <;> intro h2
    · have hjlt : j < m.length := by have := of_decide_eq_true h2; rw [tmvs_length] at this; exact Int.ofNat_lt.1 this
      have hxm := hfm _ (List.getElem_mem hjlt)
      have hft := foldl_take hjlt (subTs [t] (t.kids.take i))
      repeat (conv => whnf); first | refine IndepAnd (by kernel_rfl) ?_ | refine TreeAnd (by kernel_rfl) ?_ | refine ⟨rfl, ?_⟩ | refine ⟨by decide, ?_⟩ | refine ⟨trivial, ?_⟩ | refine ⟨⟨rfl, trivial⟩, ?_⟩ | refine ⟨Nat.le_of_ble_eq_true rfl, ?_⟩ | refine ⟨⟨_, rfl, rfl⟩, ?_⟩ | refine ⟨⟨rfl, rfl, trivial⟩, ?_⟩ | refine ⟨⟨rfl, rfl, rfl, trivial⟩, ?_⟩ | refine ⟨⟨rfl, rfl, rfl, rfl, trivial⟩, ?_⟩ | refine ⟨⟨rfl, rfl, rfl, rfl, rfl, trivial⟩, ?_⟩
      conv => whnf
      refine ⟨Int.natCast_nonneg _, TV m[j], tmvs_getN hjlt, rfl, rfl, ?_⟩
      repeat (conv => whnf); first | refine IndepAnd (by kernel_rfl) ?_ | refine TreeAnd (by kernel_rfl) ?_ | refine ⟨rfl, ?_⟩ | refine ⟨by decide, ?_⟩ | refine ⟨trivial, ?_⟩ | refine ⟨⟨rfl, trivial⟩, ?_⟩ | refine ⟨Nat.le_of_ble_eq_true rfl, ?_⟩ | refine ⟨⟨_, rfl, rfl⟩, ?_⟩ | refine ⟨⟨rfl, rfl, trivial⟩, ?_⟩ | refine ⟨⟨rfl, rfl, rfl, trivial⟩, ?_⟩ | refine ⟨⟨rfl, rfl, rfl, rfl, trivial⟩, ?_⟩ | refine ⟨⟨rfl, rfl, rfl, rfl, rfl, trivial⟩, ?_⟩
      conv => whnf
      refine ⟨_, CallVC.obv (PC.ren 7 100 rfl rfl (contains7_ok b _ m[j] (fun y => decide (m[j] = y)) ((m.take j).foldl insT (subTs [t] (t.kids.take i))) (by omega) fun y _ => subcl_ok b m[j] hxm y)) (by simp [SV.keysL, SV.keys]) (by (conv => lhs; whnf); rfl) (by simp [SV.keysL, SV.keys]) rfl rfl, ?_⟩
      repeat (conv => whnf); first | refine IndepAnd (by kernel_rfl) ?_ | refine TreeAnd (by kernel_rfl) ?_ | refine ⟨rfl, ?_⟩ | refine ⟨by decide, ?_⟩ | refine ⟨trivial, ?_⟩ | refine ⟨⟨rfl, trivial⟩, ?_⟩ | refine ⟨Nat.le_of_ble_eq_true rfl, ?_⟩ | refine ⟨⟨_, rfl, rfl⟩, ?_⟩ | refine ⟨⟨rfl, rfl, trivial⟩, ?_⟩ | refine ⟨⟨rfl, rfl, rfl, trivial⟩, ?_⟩ | refine ⟨⟨rfl, rfl, rfl, rfl, trivial⟩, ?_⟩ | refine ⟨⟨rfl, rfl, rfl, rfl, rfl, trivial⟩, ?_⟩
      conv => whnf
      refine @bool_rec _ _ _ ?_ ?_ <;> intro h3
      · have h3 : (((m.take j).foldl insT (subTs [t] (t.kids.take i))).any fun y => decide (m[j] = y)) = false := by simpa using h3
        have hrow : tmvs ((m.take j).foldl insT (subTs [t] (t.kids.take i))) ++ [TV m[j]] = tmvs ((m.take (j + 1)).foldl insT (subTs [t] (t.kids.take i))) := by
          rw [hft, insT, if_neg (by rw [h3]; decide), tmvs_append, tmvs1]
        repeat (conv => whnf); first | refine IndepAnd (by kernel_rfl) ?_ | refine TreeAnd (by kernel_rfl) ?_ | refine ⟨rfl, ?_⟩ | refine ⟨by decide, ?_⟩ | refine ⟨trivial, ?_⟩ | refine ⟨⟨rfl, trivial⟩, ?_⟩ | refine ⟨Nat.le_of_ble_eq_true rfl, ?_⟩ | refine ⟨⟨_, rfl, rfl⟩, ?_⟩ | refine ⟨⟨rfl, rfl, trivial⟩, ?_⟩ | refine ⟨⟨rfl, rfl, rfl, trivial⟩, ?_⟩ | refine ⟨⟨rfl, rfl, rfl, rfl, trivial⟩, ?_⟩ | refine ⟨⟨rfl, rfl, rfl, rfl, rfl, trivial⟩, ?_⟩
        conv => whnf
        refine ⟨hbd48' (by simp only [tmvs_length, List.length_cons, List.length_nil]; omega), ?_⟩
        repeat (conv => whnf); first | refine IndepAnd (by kernel_rfl) ?_ | refine TreeAnd (by kernel_rfl) ?_ | refine ⟨rfl, ?_⟩ | refine ⟨by decide, ?_⟩ | refine ⟨trivial, ?_⟩ | refine ⟨⟨rfl, trivial⟩, ?_⟩ | refine ⟨Nat.le_of_ble_eq_true rfl, ?_⟩ | refine ⟨⟨_, rfl, rfl⟩, ?_⟩ | refine ⟨⟨rfl, rfl, trivial⟩, ?_⟩ | refine ⟨⟨rfl, rfl, rfl, trivial⟩, ?_⟩ | refine ⟨⟨rfl, rfl, rfl, rfl, trivial⟩, ?_⟩ | refine ⟨⟨rfl, rfl, rfl, rfl, rfl, trivial⟩, ?_⟩
        conv => whnf
        refine ⟨_, wrapN (n := j + 1) rfl (by omega), ?_⟩
        repeat (conv => whnf); first | refine IndepAnd (by kernel_rfl) ?_ | refine TreeAnd (by kernel_rfl) ?_ | refine ⟨rfl, ?_⟩ | refine ⟨by decide, ?_⟩ | refine ⟨trivial, ?_⟩ | refine ⟨⟨rfl, trivial⟩, ?_⟩ | refine ⟨Nat.le_of_ble_eq_true rfl, ?_⟩ | refine ⟨⟨_, rfl, rfl⟩, ?_⟩ | refine ⟨⟨rfl, rfl, trivial⟩, ?_⟩ | refine ⟨⟨rfl, rfl, rfl, trivial⟩, ?_⟩ | refine ⟨⟨rfl, rfl, rfl, rfl, trivial⟩, ?_⟩ | refine ⟨⟨rfl, rfl, rfl, rfl, rfl, trivial⟩, ?_⟩
        conv => whnf
        refine ⟨⟨j + 1, hjlt⟩, ?_, by show m.length - (j + 1) < m.length - j; omega⟩
        refine Ge.of rfl ?_ ?_
        · repeat (conv => whnf); refine ⟨LE.of rfl, ?_⟩
          trivial
        · conv => whnf
          refine ⟨OLE.of (congrArg _ hrow), ?_⟩
          trivial
      · have h3 : (((m.take j).foldl insT (subTs [t] (t.kids.take i))).any fun y => decide (m[j] = y)) = true := by simpa using h3
        have hrow : tmvs ((m.take j).foldl insT (subTs [t] (t.kids.take i))) = tmvs ((m.take (j + 1)).foldl insT (subTs [t] (t.kids.take i))) := by
          rw [hft, insT, if_pos h3]
        repeat (conv => whnf); first | refine IndepAnd (by kernel_rfl) ?_ | refine TreeAnd (by kernel_rfl) ?_ | refine ⟨rfl, ?_⟩ | refine ⟨by decide, ?_⟩ | refine ⟨trivial, ?_⟩ | refine ⟨⟨rfl, trivial⟩, ?_⟩ | refine ⟨Nat.le_of_ble_eq_true rfl, ?_⟩ | refine ⟨⟨_, rfl, rfl⟩, ?_⟩ | refine ⟨⟨rfl, rfl, trivial⟩, ?_⟩ | refine ⟨⟨rfl, rfl, rfl, trivial⟩, ?_⟩ | refine ⟨⟨rfl, rfl, rfl, rfl, trivial⟩, ?_⟩ | refine ⟨⟨rfl, rfl, rfl, rfl, rfl, trivial⟩, ?_⟩
        conv => whnf
        refine ⟨_, wrapN (n := j + 1) rfl (by omega), ?_⟩
        repeat (conv => whnf); first | refine IndepAnd (by kernel_rfl) ?_ | refine TreeAnd (by kernel_rfl) ?_ | refine ⟨rfl, ?_⟩ | refine ⟨by decide, ?_⟩ | refine ⟨trivial, ?_⟩ | refine ⟨⟨rfl, trivial⟩, ?_⟩ | refine ⟨Nat.le_of_ble_eq_true rfl, ?_⟩ | refine ⟨⟨_, rfl, rfl⟩, ?_⟩ | refine ⟨⟨rfl, rfl, trivial⟩, ?_⟩ | refine ⟨⟨rfl, rfl, rfl, trivial⟩, ?_⟩ | refine ⟨⟨rfl, rfl, rfl, rfl, trivial⟩, ?_⟩ | refine ⟨⟨rfl, rfl, rfl, rfl, rfl, trivial⟩, ?_⟩
        conv => whnf
        refine ⟨⟨j + 1, hjlt⟩, ?_, by show m.length - (j + 1) < m.length - j; omega⟩
        refine Ge.of rfl ?_ ?_
        · repeat (conv => whnf); refine ⟨LE.of rfl, ?_⟩
          trivial
        · conv => whnf
          refine ⟨OLE.of (congrArg _ hrow), ?_⟩
          trivial
    · have hgj : m.take j = m := List.take_of_length_le (by have := of_decide_eq_false h2; rw [tmvs_length] at this; have h5 : ¬ ((j : Int) < m.length) := this; omega)
      have hrow : tmvs ((m.take j).foldl insT (subTs [t] (t.kids.take i))) = tmvs (subTs [t] (t.kids.take (i + 1))) := by
        rw [hgj, subTs_take hlt, hM]
      repeat (conv => whnf); first | refine IndepAnd (by kernel_rfl) ?_ | refine TreeAnd (by kernel_rfl) ?_ | refine ⟨rfl, ?_⟩ | refine ⟨by decide, ?_⟩ | refine ⟨trivial, ?_⟩ | refine ⟨⟨rfl, trivial⟩, ?_⟩ | refine ⟨Nat.le_of_ble_eq_true rfl, ?_⟩ | refine ⟨⟨_, rfl, rfl⟩, ?_⟩ | refine ⟨⟨rfl, rfl, trivial⟩, ?_⟩ | refine ⟨⟨rfl, rfl, rfl, trivial⟩, ?_⟩ | refine ⟨⟨rfl, rfl, rfl, rfl, trivial⟩, ?_⟩ | refine ⟨⟨rfl, rfl, rfl, rfl, rfl, trivial⟩, ?_⟩
      conv => whnf
      refine ⟨_, wrapN (n := i + 1) rfl (by omega), ?_⟩
      repeat (conv => whnf); first | refine IndepAnd (by kernel_rfl) ?_ | refine TreeAnd (by kernel_rfl) ?_ | refine ⟨rfl, ?_⟩ | refine ⟨by decide, ?_⟩ | refine ⟨trivial, ?_⟩ | refine ⟨⟨rfl, trivial⟩, ?_⟩ | refine ⟨Nat.le_of_ble_eq_true rfl, ?_⟩ | refine ⟨⟨_, rfl, rfl⟩, ?_⟩ | refine ⟨⟨rfl, rfl, trivial⟩, ?_⟩ | refine ⟨⟨rfl, rfl, rfl, trivial⟩, ?_⟩ | refine ⟨⟨rfl, rfl, rfl, rfl, trivial⟩, ?_⟩ | refine ⟨⟨rfl, rfl, rfl, rfl, rfl, trivial⟩, ?_⟩
      conv => whnf
      refine ⟨⟨i + 1, hlt⟩, ?_, by show t.kids.length - (i + 1) < t.kids.length - i; omega⟩
      refine Ge.of rfl ?_ ?_
      · repeat (conv => whnf); refine ⟨LE.of rfl, ?_⟩
        trivial
      · conv => whnf
        refine ⟨OLE.of (congrArg _ hrow), ?_⟩
        trivial
  · have hge : t.kids.take i = t.kids := List.take_of_length_le (by have := of_decide_eq_false h1; rw [tmvs_length] at this; have h5 : ¬ ((i : Int) < t.kids.length) := this; omega)
    repeat (conv => whnf); first | refine IndepAnd (by kernel_rfl) ?_ | refine TreeAnd (by kernel_rfl) ?_ | refine ⟨rfl, ?_⟩ | refine ⟨by decide, ?_⟩ | refine ⟨trivial, ?_⟩ | refine ⟨⟨rfl, trivial⟩, ?_⟩ | refine ⟨Nat.le_of_ble_eq_true rfl, ?_⟩ | refine ⟨⟨_, rfl, rfl⟩, ?_⟩ | refine ⟨⟨rfl, rfl, trivial⟩, ?_⟩ | refine ⟨⟨rfl, rfl, rfl, trivial⟩, ?_⟩ | refine ⟨⟨rfl, rfl, rfl, rfl, trivial⟩, ?_⟩ | refine ⟨⟨rfl, rfl, rfl, rfl, rfl, trivial⟩, ?_⟩
    conv => whnf
    refine LEP.of (congrArg PV.lst ?_)
    show tmvs (subTs [t] (t.kids.take i)) = _
    rw [hge, subT_eq]
end Go.Sl
