/- Contracts: terms told apart, counted, made. -/
import Derived.Test.YtpeabfflebgamaaDoorTy
set_option linter.unusedVariables false
namespace Go.Sl
open Go Go.Vc Go.Proofs

abbrev K (b : Bool) (f : FuncId) (args : List SV) (r : Res) : Prop := PC (cx b) f (fun _ => .no) args r
abbrev tv (t : Tm) : SV := .p (TV t)
abbrev iv (n : Int) : SV := .p (.int .i64 n)
abbrev sv (s : Bs) : SV := .p (.str s)
abbrev lv (l : List Tm) : SV := .p (.lst (tmvs l))
theorem beqs_cons (t u : Tm) (l m : List Tm) : decide (t :: l = u :: m) = (decide (t = u) && decide (l = m)) := by simp

theorem Tm.eq_iff (t u : Tm) : t = u ↔ t.kind = u.kind ∧ t.name = u.name ∧ t.kids = u.kids := by
  cases t; cases u
  simp [Tm.kind, Tm.name, Tm.kids]
theorem Tm.sizes_take {l : List Tm} {i : Nat} (h : i < l.length) : Tm.sizes (l.take (i + 1)) = Tm.sizes (l.take i) + l[i].size := by
  rw [List.take_succ_eq_append_getElem h, Tm.sizes_append]
  simp [Tm.sizes]
theorem Tm.size_eq (t : Tm) : t.size = Tm.sizes t.kids + 1 := by cases t; rfl
/-- EqualFunc, of terms: what it is handed tells whether two are the same. -/
theorem equal_ok (b : Bool) (l m : List Tm) (hl : l.length ≤ 9223372036854775807) (ih : ∀ t ∈ l, ∀ u, K b 41 [tv t, tv u] (.pv (.bool (decide (t = u))))) :
    K b 57 [lv l, lv m, .fn 41 []] (.pv (.bool (decide (l = m)))) := by
  refine PC_of_vc (cx_ok b) (mixed b) {} Tryd.func57 (by kernel_rfl) rfl rfl (by kernel_rfl) ?_
  repeat (conv => whnf); first|refine IndepAnd (by kernel_rfl) ?_|refine TreeAnd (by kernel_rfl) ?_|refine ⟨rfl,?_⟩|refine And.intro (by first|decide|exact trivial|exact ⟨rfl,trivial⟩|exact Nat.le_of_ble_eq_true rfl|exact ⟨_,rfl,rfl⟩|exact ⟨rfl,rfl,trivial⟩|exact ⟨rfl,rfl,rfl,trivial⟩|exact ⟨rfl,rfl,rfl,rfl,trivial⟩|exact ⟨rfl,rfl,rfl,rfl,rfl,trivial⟩) ?_
  conv => whnf
  refine @bool_rec _ _ _ ?_ ?_ <;> intro h1
  · repeat (conv => whnf); first|refine IndepAnd (by kernel_rfl) ?_|refine TreeAnd (by kernel_rfl) ?_|refine ⟨rfl,?_⟩|refine And.intro (by first|decide|exact trivial|exact ⟨rfl,trivial⟩|exact Nat.le_of_ble_eq_true rfl|exact ⟨_,rfl,rfl⟩|exact ⟨rfl,rfl,trivial⟩|exact ⟨rfl,rfl,rfl,trivial⟩|exact ⟨rfl,rfl,rfl,rfl,trivial⟩|exact ⟨rfl,rfl,rfl,rfl,rfl,trivial⟩) ?_
    conv => whnf
    refine LEP.of ?_
    simp [tmvs_length] at h1
    simp
    intro e
    exact h1 (by rw [e])
  have h3 : l.length = m.length := by simp [tmvs_length] at h1; omega
  repeat (conv => whnf); first|refine IndepAnd (by kernel_rfl) ?_|refine TreeAnd (by kernel_rfl) ?_|refine ⟨rfl,?_⟩|refine And.intro (by first|decide|exact trivial|exact ⟨rfl,trivial⟩|exact Nat.le_of_ble_eq_true rfl|exact ⟨_,rfl,rfl⟩|exact ⟨rfl,rfl,trivial⟩|exact ⟨rfl,rfl,rfl,trivial⟩|exact ⟨rfl,rfl,rfl,rfl,trivial⟩|exact ⟨rfl,rfl,rfl,rfl,rfl,trivial⟩) ?_
  conv => whnf
  refine ⟨{ i : Rd l.length // l.take i.1 = m.take i.1 }, fun i => S.of [(1, lv m), (2, .fn 41 []), (15, lv l), (16, iv ((tmvs l).length : Int)), (17, iv (i.1.1 : Int))] [], fun i => l.length - i.1.1, ⟨Rd.zero _, rfl⟩, ?_, ?_⟩
  · refine Ge.of rfl ?_ ?_
    · repeat (conv => whnf); refine ⟨LE.of rfl, ?_⟩
      trivial
    · repeat (conv => whnf); refine ⟨OLE.of rfl, ?_⟩
      trivial
  rintro ⟨⟨i, hi⟩, htake⟩
  repeat (conv => whnf); first|refine IndepAnd (by kernel_rfl) ?_|refine TreeAnd (by kernel_rfl) ?_|refine ⟨rfl,?_⟩|refine And.intro (by first|decide|exact trivial|exact ⟨rfl,trivial⟩|exact Nat.le_of_ble_eq_true rfl|exact ⟨_,rfl,rfl⟩|exact ⟨rfl,rfl,trivial⟩|exact ⟨rfl,rfl,rfl,trivial⟩|exact ⟨rfl,rfl,rfl,rfl,trivial⟩|exact ⟨rfl,rfl,rfl,rfl,rfl,trivial⟩) ?_
  conv => whnf
  refine @bool_rec _ _ _ ?_ ?_ <;> intro h4
  · have hlt : i < l.length := by simpa [tmvs_length] using h4
    have hlt' : i < m.length := h3 ▸ hlt
    repeat (conv => whnf); first|refine IndepAnd (by kernel_rfl) ?_|refine TreeAnd (by kernel_rfl) ?_|refine ⟨rfl,?_⟩|refine And.intro (by first|decide|exact trivial|exact ⟨rfl,trivial⟩|exact Nat.le_of_ble_eq_true rfl|exact ⟨_,rfl,rfl⟩|exact ⟨rfl,rfl,trivial⟩|exact ⟨rfl,rfl,rfl,trivial⟩|exact ⟨rfl,rfl,rfl,rfl,trivial⟩|exact ⟨rfl,rfl,rfl,rfl,rfl,trivial⟩) ?_
    conv => whnf
    refine ⟨Int.natCast_nonneg _, TV l[i], tmvs_getN hlt, rfl, rfl, ?_⟩
    repeat (conv => whnf); first|refine IndepAnd (by kernel_rfl) ?_|refine TreeAnd (by kernel_rfl) ?_|refine ⟨rfl,?_⟩|refine And.intro (by first|decide|exact trivial|exact ⟨rfl,trivial⟩|exact Nat.le_of_ble_eq_true rfl|exact ⟨_,rfl,rfl⟩|exact ⟨rfl,rfl,trivial⟩|exact ⟨rfl,rfl,rfl,trivial⟩|exact ⟨rfl,rfl,rfl,rfl,trivial⟩|exact ⟨rfl,rfl,rfl,rfl,rfl,trivial⟩) ?_
    conv => whnf
    refine ⟨Int.natCast_nonneg _, TV m[i], tmvs_getN hlt', rfl, rfl, ?_⟩
    repeat (conv => whnf); first|refine IndepAnd (by kernel_rfl) ?_|refine TreeAnd (by kernel_rfl) ?_|refine ⟨rfl,?_⟩|refine And.intro (by first|decide|exact trivial|exact ⟨rfl,trivial⟩|exact Nat.le_of_ble_eq_true rfl|exact ⟨_,rfl,rfl⟩|exact ⟨rfl,rfl,trivial⟩|exact ⟨rfl,rfl,rfl,trivial⟩|exact ⟨rfl,rfl,rfl,rfl,trivial⟩|exact ⟨rfl,rfl,rfl,rfl,rfl,trivial⟩) ?_
    conv => whnf
    refine ⟨_, CallVC.pr (ih l[i] (List.getElem_mem hlt) m[i]) rfl rfl, ?_⟩
    repeat (conv => whnf); first|refine IndepAnd (by kernel_rfl) ?_|refine TreeAnd (by kernel_rfl) ?_|refine ⟨rfl,?_⟩|refine And.intro (by first|decide|exact trivial|exact ⟨rfl,trivial⟩|exact Nat.le_of_ble_eq_true rfl|exact ⟨_,rfl,rfl⟩|exact ⟨rfl,rfl,trivial⟩|exact ⟨rfl,rfl,rfl,trivial⟩|exact ⟨rfl,rfl,rfl,rfl,trivial⟩|exact ⟨rfl,rfl,rfl,rfl,rfl,trivial⟩) ?_
    conv => whnf
    refine @bool_rec _ _ _ ?_ ?_ <;> intro h5
    · repeat (conv => whnf); first|refine IndepAnd (by kernel_rfl) ?_|refine TreeAnd (by kernel_rfl) ?_|refine ⟨rfl,?_⟩|refine And.intro (by first|decide|exact trivial|exact ⟨rfl,trivial⟩|exact Nat.le_of_ble_eq_true rfl|exact ⟨_,rfl,rfl⟩|exact ⟨rfl,rfl,trivial⟩|exact ⟨rfl,rfl,rfl,trivial⟩|exact ⟨rfl,rfl,rfl,rfl,trivial⟩|exact ⟨rfl,rfl,rfl,rfl,rfl,trivial⟩) ?_
      conv => whnf
      refine LEP.of ?_
      simp at h5
      simp
      intro e
      exact h5 (by simp [e])
    · have h5 : l[i] = m[i] := by simpa using h5
      repeat (conv => whnf); first|refine IndepAnd (by kernel_rfl) ?_|refine TreeAnd (by kernel_rfl) ?_|refine ⟨rfl,?_⟩|refine And.intro (by first|decide|exact trivial|exact ⟨rfl,trivial⟩|exact Nat.le_of_ble_eq_true rfl|exact ⟨_,rfl,rfl⟩|exact ⟨rfl,rfl,trivial⟩|exact ⟨rfl,rfl,rfl,trivial⟩|exact ⟨rfl,rfl,rfl,rfl,trivial⟩|exact ⟨rfl,rfl,rfl,rfl,rfl,trivial⟩) ?_
      conv => whnf
      refine ⟨_, wrap64 (by show _ ≤ ((i : Nat) : Int) + 1; omega) (by show ((i : Nat) : Int) + 1 ≤ _; omega), ?_⟩
      repeat (conv => whnf); first|refine IndepAnd (by kernel_rfl) ?_|refine TreeAnd (by kernel_rfl) ?_|refine ⟨rfl,?_⟩|refine And.intro (by first|decide|exact trivial|exact ⟨rfl,trivial⟩|exact Nat.le_of_ble_eq_true rfl|exact ⟨_,rfl,rfl⟩|exact ⟨rfl,rfl,trivial⟩|exact ⟨rfl,rfl,rfl,trivial⟩|exact ⟨rfl,rfl,rfl,rfl,trivial⟩|exact ⟨rfl,rfl,rfl,rfl,rfl,trivial⟩) ?_
      conv => whnf
      refine ⟨⟨⟨i + 1, hlt⟩, ?_⟩, ?_, ?_⟩
      · show l.take (i + 1) = m.take (i + 1)
        rw [List.take_succ_eq_append_getElem hlt, List.take_succ_eq_append_getElem hlt', h5, htake]
      · refine Ge.of rfl ?_ ?_
        · repeat (conv => whnf); refine ⟨LE.of rfl, ?_⟩
          trivial
        · repeat (conv => whnf); refine ⟨OLE.of rfl, ?_⟩
          trivial
      · show l.length - (i + 1) < l.length - i
        omega
  · have hge : i = l.length := by simp [tmvs_length] at h4; omega
    repeat (conv => whnf); first|refine IndepAnd (by kernel_rfl) ?_|refine TreeAnd (by kernel_rfl) ?_|refine ⟨rfl,?_⟩|refine And.intro (by first|decide|exact trivial|exact ⟨rfl,trivial⟩|exact Nat.le_of_ble_eq_true rfl|exact ⟨_,rfl,rfl⟩|exact ⟨rfl,rfl,trivial⟩|exact ⟨rfl,rfl,rfl,trivial⟩|exact ⟨rfl,rfl,rfl,rfl,trivial⟩|exact ⟨rfl,rfl,rfl,rfl,rfl,trivial⟩) ?_
    conv => whnf
    refine LEP.of ?_
    have : l = m := by
      have ht : l.take i = m.take i := htake
      rwa [List.take_of_length_le (by omega), List.take_of_length_le (by omega)] at ht
    simp [this]
/-- Two terms are the same, as the program has it. -/
theorem same_ok (b : Bool) : ∀ t, Fit t → ∀ u, K b 41 [tv t, tv u] (.pv (.bool (decide (t = u)))) := by
  intro t
  induction t using Tm.indk with
  | h t ih =>
  intro hf u
  have hres : decide (t = u) = (decide (t.kind = u.kind) && (decide (t.name = u.name) && decide (t.kids = u.kids))) := by
    rw [Bool.eq_iff_iff]
    simp only [decide_eq_true_eq, Bool.and_eq_true]
    exact Tm.eq_iff t u
  rw [hres]
  refine PC_of_vc (cx_ok b) (mixed b) {} Tryd.func41 (by kernel_rfl) rfl rfl (by kernel_rfl) ?_
  repeat (conv => whnf); first|refine IndepAnd (by kernel_rfl) ?_|refine TreeAnd (by kernel_rfl) ?_|refine ⟨rfl,?_⟩|refine And.intro (by first|decide|exact trivial|exact ⟨rfl,trivial⟩|exact Nat.le_of_ble_eq_true rfl|exact ⟨_,rfl,rfl⟩|exact ⟨rfl,rfl,trivial⟩|exact ⟨rfl,rfl,rfl,trivial⟩|exact ⟨rfl,rfl,rfl,rfl,trivial⟩|exact ⟨rfl,rfl,rfl,rfl,rfl,trivial⟩) ?_
  conv => whnf
  refine @bool_rec _ _ _ ?_ ?_ <;> intro h1
  · have h1 : t.kind = u.kind := by simpa using h1
    repeat (conv => whnf); first|refine IndepAnd (by kernel_rfl) ?_|refine TreeAnd (by kernel_rfl) ?_|refine ⟨rfl,?_⟩|refine And.intro (by first|decide|exact trivial|exact ⟨rfl,trivial⟩|exact Nat.le_of_ble_eq_true rfl|exact ⟨_,rfl,rfl⟩|exact ⟨rfl,rfl,trivial⟩|exact ⟨rfl,rfl,rfl,trivial⟩|exact ⟨rfl,rfl,rfl,rfl,trivial⟩|exact ⟨rfl,rfl,rfl,rfl,rfl,trivial⟩) ?_
    conv => whnf
    refine @bool_rec _ _ _ ?_ ?_ <;> intro h2
    · have h2 : t.name = u.name := by simpa using h2
      repeat (conv => whnf); first|refine IndepAnd (by kernel_rfl) ?_|refine TreeAnd (by kernel_rfl) ?_|refine ⟨rfl,?_⟩|refine And.intro (by first|decide|exact trivial|exact ⟨rfl,trivial⟩|exact Nat.le_of_ble_eq_true rfl|exact ⟨_,rfl,rfl⟩|exact ⟨rfl,rfl,trivial⟩|exact ⟨rfl,rfl,rfl,trivial⟩|exact ⟨rfl,rfl,rfl,rfl,trivial⟩|exact ⟨rfl,rfl,rfl,rfl,rfl,trivial⟩) ?_
      conv => whnf
      refine ⟨_, CallVC.pr (equal_ok b t.kids u.kids hf.len fun x hx y => ih x hx (hf.kid hx) y) rfl rfl, ?_⟩
      repeat (conv => whnf); first|refine IndepAnd (by kernel_rfl) ?_|refine TreeAnd (by kernel_rfl) ?_|refine ⟨rfl,?_⟩|refine And.intro (by first|decide|exact trivial|exact ⟨rfl,trivial⟩|exact Nat.le_of_ble_eq_true rfl|exact ⟨_,rfl,rfl⟩|exact ⟨rfl,rfl,trivial⟩|exact ⟨rfl,rfl,rfl,trivial⟩|exact ⟨rfl,rfl,rfl,rfl,trivial⟩|exact ⟨rfl,rfl,rfl,rfl,rfl,trivial⟩) ?_
      conv => whnf
      refine LEP.of ?_
      simp [h1, h2]
    · repeat (conv => whnf); first|refine IndepAnd (by kernel_rfl) ?_|refine TreeAnd (by kernel_rfl) ?_|refine ⟨rfl,?_⟩|refine And.intro (by first|decide|exact trivial|exact ⟨rfl,trivial⟩|exact Nat.le_of_ble_eq_true rfl|exact ⟨_,rfl,rfl⟩|exact ⟨rfl,rfl,trivial⟩|exact ⟨rfl,rfl,rfl,trivial⟩|exact ⟨rfl,rfl,rfl,rfl,trivial⟩|exact ⟨rfl,rfl,rfl,rfl,rfl,trivial⟩) ?_
      conv => whnf
      refine LEP.of ?_
      simp at h2
      simp [h2]
  · repeat (conv => whnf); first|refine IndepAnd (by kernel_rfl) ?_|refine TreeAnd (by kernel_rfl) ?_|refine ⟨rfl,?_⟩|refine And.intro (by first|decide|exact trivial|exact ⟨rfl,trivial⟩|exact Nat.le_of_ble_eq_true rfl|exact ⟨_,rfl,rfl⟩|exact ⟨rfl,rfl,trivial⟩|exact ⟨rfl,rfl,rfl,trivial⟩|exact ⟨rfl,rfl,rfl,rfl,trivial⟩|exact ⟨rfl,rfl,rfl,rfl,rfl,trivial⟩) ?_
    conv => whnf
    refine LEP.of ?_
    simp at h1
    simp [h1]
end Go.Sl
