/- Contracts: Depth, Size, Sub. -/
import Derived.Test.YtpeabfflebgamaaDoorGc
set_option linter.unusedVariables false
set_option linter.unusedSimpArgs false
namespace Go.Sl
open Go Go.Vc Go.Proofs Go.RowKit

/-- The same as 'ob1', rows of one's own being seen as lists. -/
theorem CallVC.obv {C : Cx} {η : Nat → AO} {f : FuncId} {args args' : List SV} {r : Res} {κ ty : Nat} {x : SV} (h : PC C f (lookO [(κ, .var false ty x)]) args' r) (hκ : κ ∈ SV.keysL args) (hη : (η κ).ro = .var false ty x)
    (hkeys : ∀ q ∈ SV.keysL args', q = κ) (hx : x.keys = []) (hs : (args.all noSlc || r.scalar) = true) : CallVC C η f args args' r := by
  have h1 : ∀ q, lookO [(κ, .var false ty x)] q = if q = κ then .var false ty x else .no := fun q => by
    show cond (Nat.beq q κ) _ _ = _
    rw [beq_ite]
    rfl
  refine ⟨⟨_, args', LEL.refl _, h, fun q => ?_, fun q hq => ?_, fun q q' hq => ?_, ?_⟩⟩
  · rw [h1]
    split
    · rename_i e
      subst e
      exact .inr ⟨.base hκ, hη.symm⟩
    · exact .inl rfl
  · rw [h1, hkeys q hq, if_pos rfl]
    rfl
  · rw [h1] at hq
    split at hq
    · have hq : q' ∈ x.keys := hq
      rw [hx] at hq
      cases hq
    · cases hq
  · cases e : r.scalar with
    | true => exact .inl rfl
    | false =>
      rw [e, Bool.or_false] at hs
      exact .inr fun x hx => List.all_eq_true.1 hs x hx
/-- The object's number is nothing. -/
theorem PC.ren {C : Cx} {f : Nat} {g : FuncId} {ty : Nat} {x X : SV} {r : Res} (κ κ' : Nat) (hX : X.keys = []) (hx : x.keys = []) (h : PC C g (lookO [(κ', .var false ty x)]) [X, .fn f [.ptr κ' 0]] r) : PC C g (lookO [(κ, .var false ty x)]) [X, .fn f [.ptr κ 0]] r := by
  have h1 : ∀ κ q, lookO [(κ, .var false ty x)] q = if q = κ then .var false ty x else .no := fun κ q => by
    show cond (Nat.beq q κ) _ _ = _
    rw [beq_ite]
    rfl
  refine ⟨h.fn, fun ok β w vs hG hlt hr ho hl hk hmn => h.run ok (fun _ => β κ) w vs hG hlt ?_ (fun q => ?_) (fun q hq => ?_) (fun q q' hq => ?_) (fun q => ?_)⟩
  · match vs, hr with
    | [v, u], hr =>
      obtain ⟨ha, hb, _⟩ := hr
      refine ⟨R_keys (fun q hq => by rw [hX] at hq; cases hq) ha, ?_, trivial⟩
      rw [R] at hb ⊢
      obtain ⟨ws, e, hw⟩ := hb
      refine ⟨ws, e, ?_⟩
      match ws, hw with
      | [p], hw =>
        obtain ⟨hp, _⟩ := hw
        refine ⟨?_, trivial⟩
        rw [R] at hp ⊢
        exact hp
  · rw [h1]
    split
    · have := ho κ
      rw [h1, if_pos rfl] at this
      obtain ⟨b, v, q1, q2, q3, q4⟩ := this
      exact ⟨b, v, q1, q2, R_keys (fun q hq => by rw [hx] at hq; cases hq) q3, q4⟩
    · trivial
  · have : q = κ' := by simpa [SV.keysL, SV.keys, hX] using hq
    rw [h1, if_pos this]
    rfl
  · rw [h1] at hq
    split at hq
    · have hq : q' ∈ x.keys := hq
      rw [hx] at hq; cases hq
    · cases hq
  · rw [h1]
    split <;> rfl
/-- slices.IndexFunc, of a function that reads one term. -/
theorem index7_ok (b : Bool) (f : Nat) (n : Tm) (p : Tm → Bool) (l : List Tm) (hl : l.length ≤ 9223372036854775807)
    (hp : ∀ t ∈ l, PC (cx b) f (lookO [(100, .var false 24 (tv n))]) [tv t, .ptr 100 0] (.pv (.bool (p t)))) :
    PC (cx b) 88 (lookO [(100, .var false 24 (tv n))]) [lv l, .fn f [.ptr 100 0]] (.pv (.int .i64 (idxT p l))) := by
  refine PC_of_vc (cx_ok b) (mixed b) {} Tryd.func88 (by kernel_rfl) rfl rfl (by kernel_rfl) ?_
  repeat (conv => whnf); first|refine IndepAnd (by kernel_rfl) ?_|refine TreeAnd (by kernel_rfl) ?_|refine ⟨rfl,?_⟩|refine And.intro (by first|decide|exact trivial|exact ⟨rfl,trivial⟩|exact Nat.le_of_ble_eq_true rfl|exact ⟨_,rfl,rfl⟩|exact ⟨rfl,rfl,trivial⟩|exact ⟨rfl,rfl,rfl,trivial⟩|exact ⟨rfl,rfl,rfl,rfl,trivial⟩|exact ⟨rfl,rfl,rfl,rfl,rfl,trivial⟩) ?_
  conv => whnf
  refine ⟨{ i : Rd l.length // ∀ t ∈ l.take i.1, p t = false }, fun i => S.of [(0, lv l), (1, .fn f [.ptr 100 0]), (7, iv ((tmvs l).length : Int)), (8, iv (i.1.1 : Int))] [(100, .var false 24 (tv n))], fun i => l.length - i.1.1, ⟨Rd.zero _, by simp [Rd.zero]⟩, ?_, ?_⟩
  · refine Ge.of rfl ?_ ?_
    · repeat (conv => whnf); refine ⟨LE.of rfl, ?_⟩
      trivial
    · repeat (conv => whnf); refine ⟨OLE.of rfl, ?_⟩
      trivial
  rintro ⟨⟨i, hi⟩, hno⟩
  repeat (conv => whnf); first|refine IndepAnd (by kernel_rfl) ?_|refine TreeAnd (by kernel_rfl) ?_|refine ⟨rfl,?_⟩|refine And.intro (by first|decide|exact trivial|exact ⟨rfl,trivial⟩|exact Nat.le_of_ble_eq_true rfl|exact ⟨_,rfl,rfl⟩|exact ⟨rfl,rfl,trivial⟩|exact ⟨rfl,rfl,rfl,trivial⟩|exact ⟨rfl,rfl,rfl,rfl,trivial⟩|exact ⟨rfl,rfl,rfl,rfl,rfl,trivial⟩) ?_
  conv => whnf
  refine @bool_rec _ _ _ ?_ ?_ <;> intro h1
  · have hlt : i < l.length := by have := of_decide_eq_true h1; rw [tmvs_length] at this; exact Int.ofNat_lt.1 this
    repeat (conv => whnf); first|refine IndepAnd (by kernel_rfl) ?_|refine TreeAnd (by kernel_rfl) ?_|refine ⟨rfl,?_⟩|refine And.intro (by first|decide|exact trivial|exact ⟨rfl,trivial⟩|exact Nat.le_of_ble_eq_true rfl|exact ⟨_,rfl,rfl⟩|exact ⟨rfl,rfl,trivial⟩|exact ⟨rfl,rfl,rfl,trivial⟩|exact ⟨rfl,rfl,rfl,rfl,trivial⟩|exact ⟨rfl,rfl,rfl,rfl,rfl,trivial⟩) ?_
    conv => whnf
    refine ⟨Int.natCast_nonneg _, TV l[i], tmvs_getN hlt, rfl, rfl, ?_⟩
    repeat (conv => whnf); first|refine IndepAnd (by kernel_rfl) ?_|refine TreeAnd (by kernel_rfl) ?_|refine ⟨rfl,?_⟩|refine And.intro (by first|decide|exact trivial|exact ⟨rfl,trivial⟩|exact Nat.le_of_ble_eq_true rfl|exact ⟨_,rfl,rfl⟩|exact ⟨rfl,rfl,trivial⟩|exact ⟨rfl,rfl,rfl,trivial⟩|exact ⟨rfl,rfl,rfl,rfl,trivial⟩|exact ⟨rfl,rfl,rfl,rfl,rfl,trivial⟩) ?_
    conv => whnf
    refine ⟨_, CallVC.ob1 (hp l[i] (List.getElem_mem hlt)) (by simp [SV.keysL, SV.keys]) rfl (by simp [SV.keysL, SV.keys]) rfl rfl, ?_⟩
    repeat (conv => whnf); first|refine IndepAnd (by kernel_rfl) ?_|refine TreeAnd (by kernel_rfl) ?_|refine ⟨rfl,?_⟩|refine And.intro (by first|decide|exact trivial|exact ⟨rfl,trivial⟩|exact Nat.le_of_ble_eq_true rfl|exact ⟨_,rfl,rfl⟩|exact ⟨rfl,rfl,trivial⟩|exact ⟨rfl,rfl,rfl,trivial⟩|exact ⟨rfl,rfl,rfl,rfl,trivial⟩|exact ⟨rfl,rfl,rfl,rfl,rfl,trivial⟩) ?_
    conv => whnf
    refine @bool_rec _ _ _ ?_ ?_ <;> intro h2
    · repeat (conv => whnf); first|refine IndepAnd (by kernel_rfl) ?_|refine TreeAnd (by kernel_rfl) ?_|refine ⟨rfl,?_⟩|refine And.intro (by first|decide|exact trivial|exact ⟨rfl,trivial⟩|exact Nat.le_of_ble_eq_true rfl|exact ⟨_,rfl,rfl⟩|exact ⟨rfl,rfl,trivial⟩|exact ⟨rfl,rfl,rfl,trivial⟩|exact ⟨rfl,rfl,rfl,rfl,trivial⟩|exact ⟨rfl,rfl,rfl,rfl,rfl,trivial⟩) ?_
      conv => whnf
      exact LEP.of (congrArg (PV.int .i64) (idxT_some p l i hlt hno h2).symm)
    · repeat (conv => whnf); first|refine IndepAnd (by kernel_rfl) ?_|refine TreeAnd (by kernel_rfl) ?_|refine ⟨rfl,?_⟩|refine And.intro (by first|decide|exact trivial|exact ⟨rfl,trivial⟩|exact Nat.le_of_ble_eq_true rfl|exact ⟨_,rfl,rfl⟩|exact ⟨rfl,rfl,trivial⟩|exact ⟨rfl,rfl,rfl,trivial⟩|exact ⟨rfl,rfl,rfl,rfl,trivial⟩|exact ⟨rfl,rfl,rfl,rfl,rfl,trivial⟩) ?_
      conv => whnf
      refine ⟨_, wrapN (n := i + 1) rfl (by omega), ?_⟩
      repeat (conv => whnf); first|refine IndepAnd (by kernel_rfl) ?_|refine TreeAnd (by kernel_rfl) ?_|refine ⟨rfl,?_⟩|refine And.intro (by first|decide|exact trivial|exact ⟨rfl,trivial⟩|exact Nat.le_of_ble_eq_true rfl|exact ⟨_,rfl,rfl⟩|exact ⟨rfl,rfl,trivial⟩|exact ⟨rfl,rfl,rfl,trivial⟩|exact ⟨rfl,rfl,rfl,rfl,trivial⟩|exact ⟨rfl,rfl,rfl,rfl,rfl,trivial⟩) ?_
      conv => whnf
      refine ⟨⟨⟨i + 1, hlt⟩, ?_⟩, ?_, by show l.length - (i + 1) < l.length - i; omega⟩
      · intro t ht
        rw [List.take_succ_eq_append_getElem hlt, List.mem_append, List.mem_singleton] at ht
        rcases ht with ht | rfl
        · exact hno t ht
        · exact h2
      · refine Ge.of rfl ?_ ?_
        · repeat (conv => whnf); refine ⟨LE.of rfl, ?_⟩
          trivial
        · repeat (conv => whnf); refine ⟨OLE.of rfl, ?_⟩
          trivial
  · have hge : i = l.length := by have := of_decide_eq_false h1; rw [tmvs_length] at this; have h2 : ¬ ((i : Int) < l.length) := this; omega
    repeat (conv => whnf); first|refine IndepAnd (by kernel_rfl) ?_|refine TreeAnd (by kernel_rfl) ?_|refine ⟨rfl,?_⟩|refine And.intro (by first|decide|exact trivial|exact ⟨rfl,trivial⟩|exact Nat.le_of_ble_eq_true rfl|exact ⟨_,rfl,rfl⟩|exact ⟨rfl,rfl,trivial⟩|exact ⟨rfl,rfl,rfl,trivial⟩|exact ⟨rfl,rfl,rfl,rfl,trivial⟩|exact ⟨rfl,rfl,rfl,rfl,rfl,trivial⟩) ?_
    conv => whnf
    exact LEP.of (congrArg (PV.int .i64) (idxT_none p l fun t ht => hno t (by rw [show l.take i = l from List.take_of_length_le (by omega)]; exact ht)).symm)
theorem contains7_ok (b : Bool) (f : Nat) (n : Tm) (p : Tm → Bool) (l : List Tm) (hl : l.length ≤ 9223372036854775807)
    (hp : ∀ t ∈ l, PC (cx b) f (lookO [(100, .var false 24 (tv n))]) [tv t, .ptr 100 0] (.pv (.bool (p t)))) :
    PC (cx b) 76 (lookO [(100, .var false 24 (tv n))]) [lv l, .fn f [.ptr 100 0]] (.pv (.bool (l.any p))) := by
  refine PC_of_vc (cx_ok b) (mixed b) {} Tryd.func76 (by kernel_rfl) rfl rfl (by kernel_rfl) ?_
  repeat (conv => whnf); first|refine IndepAnd (by kernel_rfl) ?_|refine TreeAnd (by kernel_rfl) ?_|refine ⟨rfl,?_⟩|refine And.intro (by first|decide|exact trivial|exact ⟨rfl,trivial⟩|exact Nat.le_of_ble_eq_true rfl|exact ⟨_,rfl,rfl⟩|exact ⟨rfl,rfl,trivial⟩|exact ⟨rfl,rfl,rfl,trivial⟩|exact ⟨rfl,rfl,rfl,rfl,trivial⟩|exact ⟨rfl,rfl,rfl,rfl,rfl,trivial⟩) ?_
  conv => whnf
  refine ⟨_, CallVC.ob1 (index7_ok b f n p l hl hp) (by simp [SV.keysL, SV.keys]) rfl (by simp [SV.keysL, SV.keys]) rfl rfl, ?_⟩
  repeat (conv => whnf); first|refine IndepAnd (by kernel_rfl) ?_|refine TreeAnd (by kernel_rfl) ?_|refine ⟨rfl,?_⟩|refine And.intro (by first|decide|exact trivial|exact ⟨rfl,trivial⟩|exact Nat.le_of_ble_eq_true rfl|exact ⟨_,rfl,rfl⟩|exact ⟨rfl,rfl,trivial⟩|exact ⟨rfl,rfl,rfl,trivial⟩|exact ⟨rfl,rfl,rfl,rfl,trivial⟩|exact ⟨rfl,rfl,rfl,rfl,rfl,trivial⟩) ?_
  conv => whnf
  refine LEP.of (congrArg PV.bool ?_)
  rw [Bool.eq_iff_iff, decide_eq_true_eq]
  exact idxT_spec p l
/-- Depth, at most so much. -/
def depT (t : Tm) (d : Nat) : Nat := min t.depth d
theorem depths_take {l : List Tm} {i : Nat} (h : i < l.length) : Tm.depths (l.take (i + 1)) = max (Tm.depths (l.take i)) l[i].depth := by
  induction l generalizing i with
  | nil => simp at h
  | cons t ts ih =>
    cases i with
    | zero => simp [Tm.depths]
    | succ i =>
      simp only [List.take_succ_cons, Tm.depths, List.getElem_cons_succ]
      rw [ih (by simpa using h)]
      omega
theorem depth_mk (t : Tm) : t.depth = Tm.depths t.kids + 1 := by cases t; rfl
end Go.Sl
