/- Contracts: the shape of a term. -/
/- short -/
import Derived.Test.YtpeabfflebgamaaDoorFc
import Derived.Test.YtpeabfflebgamaaDoorText
set_option linter.unusedVariables false
set_option linter.unusedSimpArgs false
namespace Go.Sl
open Go Go.Vc Go.Proofs Go.RowKit

/-- A call that is handed an object to read. -/
theorem CallVC.ob1 {C : Cx} {η : Nat → AO} {f : FuncId} {args : List SV} {r : Res} {κ ty : Nat} {x : SV} (h : PC C f (lookO [(κ, .var false ty x)]) args r) (hκ : κ ∈ SV.keysL args) (hη : (η κ).ro = .var false ty x)
    (hkeys : ∀ q ∈ SV.keysL args, q = κ) (hx : x.keys = []) (hs : (args.all noSlc || r.scalar) = true) : CallVC C η f args args r := by
  have h1 : ∀ q, lookO [(κ, .var false ty x)] q = if q = κ then .var false ty x else .no := fun q => by
    show cond (Nat.beq q κ) _ _ = _
    rw [beq_ite]
    rfl
  refine ⟨⟨_, args, LEL.refl _, h, fun q => ?_, fun q hq => ?_, fun q q' hq => ?_, ?_⟩⟩
  · rw [h1]
    split
    · rename_i e
      subst e
      exact .inr ⟨.base hκ, hη.symm⟩
    · exact .inl rfl
  · rw [h1, hkeys q hq, if_pos rfl]
    rfl
  · rw [h1] at hq
    split at hq
    · have hq : q' ∈ x.keys := hq
      rw [hx] at hq
      cases hq
    · cases hq
  · cases e : r.scalar with
    | true => exact .inl rfl
    | false =>
      rw [e, Bool.or_false] at hs
      exact .inr fun x hx => List.all_eq_true.1 hs x hx
def idxT (p : Tm → Bool) : List Tm → Int
  | [] => -1
  | t :: ts => if p t then 0 else if idxT p ts < 0 then -1 else idxT p ts + 1
theorem idxT_spec (p : Tm → Bool) (l : List Tm) : 0 ≤ idxT p l ↔ l.any p = true := by
  induction l with
  | nil => simp [idxT]
  | cons t ts ih =>
    rw [List.any_cons, Bool.or_eq_true, ← ih]
    simp only [idxT]
    by_cases h : p t = true
    · simp [h]
    · rw [if_neg h]
      by_cases h2 : idxT p ts < 0
      · rw [if_pos h2]
        exact ⟨fun h3 => by omega, fun h3 => by rcases h3 with h3 | h3; · exact absurd h3 h
                                                · omega⟩
      · rw [if_neg h2]
        exact ⟨fun _ => .inr (by omega), fun _ => by omega⟩
theorem idxT_none (p : Tm → Bool) (l : List Tm) (h : ∀ t ∈ l, p t = false) : idxT p l = -1 := by
  induction l with
  | nil => rfl
  | cons t ts ih =>
    simp only [idxT]
    rw [h t (List.mem_cons_self ..), ih fun u hu => h u (List.mem_cons_of_mem _ hu)]
    simp
theorem idxT_some (p : Tm → Bool) (l : List Tm) (i : Nat) (hi : i < l.length) (h : ∀ t ∈ l.take i, p t = false) (hp : p l[i] = true) : idxT p l = i := by
  induction l generalizing i with
  | nil => simp at hi
  | cons t ts ih =>
    cases i with
    | zero => simp at hp; simp [idxT, hp]
    | succ i =>
      have h0 := h t (by simp)
      have := ih i (by simpa using hi) (fun u hu => h u (by simp [hu])) (by simpa using hp)
      simp only [idxT, h0, this]
      simp
      omega
/-- slices.IndexFunc, of a function that reads one object. -/
theorem index1_ok (b : Bool) (f : Nat) (n : Int) (p : Tm → Bool) (l : List Tm) (hl : l.length ≤ 9223372036854775807)
    (hp : ∀ t ∈ l, PC (cx b) f (lookO [(3, .var false 3 (iv n))]) [tv t, .ptr 3 0] (.pv (.bool (p t)))) :
    PC (cx b) 88 (lookO [(3, .var false 3 (iv n))]) [lv l, .fn f [.ptr 3 0]] (.pv (.int .i64 (idxT p l))) := by
  refine PC_of_vc (cx_ok b) (mixed b) {} Tryd.func88 (by kernel_rfl) rfl rfl (by kernel_rfl) ?_
  repeat (conv => whnf); first|refine IndepAnd (by kernel_rfl) ?_|refine ⟨rfl,?_⟩|refine And.intro (by first|decide|exact trivial|exact ⟨_,rfl,rfl⟩|exact ⟨rfl,trivial⟩|exact ⟨rfl,rfl,trivial⟩) ?_
  conv => whnf
  refine ⟨{ i : Rd l.length // ∀ t ∈ l.take i.1, p t = false }, fun i => S.of [(0, lv l), (1, .fn f [.ptr 3 0]), (7, iv ((tmvs l).length : Int)), (8, iv (i.1.1 : Int))] [(3, .var false 3 (iv n))], fun i => l.length - i.1.1, ⟨Rd.zero _, by simp [Rd.zero]⟩, ?_, ?_⟩
  · refine Ge.of rfl ?_ ?_
    · repeat (conv => whnf); refine ⟨LE.of rfl, ?_⟩
      trivial
    · repeat (conv => whnf); refine ⟨OLE.of rfl, ?_⟩
      trivial
  rintro ⟨⟨i, hi⟩, hno⟩
  repeat (conv => whnf); first|refine IndepAnd (by kernel_rfl) ?_|refine ⟨rfl,?_⟩|refine And.intro (by first|decide|exact trivial|exact ⟨_,rfl,rfl⟩|exact ⟨rfl,trivial⟩|exact ⟨rfl,rfl,trivial⟩) ?_
  conv => whnf
  refine @bool_rec _ _ _ ?_ ?_ <;> intro h1
  · have hlt : i < l.length := by have := of_decide_eq_true h1; rw [tmvs_length] at this; exact Int.ofNat_lt.1 this
    repeat (conv => whnf); first|refine IndepAnd (by kernel_rfl) ?_|refine ⟨rfl,?_⟩|refine And.intro (by first|decide|exact trivial|exact ⟨_,rfl,rfl⟩|exact ⟨rfl,trivial⟩|exact ⟨rfl,rfl,trivial⟩) ?_
    conv => whnf
    refine ⟨Int.natCast_nonneg _, TV l[i], tmvs_getN hlt, rfl, rfl, ?_⟩
    repeat (conv => whnf); first|refine IndepAnd (by kernel_rfl) ?_|refine ⟨rfl,?_⟩|refine And.intro (by first|decide|exact trivial|exact ⟨_,rfl,rfl⟩|exact ⟨rfl,trivial⟩|exact ⟨rfl,rfl,trivial⟩) ?_
    conv => whnf
    refine ⟨_, CallVC.ob1 (hp l[i] (List.getElem_mem hlt)) (by simp [SV.keysL, SV.keys]) rfl (by simp [SV.keysL, SV.keys]) rfl rfl, ?_⟩
    repeat (conv => whnf); first|refine IndepAnd (by kernel_rfl) ?_|refine ⟨rfl,?_⟩|refine And.intro (by first|decide|exact trivial|exact ⟨_,rfl,rfl⟩|exact ⟨rfl,trivial⟩|exact ⟨rfl,rfl,trivial⟩) ?_
    conv => whnf
    refine @bool_rec _ _ _ ?_ ?_ <;> intro h2
    · repeat (conv => whnf); first|refine IndepAnd (by kernel_rfl) ?_|refine ⟨rfl,?_⟩|refine And.intro (by first|decide|exact trivial|exact ⟨_,rfl,rfl⟩|exact ⟨rfl,trivial⟩|exact ⟨rfl,rfl,trivial⟩) ?_
      conv => whnf
      exact LEP.of (congrArg (PV.int .i64) (idxT_some p l i hlt hno h2).symm)
    · repeat (conv => whnf); first|refine IndepAnd (by kernel_rfl) ?_|refine ⟨rfl,?_⟩|refine And.intro (by first|decide|exact trivial|exact ⟨_,rfl,rfl⟩|exact ⟨rfl,trivial⟩|exact ⟨rfl,rfl,trivial⟩) ?_
      conv => whnf
      refine ⟨_, wrapN (n := i + 1) rfl (by omega), ?_⟩
      repeat (conv => whnf); first|refine IndepAnd (by kernel_rfl) ?_|refine ⟨rfl,?_⟩|refine And.intro (by first|decide|exact trivial|exact ⟨_,rfl,rfl⟩|exact ⟨rfl,trivial⟩|exact ⟨rfl,rfl,trivial⟩) ?_
      conv => whnf
      refine ⟨⟨⟨i + 1, hlt⟩, ?_⟩, ?_, by show l.length - (i + 1) < l.length - i; omega⟩
      · intro t ht
        rw [List.take_succ_eq_append_getElem hlt, List.mem_append, List.mem_singleton] at ht
        rcases ht with ht | rfl
        · exact hno t ht
        · exact h2
      · refine Ge.of rfl ?_ ?_
        · repeat (conv => whnf); refine ⟨LE.of rfl, ?_⟩
          trivial
        · repeat (conv => whnf); refine ⟨OLE.of rfl, ?_⟩
          trivial
  · have hge : i = l.length := by have := of_decide_eq_false h1; rw [tmvs_length] at this; have h2 : ¬ ((i : Int) < l.length) := this; omega
    repeat (conv => whnf); first|refine IndepAnd (by kernel_rfl) ?_|refine ⟨rfl,?_⟩|refine And.intro (by first|decide|exact trivial|exact ⟨_,rfl,rfl⟩|exact ⟨rfl,trivial⟩|exact ⟨rfl,rfl,trivial⟩) ?_
    conv => whnf
    exact LEP.of (congrArg (PV.int .i64) (idxT_none p l fun t ht => hno t (by rw [show l.take i = l from List.take_of_length_le (by omega)]; exact ht)).symm)
theorem contains1_ok (b : Bool) (f : Nat) (n : Int) (p : Tm → Bool) (l : List Tm) (hl : l.length ≤ 9223372036854775807)
    (hp : ∀ t ∈ l, PC (cx b) f (lookO [(3, .var false 3 (iv n))]) [tv t, .ptr 3 0] (.pv (.bool (p t)))) :
    PC (cx b) 76 (lookO [(3, .var false 3 (iv n))]) [lv l, .fn f [.ptr 3 0]] (.pv (.bool (l.any p))) := by
  refine PC_of_vc (cx_ok b) (mixed b) {} Tryd.func76 (by kernel_rfl) rfl rfl (by kernel_rfl) ?_
  repeat (conv => whnf); first|refine IndepAnd (by kernel_rfl) ?_|refine ⟨rfl,?_⟩|refine And.intro (by first|decide|exact trivial|exact ⟨_,rfl,rfl⟩|exact ⟨rfl,trivial⟩|exact ⟨rfl,rfl,trivial⟩) ?_
  conv => whnf
  refine ⟨_, CallVC.ob1 (index1_ok b f n p l hl hp) (by simp [SV.keysL, SV.keys]) rfl (by simp [SV.keysL, SV.keys]) rfl rfl, ?_⟩
  repeat (conv => whnf); first|refine IndepAnd (by kernel_rfl) ?_|refine ⟨rfl,?_⟩|refine And.intro (by first|decide|exact trivial|exact ⟨_,rfl,rfl⟩|exact ⟨rfl,trivial⟩|exact ⟨rfl,rfl,trivial⟩) ?_
  conv => whnf
  refine LEP.of (congrArg PV.bool ?_)
  rw [Bool.eq_iff_iff, decide_eq_true_eq]
  exact idxT_spec p l
theorem known_ok (b : Bool) (t : Tm) : K b 75 [tv t] (.pv (.bool (Tm.known t.kind))) := by
  refine PC_of_vc (cx_ok b) (mixed b) {} Tryd.func75 (by kernel_rfl) rfl rfl (by kernel_rfl) ?_
  repeat (conv => whnf); first|refine IndepAnd (by kernel_rfl) ?_|refine ⟨rfl,?_⟩|refine And.intro (by first|decide|exact trivial|exact ⟨_,rfl,rfl⟩|exact ⟨rfl,trivial⟩|exact ⟨rfl,rfl,trivial⟩) ?_
  conv => whnf
  refine @bool_rec _ _ _ ?_ ?_ <;> intro h1
  · have h1 : 1 ≤ t.kind := of_decide_eq_true h1
    repeat (conv => whnf); first|refine IndepAnd (by kernel_rfl) ?_|refine ⟨rfl,?_⟩|refine And.intro (by first|decide|exact trivial|exact ⟨_,rfl,rfl⟩|exact ⟨rfl,trivial⟩|exact ⟨rfl,rfl,trivial⟩) ?_
    conv => whnf
    exact LEP.of (congrArg PV.bool (by simp [Tm.known, h1]))
  · have h1 : ¬ 1 ≤ t.kind := of_decide_eq_false h1
    repeat (conv => whnf); first|refine IndepAnd (by kernel_rfl) ?_|refine ⟨rfl,?_⟩|refine And.intro (by first|decide|exact trivial|exact ⟨_,rfl,rfl⟩|exact ⟨rfl,trivial⟩|exact ⟨rfl,rfl,trivial⟩) ?_
    conv => whnf
    exact LEP.of (congrArg PV.bool (by simp [Tm.known, h1]))
theorem kinds_at {k : Int} (h : Tm.known k = true) : kindsL[k.toNat]? = some (kd [Tm.letter k] (Tm.arity k) (Tm.named k)) := by
  simp only [Tm.known, Bool.and_eq_true, decide_eq_true_eq] at h
  have : k = 1 ∨ k = 2 ∨ k = 3 ∨ k = 4 ∨ k = 5 ∨ k = 6 ∨ k = 7 ∨ k = 8 ∨ k = 9 ∨ k = 10 := by omega
  rcases this with rfl | rfl | rfl | rfl | rfl | rfl | rfl | rfl | rfl | rfl <;> rfl
mutual
/-- Of the right shape, and not too deep. -/
def shpD : Tm → Nat → Bool
  | .mk k n l, d => match d with
    | 0 => false
    | d + 1 => Tm.known k && (Tm.named k == !n.isEmpty) && (decide (Tm.arity k < 0) || decide ((l.length : Int) = Tm.arity k)) && shpDs l d
def shpDs : List Tm → Nat → Bool
  | [], _ => true
  | t :: ts, d => shpD t d && shpDs ts d
end
theorem shpDs_any (l : List Tm) (d : Nat) : shpDs l d = !(l.any fun t => !shpD t d) := by
  induction l with
  | nil => rfl
  | cons t ts ih => rw [shpDs, ih, List.any_cons]; cases shpD t d <;> simp
theorem shpD_eq (t : Tm) (d : Nat) : shpD t (d + 1) = (Tm.known t.kind && (Tm.named t.kind == !t.name.isEmpty) && (decide (Tm.arity t.kind < 0) || decide ((t.kids.length : Int) = Tm.arity t.kind)) && shpDs t.kids d) := by cases t; rfl
theorem shpD_zero (t : Tm) : shpD t 0 = false := by cases t; rfl
theorem shape_ok : ∀ t, Fit t → ∀ d : Nat, d ≤ 1000 → K true 59 [tv t, iv d] (.pv (.bool (shpD t d))) := by
  intro t
  induction t using Tm.indk with
  | h t ih =>
  intro hf d hd
  have hcl : ∀ u ∈ t.kids, 0 < d → PC (cx true) 77 (lookO [(3, .var false 3 (iv d))]) [tv u, .ptr 3 0] (.pv (.bool (!shpD u (d - 1)))) := by
    intro u hu h0
    have b := true
    refine PC_of_vc (cx_ok true) (mixed true) {} Tryd.func77 (by kernel_rfl) rfl rfl (by kernel_rfl) ?_
    repeat (conv => whnf); first|refine IndepAnd (by kernel_rfl) ?_|refine ⟨rfl,?_⟩|refine And.intro (by first|decide|exact trivial|exact ⟨_,rfl,rfl⟩|exact ⟨rfl,trivial⟩|exact ⟨rfl,rfl,trivial⟩) ?_
    conv => whnf
    refine ⟨_, wrapN (n := d - 1) (by omega) (by omega), ?_⟩
    repeat (conv => whnf); first|refine IndepAnd (by kernel_rfl) ?_|refine ⟨rfl,?_⟩|refine And.intro (by first|decide|exact trivial|exact ⟨_,rfl,rfl⟩|exact ⟨rfl,trivial⟩|exact ⟨rfl,rfl,trivial⟩) ?_
    conv => whnf
    refine ⟨_, CallVC.pr (ih u hu (hf.kid hu) (d - 1) (by omega)) rfl rfl, ?_⟩
    repeat (conv => whnf); first|refine IndepAnd (by kernel_rfl) ?_|refine ⟨rfl,?_⟩|refine And.intro (by first|decide|exact trivial|exact ⟨_,rfl,rfl⟩|exact ⟨rfl,trivial⟩|exact ⟨rfl,rfl,trivial⟩) ?_
    conv => whnf
    exact LEP.refl _
  refine PC_of_vc (cx_ok true) (mixed true) {} Tryd.func59 (by kernel_rfl) rfl rfl (by kernel_rfl) ?_
  repeat (conv => whnf); first|refine IndepAnd (by kernel_rfl) ?_|refine ⟨rfl,?_⟩|refine And.intro (by first|decide|exact trivial|exact ⟨_,rfl,rfl⟩|exact ⟨rfl,trivial⟩|exact ⟨rfl,rfl,trivial⟩) ?_
  conv => whnf
  refine @bool_rec _ _ _ ?_ ?_ <;> intro h1
  · have h1 : d = 0 := by have : (d : Int) = 0 := of_decide_eq_true h1; omega
    subst h1
    repeat (conv => whnf); first|refine IndepAnd (by kernel_rfl) ?_|refine ⟨rfl,?_⟩|refine And.intro (by first|decide|exact trivial|exact ⟨_,rfl,rfl⟩|exact ⟨rfl,trivial⟩|exact ⟨rfl,rfl,trivial⟩) ?_
    conv => whnf
    exact LEP.of (congrArg PV.bool (shpD_zero t).symm)
  · have h1 : 0 < d := by have : ¬ (d : Int) = 0 := of_decide_eq_false h1; omega
    obtain ⟨e, rfl⟩ : ∃ e, d = e + 1 := ⟨d - 1, by omega⟩
    repeat (conv => whnf); first|refine IndepAnd (by kernel_rfl) ?_|refine ⟨rfl,?_⟩|refine And.intro (by first|decide|exact trivial|exact ⟨_,rfl,rfl⟩|exact ⟨rfl,trivial⟩|exact ⟨rfl,rfl,trivial⟩) ?_
    conv => whnf
    refine ⟨_, CallVC.pr (known_ok true t) rfl rfl, ?_⟩
    repeat (conv => whnf); first|refine IndepAnd (by kernel_rfl) ?_|refine ⟨rfl,?_⟩|refine And.intro (by first|decide|exact trivial|exact ⟨_,rfl,rfl⟩|exact ⟨rfl,trivial⟩|exact ⟨rfl,rfl,trivial⟩) ?_
    conv => whnf
    refine @bool_rec _ _ _ ?_ ?_ <;> intro h2
    · have h2 : Tm.known t.kind = false := by simpa using h2
      repeat (conv => whnf); first|refine IndepAnd (by kernel_rfl) ?_|refine ⟨rfl,?_⟩|refine And.intro (by first|decide|exact trivial|exact ⟨_,rfl,rfl⟩|exact ⟨rfl,trivial⟩|exact ⟨rfl,rfl,trivial⟩) ?_
      conv => whnf
      exact LEP.of (congrArg PV.bool (by rw [shpD_eq, h2]; simp))
    · have h2 : Tm.known t.kind = true := by simpa using h2
      have hk : 0 ≤ t.kind := by simp only [Tm.known, Bool.and_eq_true, decide_eq_true_eq] at h2; omega
      repeat (conv => whnf); first|refine IndepAnd (by kernel_rfl) ?_|refine ⟨rfl,?_⟩|refine And.intro (by first|decide|exact trivial|exact ⟨_,rfl,rfl⟩|exact ⟨rfl,trivial⟩|exact ⟨rfl,rfl,trivial⟩) ?_
      conv => whnf
      refine ⟨hk, _, kinds_at h2, rfl, rfl, rfl, ?_⟩
      repeat (conv => whnf); first|refine IndepAnd (by kernel_rfl) ?_|refine ⟨rfl,?_⟩|refine And.intro (by first|decide|exact trivial|exact ⟨_,rfl,rfl⟩|exact ⟨rfl,trivial⟩|exact ⟨rfl,rfl,trivial⟩) ?_
      conv => whnf
      refine @bool_rec _ _ _ ?_ ?_ <;> intro h3
      · have h3 : Tm.named t.kind = decide (t.name = []) := by simpa using h3
        repeat (conv => whnf); first|refine IndepAnd (by kernel_rfl) ?_|refine ⟨rfl,?_⟩|refine And.intro (by first|decide|exact trivial|exact ⟨_,rfl,rfl⟩|exact ⟨rfl,trivial⟩|exact ⟨rfl,rfl,trivial⟩) ?_
        conv => whnf
        refine LEP.of (congrArg PV.bool ?_)
        rw [shpD_eq, h3]
        cases t.name <;> simp
      · have h3 : (Tm.named t.kind == !t.name.isEmpty) = true := by
          have h3 : ¬ Tm.named t.kind = decide (t.name = []) := by simpa using h3
          revert h3
          cases t.name <;> cases Tm.named t.kind <;> simp
        repeat (conv => whnf); first|refine IndepAnd (by kernel_rfl) ?_|refine ⟨rfl,?_⟩|refine And.intro (by first|decide|exact trivial|exact ⟨_,rfl,rfl⟩|exact ⟨rfl,trivial⟩|exact ⟨rfl,rfl,trivial⟩) ?_
        conv => whnf
        refine ⟨hk, _, kinds_at h2, rfl, rfl, rfl, ?_⟩
        repeat (conv => whnf); first|refine IndepAnd (by kernel_rfl) ?_|refine ⟨rfl,?_⟩|refine And.intro (by first|decide|exact trivial|exact ⟨_,rfl,rfl⟩|exact ⟨rfl,trivial⟩|exact ⟨rfl,rfl,trivial⟩) ?_
        conv => whnf
        have fin : ∀ (hz : (decide (Tm.arity t.kind < 0) || decide ((t.kids.length : Int) = Tm.arity t.kind)) = true), shpD t (e + 1) = !(t.kids.any fun u => !shpD u e) := by
          intro hz
          rw [shpD_eq, h2, h3, hz, shpDs_any]
          simp
        refine @bool_rec _ _ _ ?_ ?_ <;> intro h4
        · have h4 : 0 ≤ Tm.arity t.kind := of_decide_eq_true h4
          repeat (conv => whnf); first|refine IndepAnd (by kernel_rfl) ?_|refine ⟨rfl,?_⟩|refine And.intro (by first|decide|exact trivial|exact ⟨_,rfl,rfl⟩|exact ⟨rfl,trivial⟩|exact ⟨rfl,rfl,trivial⟩) ?_
          conv => whnf
          refine @bool_rec _ _ _ ?_ ?_ <;> intro h5
          · have h5 : ¬ (t.kids.length : Int) = Tm.arity t.kind := by have := of_decide_eq_true h5; rw [tmvs_length] at this; exact this
            repeat (conv => whnf); first|refine IndepAnd (by kernel_rfl) ?_|refine ⟨rfl,?_⟩|refine And.intro (by first|decide|exact trivial|exact ⟨_,rfl,rfl⟩|exact ⟨rfl,trivial⟩|exact ⟨rfl,rfl,trivial⟩) ?_
            conv => whnf
            refine LEP.of (congrArg PV.bool ?_)
            rw [shpD_eq, decide_eq_false h5, decide_eq_false (show ¬ Tm.arity t.kind < 0 by omega)]
            simp
          · have h5 : (t.kids.length : Int) = Tm.arity t.kind := by have := of_decide_eq_false h5; rw [tmvs_length] at this; exact Classical.not_not.1 this
            rw [fin (by rw [decide_eq_true h5]; simp)]
            repeat (conv => whnf); first|refine IndepAnd (by kernel_rfl) ?_|refine ⟨rfl,?_⟩|refine And.intro (by first|decide|exact trivial|exact ⟨_,rfl,rfl⟩|exact ⟨rfl,trivial⟩|exact ⟨rfl,rfl,trivial⟩) ?_
            conv => whnf
            refine ⟨_, CallVC.ob1 (contains1_ok true _ ((e + 1 : Nat) : Int) (fun u => !shpD u e) t.kids hf.len fun u hu => hcl u hu h1) (by simp [SV.keysL, SV.keys]) (by conv => lhs; whnf) (by simp [SV.keysL, SV.keys]) rfl rfl, ?_⟩
            repeat (conv => whnf); first|refine IndepAnd (by kernel_rfl) ?_|refine ⟨rfl,?_⟩|refine And.intro (by first|decide|exact trivial|exact ⟨_,rfl,rfl⟩|exact ⟨rfl,trivial⟩|exact ⟨rfl,rfl,trivial⟩) ?_
            conv => whnf
            exact LEP.refl _
        · have h4 : Tm.arity t.kind < 0 := by have := of_decide_eq_false h4; omega
          rw [fin (by rw [decide_eq_true h4]; simp)]
          repeat (conv => whnf); first|refine IndepAnd (by kernel_rfl) ?_|refine ⟨rfl,?_⟩|refine And.intro (by first|decide|exact trivial|exact ⟨_,rfl,rfl⟩|exact ⟨rfl,trivial⟩|exact ⟨rfl,rfl,trivial⟩) ?_
          conv => whnf
          refine ⟨_, CallVC.ob1 (contains1_ok true _ ((e + 1 : Nat) : Int) (fun u => !shpD u e) t.kids hf.len fun u hu => hcl u hu h1) (by simp [SV.keysL, SV.keys]) (by conv => lhs; whnf) (by simp [SV.keysL, SV.keys]) rfl rfl, ?_⟩
          repeat (conv => whnf); first|refine IndepAnd (by kernel_rfl) ?_|refine ⟨rfl,?_⟩|refine And.intro (by first|decide|exact trivial|exact ⟨_,rfl,rfl⟩|exact ⟨rfl,trivial⟩|exact ⟨rfl,rfl,trivial⟩) ?_
          conv => whnf
          exact LEP.refl _
end Go.Sl
