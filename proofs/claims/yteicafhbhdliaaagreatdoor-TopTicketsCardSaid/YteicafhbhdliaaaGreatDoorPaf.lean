/- The statement TopTickets, without a condition: a ticket of one KDC is none of another one's. Part 6: Fc Fd Fe Ff Fg Fh Fi Fj Ka. -/
import Derived.Test.YteicafhbhdliaaaGreatDoorPae
import Derived.Test.YteicafhbhdliaaaGreatDoorSh
set_option linter.unusedSimpArgs false
set_option linter.unusedVariables false
namespace Go.Sl
open Go Go.Vc Go.Proofs Go.RowKit Go.Sort Go.Lib
theorem below_grow' (w : World) (k : Nat) (os : Array Obj) : Below w.heap.size w (grow (w.drewN k) os) := by
 refine ⟨rfl, rfl, rfl, ?_, fun b hb => ?_⟩
 ·show w.heap.size ≤ (w.heap ++ os).size
  rw [Array.size_append]
  exact Nat.le_add_right _ _
 ·show (w.heap ++ os)[b]? = w.heap[b]?
  rw [Array.getElem?_append_left hb]
theorem itoa_ok (b : Bool) (n : Int) (h0 : -9223372036854775808 ≤ n) (h1 : n ≤ 9223372036854775807) : K b 51 [iv n] (.pv (.str (Lib.itoa n))) := by
 refine ⟨⟨_, Tryz.func51, rfl, rfl⟩, fun ok β w vs hG hlt hr _ _ _ _ => ?_⟩
 match vs, hr with
 | [v], hr =>
  obtain ⟨hr, _⟩ := hr
  rw [R, RP] at hr
  subst hr
  refine (Tryz.strconv_Itoa n h0 h1 w hG.1.1).mono ?_
  rintro e w' ⟨rfl, k, os, rfl⟩
  exact ⟨_, rfl, by rw [RES, RP], below_grow' w k os⟩
theorem alloc_at (w : World) (o : Obj) : (w.alloc o).heap[w.heap.size]? = some o := by
 show (w.heap.push o)[w.heap.size]? = some o
 simp
theorem grow_ok (b : Bool) (n : Nat) (h0 : 0 < n) (h1 : n * 48 ≤ 140737488355328) : K b 113 [.p .nilS, iv n] (.fresh 26 3 []) := by
 refine ⟨⟨_, Tryz.func113, rfl, rfl⟩, fun ok β w vs hG hlt hr _ _ _ _ => ?_⟩
 match vs, hr with
 | [v, u], hr =>
  obtain ⟨hr, hr2, _⟩ := hr
  rw [R, RP] at hr
  rw [R, RP] at hr2
  subst hr hr2
  obtain ⟨i, d, z, hi, hd, hs, hb, hz, hcv, hzs, _⟩ := (T_ok 26 tiTerm rfl).out
  have hs : i.size = 3 := hs
  have hb : i.bytes = 48 := hb
  have hz3 : z.cells.size = 3 := hzs
  refine (Any8.slices_Grow_grow Tryz.growT i z hi hz (by omega) none 0 0 n [] w (by omega) (by omega) (by rw [hb]; omega) (by omega) (by simp) (fun _ => rfl) (fun a h => by cases h)).mono ?_
  have hge : 0 + n ≤ grownCap w (0 + n) 0 (Tryz.growT_ren.t 25) := grownCap_ge w _ _ _
  have hle : grownCap w (0 + n) 0 (Tryz.growT_ren.t 25) ≤ maxLen := grownCap_le_maxLen w (0 + n) 0 (Tryz.growT_ren.t 25) (by unfold maxLen; omega)
  generalize grownCap w (0 + n) 0 (Tryz.growT_ren.t 25) = G at hge hle ⊢
  have ht : Tryz.growT_ren.t 25 = 26 := rfl
  rw [ht]
  rintro e w' ⟨rfl, rfl⟩
  refine ⟨_, rfl, ?_, (Below.alloc (Below.drew (Below.refl _ w)) (Nat.le_refl _) _)⟩
  rw [RES]
  refine ⟨by decide, [], ⟨rfl, .inr ⟨w.heap.size, G, _, rfl, Nat.le_refl _, alloc_at w.drew _, Nat.zero_le _, hle, ?_, by simp⟩⟩, ⟨rfl, fun i x hx => by simp at hx⟩⟩
  simp [Builtin.zeroCells, hz3]
  omega
theorem concat_ok (b : Bool) (L M : List PV) (l m : List Tm) (hL : L = tmvs l) (hM : M = tmvs m) (h0 : 0 < l.length) (hl : (l.length + m.length) * 48 ≤ 140737488355328) :
  K b 56 [.p (.lst [.lst L, .lst M])] (.pv (.lst (tmvs (l ++ m)))) := by
 subst hL hM
 refine PC_of_vc (cx_ok b) (mixed b) { own := fun t => Nat.beq t 24 || Nat.beq t 33 } Tryz.func56 (by kernel_rfl) rfl rfl (by kernel_rfl) ?_
 refine goL ?_
 refine ⟨Fin 3, fun i => S.of [(0, .p (.lst [.lst (tmvs l), .lst (tmvs m)])), (3, iv (match i with | 0 => 0 | 1 => (l.length : Int) | 2 => ((l.length + m.length : Nat) : Int))), (9, .p (.lst [.lst (tmvs l), .lst (tmvs m)])), (10, iv 2), (11, iv (match i with | 0 => 0 | 1 => 1 | 2 => 2))] [], fun i => 3 - i.1, 0, ?_, ?_⟩
 ·exact Ge.go
 intro i
 match i with
 | 0 =>
  refine goL ?_
  refine ⟨_, rfl, rfl, rfl, ?_⟩
  refine goL ?_
  refine ⟨_, wrapN (n := l.length) (by show (0:Int) + ((tmvs l).length : Int) = _; rw [tmvs_length]; omega) (by omega), ?_⟩
  refine goL ?_
  refine ⟨1, rfl, ?_⟩
  refine goL ?_
  refine ⟨1, ?_, by decide⟩
  exact Ge.go
 | 1 =>
  refine goL ?_
  refine ⟨_, rfl, rfl, rfl, ?_⟩
  refine goL ?_
  refine ⟨_, wrapN (n := l.length + m.length) (by show (l.length:Int) + ((tmvs m).length : Int) = _; rw [tmvs_length]; omega) (by omega), ?_⟩
  refine goL ?_
  refine ⟨2, rfl, ?_⟩
  refine goL ?_
  refine ⟨2, ?_, by decide⟩
  exact Ge.go
 | 2 =>
  refine goL ?_
  refine ⟨_, CallVC.pr (grow_ok b (l.length + m.length) (by omega) (by omega)) rfl rfl, ?_⟩
  refine goL ?_
  refine ⟨Fin 3, fun i => S.of [(6, .slc 24), (25, .p (.lst [.lst (tmvs l), .lst (tmvs m)])), (26, iv 2), (27, iv (match i with | 0 => 0 | 1 => 1 | 2 => 2))] [(24, .row 26 3 (match i with | 0 => [] | 1 => tmvs l | 2 => tmvs (l ++ m)))], fun i => 3 - i.1, 0, ?_, ?_⟩
  ·exact Ge.go
  intro i
  match i with
  | 0 =>
   refine goL ?_
   refine ⟨_, rfl, rfl, rfl, ?_⟩
   refine goL ?_
   refine ⟨tmvs_sz l, ?_⟩
   refine goL ?_
   refine ⟨by rw [tmvs_length]; show (0 + l.length) * 48 ≤ _; omega, ?_⟩
   refine goL ?_
   refine ⟨1, rfl, ?_⟩
   refine goL ?_
   refine ⟨1, ?_, by decide⟩
   exact Ge.go
  | 1 =>
   refine goL ?_
   refine ⟨_, rfl, rfl, rfl, ?_⟩
   refine goL ?_
   refine ⟨tmvs_sz m, ?_⟩
   refine goL ?_
   refine ⟨by show ((tmvs l).length + (tmvs m).length) * 48 ≤ _; rw [tmvs_length, tmvs_length]; omega, ?_⟩
   refine goL ?_
   refine ⟨2, rfl, ?_⟩
   refine goL ?_
   refine ⟨2, ?_, by decide⟩
   refine Ge.of rfl ?_ ?_
   ·repeat (conv => whnf); refine ⟨LE.of rfl, ?_⟩
    trivial
   ·conv => whnf
    refine ⟨OLE.of (by rw [tmvs_append]), ?_⟩
    trivial
  | 2 =>
   refine goL ?_
   exact LEP.refl _
end Go.Sl
namespace Go.Sl
open Go Go.Vc Go.Proofs Go.RowKit Go.Sort Go.Lib
theorem wrap8 (n : Nat) : IntKind.u8.wrap (n : Int) = ((UInt8.ofNat n).toNat : Int) := by
 simp only [IntKind.wrap, IntKind.bits, IntKind.signed]
 simp
theorem decDigits_step {m : Nat} (h : 10 ≤ m) : decDigits m = decDigits (m / 10) ++ [UInt8.ofNat (48 + m % 10)] := by
 rw [decDigits, dif_neg (by omega)]
theorem tmod10 (m : Nat) : ((m : Int)).tmod 10 = ((m % 10 : Nat) : Int) := rfl
theorem tdiv10 (m : Nat) : ((m : Int)).tdiv 10 = ((m / 10 : Nat) : Int) := rfl
def NumI (n k m : Nat) (s : Bs) : Prop :=
 k ≤ 19 ∧ m < 10 ^ (19 - k) ∧ s.length ≤ k ∧ ((k = 0 ∧ m = n ∧ s = []) ∨ (0 < k ∧ 0 < m ∧ decDigits n = decDigits m ++ s) ∨ (0 < k ∧ m = 0 ∧ s = decDigits n))
theorem NumI.step {n k m : Nat} {s : Bs} (h : NumI n k m s) (hm : k = 0 ∨ 0 < m) : NumI n (k + 1) (m / 10) (UInt8.ofNat (48 + m % 10) :: s) := by
 obtain ⟨h1, h2, h3, h4⟩ := h
 have hk : k < 19 := by
  by_cases e : k = 19
  ·subst e
   simp at h2
   omega
  ·omega
 refine ⟨by omega, ?_, by simpa using h3, ?_⟩
 ·rw [show 19 - k = (19 - (k + 1)) + 1 by omega, Nat.pow_succ] at h2
  omega
 ·have hd : decDigits n = decDigits m ++ s := by
   rcases h4 with ⟨a, rfl, rfl⟩ | ⟨a, b, c⟩ | ⟨a, b, c⟩
   ·simp
   ·exact c
   ·omega
  by_cases h10 : m < 10
  ·refine .inr (.inr ⟨by omega, by omega, ?_⟩)
   rw [hd, decDigits, dif_pos h10, Nat.mod_eq_of_lt h10]
   rfl
  ·refine .inr (.inl ⟨by omega, by omega, ?_⟩)
   rw [hd, decDigits_step (by omega)]
   simp
theorem NumI.done {n k m : Nat} {s : Bs} (h : NumI n k m s) (hk : k ≠ 0 ∧ m = 0) : s = decDigits n := by
 obtain ⟨h1, h2, h3, h4⟩ := h
 have : m = 0 := hk.2
 rcases h4 with ⟨a, _, _⟩ | ⟨_, a, _⟩ | ⟨_, _, a⟩
 ·omega
 ·omega
 ·exact a
theorem number4_ok (b : Bool) (n : Nat) (hn' : n ≤ 9223372036854775807) : K b 173 [iv n] (.pv (.str (decDigits n))) := by
 refine PC_of_vc (cx_ok b) (mixed b) {} Tryz.func173 (by kernel_rfl) rfl rfl (by kernel_rfl) ?_
 refine goL ?_
 refine ⟨{ x : Nat × Nat × Bs // NumI n x.1 x.2.1 x.2.2 ∧ x.2.1 ≤ n }, fun x => S.of [(0, iv x.1.2.1), (3, sv x.1.2.2), (4, iv x.1.1)] [], fun x => 20 - x.1.1, ⟨(0, n, []), ⟨by omega, by show n < 10 ^ 19; omega, Nat.le_refl _, .inl ⟨rfl, rfl, rfl⟩⟩, Nat.le_refl _⟩, ?_, ?_⟩
 ·exact Ge.go
 rintro ⟨⟨k, m, s⟩, hI, hmn⟩
 have hsl : s.length ≤ k := hI.2.2.1
 have hmn : m ≤ n := hmn
 refine goL ?_
 refine @bool_rec _ _ _ ?_ ?_ <;> intro h1
 ·have hk : k < 20 := Int.ofNat_lt.1 (of_decide_eq_true h1)
  refine goL ?_
  refine @bool_rec _ _ _ ?_ ?_ <;> intro h2
  ·have h2 : k = 0 := by have : (k : Int) = 0 := of_decide_eq_true h2; omega
   refine goL ?_
   refine ⟨_, tmod10 m, ?_⟩
   refine goL ?_
   refine ⟨_, wrapN (n := 48 + m % 10) rfl (by omega), ?_⟩
   refine goL ?_
   refine ⟨_, wrap8 (48 + m % 10), ?_⟩
   refine goL ?_
   refine ⟨[UInt8.ofNat (48 + m % 10)], rfl, ?_⟩
   refine goL ?_
   refine ⟨by show 1 + s.length ≤ _; omega, ?_⟩
   refine goL ?_
   refine ⟨_, (tdiv10 m ▸ wrapN (n := m / 10) rfl (by omega)), ?_⟩
   refine goL ?_
   refine ⟨_, wrapN (n := k + 1) rfl (by omega), ?_⟩
   refine goL ?_
   refine ⟨⟨(k + 1, m / 10, UInt8.ofNat (48 + m % 10) :: s), hI.step (.inl h2), Nat.le_trans (Nat.div_le_self _ _) hmn⟩, ?_, by show 20 - (k + 1) < 20 - k; omega⟩
   exact Ge.go
  ·have h2 : k ≠ 0 := by intro e; have : ¬ ((k : Int) = 0) := of_decide_eq_false h2; omega
   refine goL ?_
   refine @bool_rec _ _ _ ?_ ?_ <;> intro h3
   ·have h3 : 0 < m := by have : (0 : Int) < m := of_decide_eq_true h3; omega
    refine goL ?_
    refine ⟨_, tmod10 m, ?_⟩
    refine goL ?_
    refine ⟨_, wrapN (n := 48 + m % 10) rfl (by omega), ?_⟩
    refine goL ?_
    refine ⟨_, wrap8 (48 + m % 10), ?_⟩
    refine goL ?_
    refine ⟨[UInt8.ofNat (48 + m % 10)], rfl, ?_⟩
    refine goL ?_
    refine ⟨by show 1 + s.length ≤ _; omega, ?_⟩
    refine goL ?_
    refine ⟨_, (tdiv10 m ▸ wrapN (n := m / 10) rfl (by omega)), ?_⟩
    refine goL ?_
    refine ⟨_, wrapN (n := k + 1) rfl (by omega), ?_⟩
    refine goL ?_
    refine ⟨⟨(k + 1, m / 10, UInt8.ofNat (48 + m % 10) :: s), hI.step (.inr h3), Nat.le_trans (Nat.div_le_self _ _) hmn⟩, ?_, by show 20 - (k + 1) < 20 - k; omega⟩
    exact Ge.go
   ·have h3 : m = 0 := by have : ¬ ((0 : Int) < m) := of_decide_eq_false h3; omega
    refine goL ?_
    exact LEP.of (congrArg PV.str (hI.done ⟨h2, h3⟩))
 ·have hk : 20 ≤ k := by have : ¬ ((k : Int) < 20) := of_decide_eq_false h1; omega
  have := hI.1
  exfalso
  omega
theorem itoa_nat (n : Nat) : itoa n = decDigits n := by simp [itoa, show ¬ ((n : Int) < 0) by omega]
theorem itoa_neg {n : Int} (h : n < 0) : itoa n = 45 :: decDigits n.natAbs := if_pos h
theorem decDigits_lt : ∀ (k m : Nat), m < 10 ^ (k + 1) → (decDigits m).length ≤ k + 1
 | 0, m, h => by rw [decDigits_one (by simpa using h)]; simp
 | k + 1, m, h => by
  by_cases hm : m < 10
  ·rw [decDigits_one hm]; simp
  ·rw [decDigits_step (by omega), List.length_append]
   have := decDigits_lt k (m / 10) (by rw [Nat.pow_succ] at h; omega)
   simpa using this
theorem decDigits_len (m : Nat) (h : m ≤ 9223372036854775808) : (decDigits m).length ≤ 19 := decDigits_lt 18 m (by omega)
theorem itoa_len {n : Int} (h0 : -9223372036854775808 ≤ n) (h1 : n ≤ 9223372036854775807) : (itoa n).length ≤ 20 := by
 unfold itoa
 split
 ·have := decDigits_len n.natAbs (by omega)
  simpa using this
 ·have := decDigits_len n.toNat (by omega)
  omega
theorem number10_ok (b : Bool) (n : Int) (h0 : -9223372036854775807 ≤ n) (h1 : n ≤ 9223372036854775807) : K b 124 [iv n] (.pv (.str (itoa n))) := by
 refine PC_of_vc (cx_ok b) (mixed b) {} Tryz.func124 (by kernel_rfl) rfl rfl (by kernel_rfl) ?_
 refine goL ?_
 refine @bool_rec _ _ _ ?_ ?_ <;> intro h2
 ·have h2 : n < 0 := of_decide_eq_true h2
  refine goL ?_
  refine ⟨_, wrapN (n := n.natAbs) (by omega) (by omega), ?_⟩
  refine goL ?_
  refine ⟨_, CallVC.pr (number4_ok b n.natAbs (by omega)) rfl rfl, ?_⟩
  refine goL ?_
  refine ⟨by show 1 + (decDigits n.natAbs).length ≤ _; have := decDigits_len n.natAbs (by omega); omega, ?_⟩
  refine goL ?_
  exact LEP.of (congrArg PV.str (itoa_neg h2).symm)
 ·have h2 : ¬ n < 0 := of_decide_eq_false h2
  obtain ⟨m, rfl⟩ : ∃ m : Nat, n = m := ⟨n.toNat, by omega⟩
  refine goL ?_
  refine ⟨_, CallVC.pr (number4_ok b m (by omega)) rfl rfl, ?_⟩
  refine goL ?_
  exact LEP.of (congrArg PV.str (itoa_nat m).symm)
end Go.Sl
namespace Go.Sl
open Go Go.Vc Go.Proofs Go.RowKit Go.Sort Go.Lib
abbrev joinW : Bs := [106, 111, 105, 110, 32]
abbrev useW : Bs := [117, 115, 101]
def numT (k : Tm) (what : Bs) (n : Int) : Tm := kdfT k (what ++ [32] ++ itoa n)
def joinT (a c : Tm) (fa fb : Bs) : Tm := hashT (pairT [kdfT a (joinW ++ fa), kdfT c (joinW ++ fb)])
abbrev subW : Bs := [115, 117, 98, 107, 101, 121, 97, 114, 109, 111, 114]
abbrev tickW : Bs := [116, 105, 99, 107, 101, 116, 97, 114, 109, 111, 114]
theorem numbered_ok (b : Bool) (k : Tm) (what : Bs) (n : Int) (hw : what.length ≤ 1000) (h0 : -9223372036854775808 ≤ n) (h1 : n ≤ 9223372036854775807) : K b 174 [tv k, sv what, iv n] (.pv (TV (numT k what n))) := by
 have hl := itoa_len h0 h1
 refine PC_of_vc (cx_ok b) (mixed b) {} Tryz.func174 (by kernel_rfl) rfl rfl (by kernel_rfl) ?_
 refine goL ?_
 refine ⟨by show what.length + 1 ≤ _; omega, ?_⟩
 refine goL ?_
 refine ⟨_, CallVC.pr (itoa_ok b n h0 h1) rfl rfl, ?_⟩
 refine goL ?_
 refine ⟨by show (what ++ [32]).length + _ ≤ _; simp; omega, ?_⟩
 refine goL ?_
 refine ⟨_, CallVC.pr (kdf_ok b k _) rfl rfl, ?_⟩
 refine goL ?_
 exact LEP.refl _
theorem use_ok (b : Bool) (k : Tm) (n : Int) (h0 : -9223372036854775808 ≤ n) (h1 : n ≤ 9223372036854775807) : K b 128 [tv k, iv n] (.pv (TV (numT k useW n))) := by
 refine PC_of_vc (cx_ok b) (mixed b) {} Tryz.func128 (by kernel_rfl) rfl rfl (by kernel_rfl) ?_
 refine goL ?_
 refine ⟨_, CallVC.pr (numbered_ok b k useW n (by decide) h0 h1) rfl rfl, ?_⟩
 refine goL ?_
 exact LEP.refl _
theorem use10_ok (b : Bool) (k : Tm) (n : Int) (h0 : -9223372036854775807 ≤ n) (h1 : n ≤ 9223372036854775807) : K b 72 [tv k, iv n] (.pv (TV (numT k useW n))) := by
 have hl := itoa_len (by omega) h1
 refine PC_of_vc (cx_ok b) (mixed b) {} Tryz.func72 (by kernel_rfl) rfl rfl (by kernel_rfl) ?_
 refine goL ?_
 refine ⟨_, CallVC.pr (number10_ok b n h0 h1) rfl rfl, ?_⟩
 refine goL ?_
 refine ⟨by show 4 + _ ≤ _; omega, ?_⟩
 refine goL ?_
 refine ⟨_, CallVC.pr (kdf10_ok b k _) rfl rfl, ?_⟩
 refine goL ?_
 exact LEP.refl _
theorem join_ok (b : Bool) (x y : Tm) (fa fb : Bs) (ha : fa.length ≤ 1000) (hb : fb.length ≤ 1000) : K b 77 [tv x, tv y, sv fa, sv fb] (.pv (TV (joinT x y fa fb))) := by
 refine PC_of_vc (cx_ok b) (mixed b) {} Tryz.func77 (by kernel_rfl) rfl rfl (by kernel_rfl) ?_
 refine goL ?_
 refine ⟨by show 5 + fa.length ≤ _; omega, ?_⟩
 refine goL ?_
 refine ⟨_, CallVC.pr (kdf_ok b x _) rfl rfl, ?_⟩
 refine goL ?_
 refine ⟨by show 5 + fb.length ≤ _; omega, ?_⟩
 refine goL ?_
 refine ⟨_, CallVC.pr (kdf_ok b y _) rfl rfl, ?_⟩
 refine goL ?_
 refine ⟨_, CallVC.pr (pair_ok b _ _ (tmvs2 _ _) (by simp)) rfl rfl, ?_⟩
 refine goL ?_
 refine ⟨_, CallVC.pr (hash_ok b _) rfl rfl, ?_⟩
 refine goL ?_
 exact LEP.refl _
theorem armor_ok (b : Bool) (x y : Tm) : K b 36 [tv x, tv y] (.pv (TV (joinT x y subW tickW))) := by
 refine PC_of_vc (cx_ok b) (mixed b) {} Tryz.func36 (by kernel_rfl) rfl rfl (by kernel_rfl) ?_
 refine goL ?_
 refine ⟨_, CallVC.pr (join_ok b x y subW tickW (by decide) (by decide)) rfl rfl, ?_⟩
 refine goL ?_
 exact LEP.refl _
def packT (tag : Bs) (l : List Tm) : Tm := pairT (dataT tag :: l)
theorem pack_ok (b : Bool) (tag : Bs) (L : List PV) (l : List Tm) (hL : L = tmvs l) (hl : (l.length + 1) * 48 ≤ 140737488355328) : K b 74 [sv tag, .p (.lst L)] (.pv (TV (packT tag l))) := by
 refine PC_of_vc (cx_ok b) (mixed b) {} Tryz.func74 (by kernel_rfl) rfl rfl (by kernel_rfl) ?_
 refine goL ?_
 refine ⟨_, CallVC.pr (data_ok b tag) rfl rfl, ?_⟩
 refine goL ?_
 refine ⟨_, CallVC.pr (concat_ok b _ L [dataT tag] l (tmvs1 (dataT tag)) hL (by simp) (by simp; omega)) rfl rfl, ?_⟩
 refine goL ?_
 refine ⟨_, CallVC.pr (pair_ok b _ _ rfl (by simp; omega)) rfl rfl, ?_⟩
 refine goL ?_
 exact LEP.refl _
theorem tmvs_take {l : List Tm} {i : Nat} (x : Tm) (h : i < l.length) : tmvs (x :: l.take i) ++ [TV l[i]] = tmvs (x :: l.take (i + 1)) := by
 rw [tmvs_eq, tmvs_eq, List.take_succ_eq_append_getElem h, List.map_cons, List.map_cons, List.map_append]
 rfl
theorem hbd48 {a b : Nat} (h : a + b ≤ 2932031007402) : (a + b) * tiTerm.bytes ≤ 140737488355328 := by
 show (a + b) * 48 ≤ 140737488355328
 omega
theorem pack15_ok (b : Bool) (tag : Bs) (L : List PV) (l : List Tm) (hL : L = tmvs l) (hl : (l.length + 1) * 48 ≤ 140737488355328) : K b 33 [sv tag, .p (.lst L)] (.pv (TV (packT tag l))) := by
 subst hL
 refine PC_of_vc (cx_ok b) (mixed b) { own := fun t => Nat.beq t 9 || Nat.beq t 24 } Tryz.func33 (by kernel_rfl) rfl rfl (by kernel_rfl) ?_
 refine goL ?_
 refine ⟨_, CallVC.pr (data10_ok b tag) rfl rfl, ?_⟩
 refine goL ?_
 refine ⟨Rd l.length, fun i => S.of [(1, lv l), (4, .ptr 4 0), (5, .ptr 5 0), (6, iv (i.1 : Int))] [(4, .var true 26 (.p tiTerm.zero)), (5, .var true 26 (.mix [iv 3, sv [], .slc 9])), (9, .row 26 3 (tmvs (dataT tag :: l.take i.1)))], fun i => l.length - i.1, Rd.zero _, ?_, ?_⟩
 ·exact Ge.go
 rintro ⟨i, hi⟩
 refine goL ?_
 refine @bool_rec _ _ _ ?_ ?_ <;> intro h1
 ·have hlt : i < l.length := by have := of_decide_eq_true h1; rw [tmvs_length] at this; exact Int.ofNat_lt.1 this
  refine goL ?_
  refine ⟨Int.natCast_nonneg _, TV l[i], tmvs_getN hlt, rfl, rfl, ?_⟩
  refine goL ?_
  refine ⟨hbd48 (by simp only [tmvs_length, List.length_cons, List.length_take, List.length_nil]; omega), ?_⟩
  refine goL ?_
  refine ⟨_, wrapN (n := i + 1) rfl (by omega), ?_⟩
  refine goL ?_
  refine ⟨⟨i + 1, hlt⟩, ?_, by show l.length - (i + 1) < l.length - i; omega⟩
  refine Ge.of rfl ?_ ?_
  ·repeat (conv => whnf); refine ⟨LE.of rfl, ?_⟩
   trivial
  ·conv => whnf
   refine ⟨OLE.of rfl, ?_⟩
   conv => whnf
   refine ⟨OLE.of rfl, ?_⟩
   conv => whnf
   refine ⟨OLE.of (congrArg _ (tmvs_take (dataT tag) hlt)), ?_⟩
   trivial
 ·have hge : i = l.length := by have := of_decide_eq_false h1; rw [tmvs_length] at this; have h2 : ¬ ((i : Int) < l.length) := this; omega
  refine goL ?_
  have e : l.take i = l := List.take_of_length_le (by omega)
  refine LEP.of ?_
  show PV.agg [.int .i64 3, .str [], .lst (tmvs (dataT tag :: l.take i))] = _
  rw [e]
  rfl
end Go.Sl
namespace Go.Sl
open Go Go.Vc Go.Proofs Go.RowKit Go.Sort Go.Lib
def tagT (t : Tm) : Bs := if t.kind = 3 ∧ t.name = [] then (match t.kids with | [] => [] | k :: _ => if k.kind = 1 ∧ k.kids = [] then k.name else []) else []
def unpackT (tag : Bs) (n : Nat) (t : Tm) : Option (List Tm) := if tag ≠ [] ∧ tagT t = tag ∧ t.kids.length = n + 1 then some (t.kids.drop 1) else none
theorem msgdata_ok (b : Bool) (t : Tm) : K b 138 [tv t] (.tup [.str t.name, .bool (decide (t.kind = 1) && decide (t.kids = []))]) := by
 refine PC_of_vc (cx_ok b) (mixed b) {} Tryz.func138 (by kernel_rfl) rfl rfl (by kernel_rfl) ?_
 refine goL ?_
 refine @bool_rec _ _ _ ?_ ?_ <;> intro h1
 ·have h1 : t.kind = 1 := of_decide_eq_true h1
  refine goL ?_
  refine ⟨LEP.refl _, LEP.of (congrArg PV.bool ?_), trivial⟩
  rw [Bool.eq_iff_iff]
  simp [h1, tmvs_length]
 ·have h1 : ¬ t.kind = 1 := of_decide_eq_false h1
  refine goL ?_
  refine ⟨LEP.refl _, LEP.of (congrArg PV.bool ?_), trivial⟩
  simp [h1]
theorem tagT_at {t : Tm} (h1 : t.kind = 3) (h2 : t.name = []) (h : 0 < t.kids.length) : tagT t = if t.kids[0].kind = 1 ∧ t.kids[0].kids = [] then t.kids[0].name else [] := by
 obtain ⟨k, n, l⟩ := t
 cases l with
 | nil => simp [Tm.kids] at h
 | cons x xs =>
  unfold tagT
  rw [if_pos ⟨h1, h2⟩]
  rfl
theorem tagT_nil {t : Tm} (h : ¬ 0 < t.kids.length) : tagT t = [] := by
 obtain ⟨k, n, l⟩ := t
 cases l with
 | nil => simp [tagT, Tm.kids]
 | cons x xs => simp [Tm.kids] at h
theorem tag_ok (b : Bool) (t : Tm) : K b 93 [tv t] (.pv (.str (tagT t))) := by
 refine PC_of_vc (cx_ok b) (mixed b) {} Tryz.func93 (by kernel_rfl) rfl rfl (by kernel_rfl) ?_
 refine goL ?_
 refine @bool_rec _ _ _ ?_ ?_ <;> intro h1
 ·have h1 : t.kind = 3 := of_decide_eq_true h1
  refine goL ?_
  refine @bool_rec _ _ _ ?_ ?_ <;> intro h2
  ·have h2 : t.name = [] := of_decide_eq_true h2
   refine goL ?_
   refine @bool_rec _ _ _ ?_ ?_ <;> intro h3
   ·have h3 : 0 < t.kids.length := by simpa [tmvs_length] using h3
    rw [tagT_at h1 h2 h3]
    refine goL ?_
    refine ⟨TV t.kids[0], tmvs_get h3, rfl, rfl, ?_⟩
    refine goL ?_
    refine ⟨_, CallVC.pr (msgdata_ok b t.kids[0]) rfl rfl, ?_⟩
    refine goL ?_
    refine @bool_rec _ _ _ ?_ ?_ <;> intro h4
    ·refine goL ?_
     simp at h4
     exact LEP.of (by rw [if_pos h4])
    ·refine goL ?_
     simp at h4
     exact LEP.of (by rw [if_neg (by simpa using h4)])
   ·have h3 : ¬ 0 < t.kids.length := by simpa [tmvs_length] using h3
    refine goL ?_
    exact LEP.of (congrArg PV.str (tagT_nil h3).symm)
  ·have h2 : ¬ t.name = [] := of_decide_eq_false h2
   refine goL ?_
   exact LEP.of (by simp [tagT, h2])
 ·have h1 : ¬ t.kind = 3 := of_decide_eq_false h1
  refine goL ?_
  exact LEP.of (by simp [tagT, h1])
theorem cut_tmvs {l : List Tm} {n : Nat} (h : l.length = n) : cut (tmvs l) 1 n = tmvs (l.drop 1) := by
 rw [cut, tmvs_eq, tmvs_eq, List.map_drop, List.take_of_length_le]
 simp
 omega
def unpR (o : Option (List Tm)) : Res := .tup [.lst (tmvs (o.getD [])), .bool o.isSome]
theorem unpack_ok (b : Bool) (tag : Bs) (n : Nat) (t : Tm) (hn : n ≤ 1000) (hf : Fit t) : K b 46 [sv tag, iv n, tv t] (unpR (unpackT tag n t)) := by
 have hlen := hf.len
 refine PC_of_vc (cx_ok b) (mixed b) {} Tryz.func46 (by kernel_rfl) rfl rfl (by kernel_rfl) ?_
 refine goL ?_
 refine @bool_rec _ _ _ ?_ ?_ <;> intro h1
 ·have h1 : tag = [] := of_decide_eq_true h1
  have e : unpackT tag n t = none := by simp [unpackT, h1]
  rw [e]
  refine goL ?_
  exact ⟨LEP.refl _, LEP.refl _, trivial⟩
 ·have h1 : ¬ tag = [] := of_decide_eq_false h1
  refine goL ?_
  refine ⟨_, CallVC.pr (tag_ok b t) rfl rfl, ?_⟩
  refine goL ?_
  refine @bool_rec _ _ _ ?_ ?_ <;> intro h2
  ·have h2 : ¬ tagT t = tag := of_decide_eq_true h2
   have e : unpackT tag n t = none := by simp [unpackT, h2]
   rw [e]
   refine goL ?_
   exact ⟨LEP.refl _, LEP.refl _, trivial⟩
  ·have h2 : tagT t = tag := by simpa using h2
   refine goL ?_
   refine ⟨_, wrap64 (n := ((tmvs t.kids).length : Int) - 1) (by omega) (by rw [tmvs_length]; omega), ?_⟩
   refine goL ?_
   refine @bool_rec _ _ _ ?_ ?_ <;> intro h3
   ·have h3 : ¬ t.kids.length = n + 1 := by have := of_decide_eq_true h3; rw [tmvs_length] at this; omega
    have e : unpackT tag n t = none := by simp [unpackT, h3]
    rw [e]
    refine goL ?_
    exact ⟨LEP.refl _, LEP.refl _, trivial⟩
   ·have h3 : t.kids.length = n + 1 := by have := of_decide_eq_false h3; rw [tmvs_length] at this; omega
    have e : unpackT tag n t = some (t.kids.drop 1) := if_pos ⟨h1, h2, h3⟩
    rw [e]
    refine goL ?_
    refine ⟨⟨_, rfl, tmvs_sz _⟩, ?_⟩
    refine goL ?_
    refine ⟨Int.natCast_nonneg _, ?_⟩
    refine goL ?_
    refine ⟨Int.natCast_nonneg _, ?_⟩
    conv => whnf
    refine ⟨by rw [tmvs_length]; show 1 ≤ t.kids.length; omega, Nat.le_refl _, Nat.le_refl _, ?_⟩
    refine goL ?_
    refine ⟨LEP.of (congrArg PV.lst ?_), LEP.refl _, trivial⟩
    show cut (tmvs t.kids) 1 (tmvs t.kids).length = tmvs (t.kids.drop 1)
    rw [tmvs_length]
    exact cut_tmvs rfl
end Go.Sl
namespace Go.Sl
open Go Go.Vc Go.Proofs Go.RowKit Go.Sort Go.Lib
abbrev hostW : Bs := [104, 111, 115, 116]
abbrev authW : Bs := [97, 117, 116, 104]
abbrev armorW : Bs := [97, 114, 109, 111, 114]
abbrev fastW : Bs := [102, 97, 115, 116]
abbrev answerW : Bs := [97, 110, 115, 119, 101, 114]
def sealT (k : Tm) (n : Int) (t : Tm) : Tm := encT (numT k useW n) t
def ticketT (k h : Tm) : Tm := sealT k 2 (packT hostW [h])
def wrapT (t h s : Tm) : Tm := packT armorW [t, sealT h 11 (packT authW [s])]
def reqT (k x p c : Tm) : Tm := sealT k 51 (packT fastW [hashT x, p, c])
def ansT (k : Tm) (n : Bs) (t : Tm) : Tm := sealT k 52 (packT answerW [dataT (61 :: n), t])
abbrev zeroT : Tm := .mk 0 [] []
theorem seal_ok (b : Bool) (k t : Tm) (n : Int) (h0 : -9223372036854775808 ≤ n) (h1 : n ≤ 9223372036854775807) : K b 76 [tv k, iv n, tv t] (.pv (TV (sealT k n t))) := by
 refine PC_of_vc (cx_ok b) (mixed b) {} Tryz.func76 (by kernel_rfl) rfl rfl (by kernel_rfl) ?_
 refine goL ?_
 refine ⟨_, CallVC.pr (use_ok b k n h0 h1) rfl rfl, ?_⟩
 refine goL ?_
 refine ⟨_, CallVC.pr (enc_ok b _ t) rfl rfl, ?_⟩
 refine goL ?_
 exact LEP.refl _
theorem seal16_ok (b : Bool) (k t : Tm) (n : Int) (h0 : -9223372036854775807 ≤ n) (h1 : n ≤ 9223372036854775807) : K b 32 [tv k, iv n, tv t] (.pv (TV (sealT k n t))) := by
 refine PC_of_vc (cx_ok b) (mixed b) {} Tryz.func32 (by kernel_rfl) rfl rfl (by kernel_rfl) ?_
 refine goL ?_
 refine ⟨_, CallVC.pr (use10_ok b k n h0 h1) rfl rfl, ?_⟩
 refine goL ?_
 refine ⟨_, CallVC.pr (enc10_ok b _ t) rfl rfl, ?_⟩
 refine goL ?_
 exact LEP.refl _
theorem ticket_ok (b : Bool) (k h : Tm) : K b 50 [tv k, tv h] (.pv (TV (ticketT k h))) := by
 refine PC_of_vc (cx_ok b) (mixed b) {} Tryz.func50 (by kernel_rfl) rfl rfl (by kernel_rfl) ?_
 refine goL ?_
 refine ⟨_, CallVC.pr (pack_ok b hostW _ [h] (tmvs1 h) (by simp)) rfl rfl, ?_⟩
 refine goL ?_
 refine ⟨_, CallVC.pr (seal_ok b k _ 2 (by decide) (by decide)) rfl rfl, ?_⟩
 refine goL ?_
 exact LEP.refl _
theorem ticket16_ok (b : Bool) (k h : Tm) : K b 9 [tv k, tv h] (.pv (TV (ticketT k h))) := by
 refine PC_of_vc (cx_ok b) (mixed b) {} Tryz.func9 (by kernel_rfl) rfl rfl (by kernel_rfl) ?_
 refine goL ?_
 refine ⟨_, CallVC.pr (pack15_ok b hostW _ [h] (tmvs1 h) (by simp)) rfl rfl, ?_⟩
 refine goL ?_
 refine ⟨_, CallVC.pr (seal16_ok b k _ 2 (by decide) (by decide)) rfl rfl, ?_⟩
 refine goL ?_
 exact LEP.refl _
theorem wrap_ok (b : Bool) (t h s : Tm) : K b 35 [tv t, tv h, tv s] (.pv (TV (wrapT t h s))) := by
 refine PC_of_vc (cx_ok b) (mixed b) {} Tryz.func35 (by kernel_rfl) rfl rfl (by kernel_rfl) ?_
 refine goL ?_
 refine ⟨_, CallVC.pr (pack_ok b authW _ [s] (tmvs1 s) (by simp)) rfl rfl, ?_⟩
 refine goL ?_
 refine ⟨_, CallVC.pr (seal_ok b h _ 11 (by decide) (by decide)) rfl rfl, ?_⟩
 refine goL ?_
 refine ⟨_, CallVC.pr (pack_ok b armorW _ [t, _] (tmvs2 t _) (by simp)) rfl rfl, ?_⟩
 refine goL ?_
 exact LEP.refl _
theorem req_ok (b : Bool) (k x p c : Tm) : K b 79 [tv k, tv x, tv p, tv c] (.pv (TV (reqT k x p c))) := by
 refine PC_of_vc (cx_ok b) (mixed b) {} Tryz.func79 (by kernel_rfl) rfl rfl (by kernel_rfl) ?_
 refine goL ?_
 refine ⟨_, CallVC.pr (hash_ok b x) rfl rfl, ?_⟩
 refine goL ?_
 refine ⟨_, CallVC.pr (pack_ok b fastW _ [_, p, c] (tmvs3 _ p c) (by simp)) rfl rfl, ?_⟩
 refine goL ?_
 refine ⟨_, CallVC.pr (seal_ok b k _ 51 (by decide) (by decide)) rfl rfl, ?_⟩
 refine goL ?_
 exact LEP.refl _
theorem ans_ok (b : Bool) (k : Tm) (n : Bs) (t : Tm) (hn : n.length ≤ 9223372036854775800) : K b 91 [tv k, sv n, tv t] (.pv (TV (ansT k n t))) := by
 refine PC_of_vc (cx_ok b) (mixed b) {} Tryz.func91 (by kernel_rfl) rfl rfl (by kernel_rfl) ?_
 refine goL ?_
 refine ⟨_, CallVC.pr (word_ok b n hn) rfl rfl, ?_⟩
 refine goL ?_
 refine ⟨_, CallVC.pr (pack_ok b answerW _ [_, t] (tmvs2 _ t) (by simp)) rfl rfl, ?_⟩
 refine goL ?_
 refine ⟨_, CallVC.pr (seal_ok b k _ 52 (by decide) (by decide)) rfl rfl, ?_⟩
 refine goL ?_
 exact LEP.refl _
def unsealT (k : Tm) (n : Int) (t : Tm) : Tm × Int :=
 if h : t.kind = 4 ∧ t.kids.length = 2 then (if t.kids[0]'(by omega) = numT k useW n then (t.kids[1]'(by omega), 0) else (zeroT, 4)) else (zeroT, 2)
def tmR (x : Tm × Int) : Res := .tup [TV x.1, .int .i64 x.2]
theorem unsealT_no {k : Tm} {n : Int} {t : Tm} (h : ¬ (t.kind = 4 ∧ t.kids.length = 2)) : unsealT k n t = (zeroT, 2) := dif_neg h
theorem unsealT_at {k : Tm} {n : Int} {t : Tm} (h1 : t.kind = 4) (h2 : t.kids.length = 2) : unsealT k n t = if t.kids[0]'(by omega) = numT k useW n then (t.kids[1]'(by omega), 0) else (zeroT, 4) := dif_pos ⟨h1, h2⟩
theorem unseal_ok (b : Bool) (k t : Tm) (n : Int) (h0 : -9223372036854775808 ≤ n) (h1 : n ≤ 9223372036854775807) (hf : Fit t) : K b 175 [tv k, iv n, tv t] (tmR (unsealT k n t)) := by
 refine PC_of_vc (cx_ok b) (mixed b) {} Tryz.func175 (by kernel_rfl) rfl rfl (by kernel_rfl) ?_
 refine goL ?_
 refine @bool_rec _ _ _ ?_ ?_ <;> intro h2
 ·have h2 : ¬ t.kind = 4 := of_decide_eq_true h2
  rw [unsealT_no (fun h => h2 h.1)]
  refine goL ?_
  exact ⟨LE_leaf 0 [], LEP.refl _, trivial⟩
 ·have h2 : t.kind = 4 := by simpa using h2
  refine goL ?_
  refine @bool_rec _ _ _ ?_ ?_ <;> intro h3
  ·have h3 : ¬ t.kids.length = 2 := by have := of_decide_eq_true h3; rw [tmvs_length] at this; omega
   rw [unsealT_no (fun h => h3 h.2)]
   refine goL ?_
   exact ⟨LE_leaf 0 [], LEP.refl _, trivial⟩
  ·have h3 : t.kids.length = 2 := by have := of_decide_eq_false h3; rw [tmvs_length] at this; omega
   have hl0 : 0 < t.kids.length := by omega
   have hl1 : 1 < t.kids.length := by omega
   rw [unsealT_at h2 h3]
   refine goL ?_
   refine ⟨TV t.kids[0], tmvs_get hl0, rfl, rfl, ?_⟩
   refine goL ?_
   refine ⟨_, CallVC.pr (use_ok b k n h0 h1) rfl rfl, ?_⟩
   refine goL ?_
   refine ⟨_, CallVC.pr (same_ok b t.kids[0] (hf.kid (List.getElem_mem hl0)) _) rfl rfl, ?_⟩
   refine goL ?_
   refine @bool_rec _ _ _ ?_ ?_ <;> intro h4
   ·have h4 : ¬ t.kids[0] = numT k useW n := by simpa using h4
    rw [if_neg h4]
    refine goL ?_
    exact ⟨LE_leaf 0 [], LEP.refl _, trivial⟩
   ·have h4 : t.kids[0] = numT k useW n := by simpa using h4
    rw [if_pos h4]
    refine goL ?_
    refine ⟨TV t.kids[1], tmvs_get hl1, rfl, rfl, ?_⟩
    refine goL ?_
    exact ⟨LEP.refl _, LEP.refl _, trivial⟩
def sealedT (k : Tm) (n : Int) (t : Tm) (tag : Bs) (m : Nat) : List Tm × Int :=
 if (unsealT k n t).2 ≠ 0 then ([], (unsealT k n t).2) else match unpackT tag m (unsealT k n t).1 with
  | none => ([], 2)
  | some l => (l, 0)
theorem Fit.zero : Fit zeroT := .mk (by decide) (by decide) (fun t h => by cases h)
theorem Fit.unshut {k t : Tm} {n : Int} (h : Fit t) : Fit (unsealT k n t).1 := by
 unfold unsealT
 split
 ·split
  ·exact h.kid (List.getElem_mem _)
  ·exact Fit.zero
 ·exact Fit.zero
def lsR (x : List Tm × Int) : Res := .tup [.lst (tmvs x.1), .int .i64 x.2]
theorem sealed_ok (b : Bool) (k t : Tm) (n : Int) (tag : Bs) (m : Nat) (h0 : -9223372036854775808 ≤ n) (h1 : n ≤ 9223372036854775807) (hm : m ≤ 1000) (hf : Fit t) : K b 129 [tv k, iv n, tv t, sv tag, iv m] (lsR (sealedT k n t tag m)) := by
 have hu := unseal_ok b k t n h0 h1 hf
 have hfu : Fit (unsealT k n t).1 := hf.unshut
 unfold sealedT
 revert hu hfu
 generalize unsealT k n t = y
 obtain ⟨x, c⟩ := y
 intro hu hfu
 have hfu : Fit x := hfu
 have hp := unpack_ok b tag m x hm hfu
 refine PC_of_vc (cx_ok b) (mixed b) {} Tryz.func129 (by kernel_rfl) rfl rfl (by kernel_rfl) ?_
 refine goL ?_
 refine ⟨_, CallVC.pr hu rfl rfl, ?_⟩
 refine goL ?_
 refine @bool_rec _ _ _ ?_ ?_ <;> intro h2
 ·have h2 : c ≠ 0 := of_decide_eq_true h2
  rw [if_pos h2]
  refine goL ?_
  exact ⟨LEP.refl _, LEP.refl _, trivial⟩
 ·have h2 : c = 0 := by simpa using h2
  subst h2
  cases e : unpackT tag m x with
  | none =>
   rw [e] at hp
   refine goL ?_
   refine ⟨_, CallVC.pr hp rfl rfl, ?_⟩
   refine goL ?_
   exact ⟨LEP.refl _, LEP.refl _, trivial⟩
  | some l =>
   rw [e] at hp
   refine goL ?_
   refine ⟨_, CallVC.pr hp rfl rfl, ?_⟩
   refine goL ?_
   exact ⟨LEP.refl _, LEP.refl _, trivial⟩
end Go.Sl
namespace Go.Sl
open Go Go.Vc Go.Proofs Go.RowKit Go.Sort Go.Lib
abbrev at_ (l : List Tm) (i : Nat) : Tm := l.getD i zeroT
theorem tmvs_at {l : List Tm} {i : Nat} (h : i < l.length) : (tmvs l)[i]? = some (TV (at_ l i)) := by
 rw [tmvs_get h]
 simp [at_, h]
theorem unpackT_len {tag : Bs} {n : Nat} {t : Tm} {l : List Tm} (h : unpackT tag n t = some l) : l.length = n := by
 unfold unpackT at h
 split at h
 ·cases h
  rename_i h
  simp [h.2.2]
 ·cases h
theorem sealedT_len {k : Tm} {n : Int} {t : Tm} {tag : Bs} {m : Nat} (h : (sealedT k n t tag m).2 = 0) : (sealedT k n t tag m).1.length = m := by
 unfold sealedT at h ⊢
 split at h
 ·exact absurd h (by assumption)
 ·rename_i h2
  rw [if_neg h2]
  split at h
  ·cases h
  ·rename_i l e
   exact unpackT_len e
theorem Fit.unpack {tag : Bs} {n : Nat} {t : Tm} {l : List Tm} (hf : Fit t) (h : unpackT tag n t = some l) : ∀ u ∈ l, Fit u := by
 unfold unpackT at h
 split at h
 ·cases h
  exact fun u hu => hf.kid (List.mem_of_mem_drop hu)
 ·cases h
theorem Fit.sealed {k : Tm} {n : Int} {t : Tm} {tag : Bs} {m : Nat} (hf : Fit t) : ∀ u ∈ (sealedT k n t tag m).1, Fit u := by
 unfold sealedT
 split
 ·intro u hu; cases hu
 ·split
  ·intro u hu; cases hu
  ·rename_i l e
   exact hf.unshut.unpack e
theorem Fit.at_ {l : List Tm} (h : ∀ u ∈ l, Fit u) (i : Nat) : Fit (at_ l i) := by
 unfold Sl.at_
 rw [List.getD_eq_getElem?_getD]
 cases e : l[i]? with
 | none => exact Fit.zero
 | some u => exact h u (List.mem_of_getElem? e)
def openT (k t : Tm) : Tm × Int :=
 match unpackT armorW 2 t with
 | none => (zeroT, 2)
 | some l =>
  if (sealedT k 2 (at_ l 0) hostW 1).2 ≠ 0 then (zeroT, (sealedT k 2 (at_ l 0) hostW 1).2) else
  if (sealedT (at_ (sealedT k 2 (at_ l 0) hostW 1).1 0) 11 (at_ l 1) authW 1).2 ≠ 0 then (zeroT, (sealedT (at_ (sealedT k 2 (at_ l 0) hostW 1).1 0) 11 (at_ l 1) authW 1).2) else
  (joinT (at_ (sealedT (at_ (sealedT k 2 (at_ l 0) hostW 1).1 0) 11 (at_ l 1) authW 1).1 0) (at_ (sealedT k 2 (at_ l 0) hostW 1).1 0) subW tickW, 0)
def ansOfT (k : Tm) (n : Bs) (t : Tm) : Tm × Int :=
 if (sealedT k 52 t answerW 2).2 ≠ 0 then (zeroT, (sealedT k 52 t answerW 2).2) else
 if at_ (sealedT k 52 t answerW 2).1 0 ≠ dataT (61 :: n) then (zeroT, 6) else (at_ (sealedT k 52 t answerW 2).1 1, 0)
theorem open_ok (b : Bool) (k t : Tm) (hf : Fit t) : K b 82 [tv k, tv t] (tmR (openT k t)) := by
 have hu := unpack_ok b armorW 2 t (by decide) hf
 unfold openT
 cases e : unpackT armorW 2 t with
 | none =>
  rw [e] at hu
  refine PC_of_vc (cx_ok b) (mixed b) {} Tryz.func82 (by kernel_rfl) rfl rfl (by kernel_rfl) ?_
  refine goL ?_
  refine ⟨_, CallVC.pr hu rfl rfl, ?_⟩
  refine goL ?_
  exact ⟨LE_leaf 0 [], LEP.refl _, trivial⟩
 | some l =>
  rw [e] at hu
  have hl := unpackT_len e
  have hfl := hf.unpack e
  have hs1 := sealed_ok b k (at_ l 0) 2 hostW 1 (by decide) (by decide) (by decide) (Fit.at_ hfl 0)
  have hc1 : (sealedT k 2 (at_ l 0) hostW 1).2 = 0 → (sealedT k 2 (at_ l 0) hostW 1).1.length = 1 := sealedT_len
  show K b _ _ (tmR (if (sealedT k 2 (at_ l 0) hostW 1).2 ≠ 0 then _ else _))
  revert hs1 hc1
  generalize sealedT k 2 (at_ l 0) hostW 1 = y
  obtain ⟨m, c⟩ := y
  intro hs1 hc1
  have hs2 := sealed_ok b (at_ m 0) (at_ l 1) 11 authW 1 (by decide) (by decide) (by decide) (Fit.at_ hfl 1)
  have hc2 : (sealedT (at_ m 0) 11 (at_ l 1) authW 1).2 = 0 → (sealedT (at_ m 0) 11 (at_ l 1) authW 1).1.length = 1 := sealedT_len
  revert hs2 hc2
  show _ → _ → K b _ _ (tmR (if c ≠ 0 then (zeroT, c) else if (sealedT (at_ m 0) 11 (at_ l 1) authW 1).2 ≠ 0 then (zeroT, (sealedT (at_ m 0) 11 (at_ l 1) authW 1).2) else (joinT (at_ (sealedT (at_ m 0) 11 (at_ l 1) authW 1).1 0) (at_ m 0) subW tickW, 0)))
  generalize sealedT (at_ m 0) 11 (at_ l 1) authW 1 = z
  obtain ⟨m', c'⟩ := z
  intro hs2 hc2
  refine PC_of_vc (cx_ok b) (mixed b) {} Tryz.func82 (by kernel_rfl) rfl rfl (by kernel_rfl) ?_
  refine goL ?_
  refine ⟨_, CallVC.pr hu rfl rfl, ?_⟩
  refine goL ?_
  refine ⟨_, tmvs_at (l := l) (i := 0) (by omega), rfl, rfl, ?_⟩
  refine goL ?_
  refine ⟨_, CallVC.pr hs1 rfl rfl, ?_⟩
  refine goL ?_
  refine @bool_rec _ _ _ ?_ ?_ <;> intro h1
  ·have h1 : c ≠ 0 := of_decide_eq_true h1
   rw [if_pos h1]
   refine goL ?_
   exact ⟨LE_leaf 0 [], LEP.refl _, trivial⟩
  ·have h1 : c = 0 := by simpa using h1
   subst h1
   have hm : m.length = 1 := hc1 rfl
   refine goL ?_
   refine ⟨_, tmvs_at (i := 0) (by omega), rfl, rfl, ?_⟩
   refine goL ?_
   refine ⟨_, tmvs_at (l := l) (i := 1) (by omega), rfl, rfl, ?_⟩
   refine goL ?_
   refine ⟨_, CallVC.pr hs2 rfl rfl, ?_⟩
   refine goL ?_
   refine @bool_rec _ _ _ ?_ ?_ <;> intro h2
   ·have h2 : c' ≠ 0 := of_decide_eq_true h2
    rw [if_neg (by simp), if_pos h2]
    refine goL ?_
    exact ⟨LE_leaf 0 [], LEP.refl _, trivial⟩
   ·have h2 : c' = 0 := by simpa using h2
    subst h2
    have hm' : m'.length = 1 := hc2 rfl
    rw [if_neg (by simp), if_neg (by simp)]
    refine goL ?_
    refine ⟨_, tmvs_at (i := 0) (by omega), rfl, rfl, ?_⟩
    refine goL ?_
    refine ⟨_, tmvs_at (i := 0) (by omega), rfl, rfl, ?_⟩
    refine goL ?_
    refine ⟨_, CallVC.pr (armor_ok b (at_ m' 0) (at_ m 0)) rfl rfl, ?_⟩
    refine goL ?_
    exact ⟨LEP.refl _, LEP.refl _, trivial⟩
theorem ansof_ok (b : Bool) (k t : Tm) (n : Bs) (hn : n.length ≤ 9223372036854775800) (hf : Fit t) : K b 163 [tv k, sv n, tv t] (tmR (ansOfT k n t)) := by
 have hs := sealed_ok b k t 52 answerW 2 (by decide) (by decide) (by decide) hf
 have hfl : ∀ u ∈ (sealedT k 52 t answerW 2).1, Fit u := hf.sealed
 have hc : (sealedT k 52 t answerW 2).2 = 0 → (sealedT k 52 t answerW 2).1.length = 2 := sealedT_len
 unfold ansOfT
 revert hs hc hfl
 generalize sealedT k 52 t answerW 2 = y
 obtain ⟨m, c⟩ := y
 intro hs hfl hc
 refine PC_of_vc (cx_ok b) (mixed b) {} Tryz.func163 (by kernel_rfl) rfl rfl (by kernel_rfl) ?_
 refine goL ?_
 refine ⟨_, CallVC.pr hs rfl rfl, ?_⟩
 refine goL ?_
 refine @bool_rec _ _ _ ?_ ?_ <;> intro h1
 ·have h1 : c ≠ 0 := of_decide_eq_true h1
  rw [if_pos h1]
  refine goL ?_
  exact ⟨LE_leaf 0 [], LEP.refl _, trivial⟩
 ·have h1 : c = 0 := by simpa using h1
  subst h1
  have hm : m.length = 2 := hc rfl
  refine goL ?_
  refine ⟨_, tmvs_at (i := 0) (by omega), rfl, rfl, ?_⟩
  refine goL ?_
  refine ⟨_, CallVC.pr (word_ok b n hn) rfl rfl, ?_⟩
  refine goL ?_
  refine ⟨_, CallVC.pr (same_ok b (at_ m 0) (Fit.at_ hfl 0) _) rfl rfl, ?_⟩
  refine goL ?_
  refine @bool_rec _ _ _ ?_ ?_ <;> intro h2
  ·have h2 : at_ m 0 ≠ dataT (61 :: n) := by simpa using h2
   rw [if_neg (by simp), if_pos h2]
   refine goL ?_
   exact ⟨LE_leaf 0 [], LEP.refl _, trivial⟩
  ·have h2 : at_ m 0 = dataT (61 :: n) := by simpa using h2
   rw [if_neg (by simp), if_neg (by simpa using h2)]
   refine goL ?_
   refine ⟨_, tmvs_at (i := 1) (by omega), rfl, rfl, ?_⟩
   refine goL ?_
   exact ⟨LEP.refl _, LEP.refl _, trivial⟩
end Go.Sl
namespace Go.Sl
open Go Go.Vc Go.Proofs Go.RowKit Go.Sort Go.Lib
theorem unseal_seal (k : Tm) (n : Int) (t : Tm) : unsealT k n (sealT k n t) = (t, 0) := by
 rw [unsealT_at rfl rfl]
 exact if_pos rfl
theorem tagT_pack (tag : Bs) (l : List Tm) : tagT (packT tag l) = tag := by simp [tagT, packT, Tm.kind, Tm.name, Tm.kids]
theorem unpack_pack {tag : Bs} (h : tag ≠ []) (l : List Tm) : unpackT tag l.length (packT tag l) = some l := by
 unfold unpackT
 rw [if_pos ⟨h, tagT_pack tag l, rfl⟩]
 rfl
theorem sealed_seal {k : Tm} {n : Int} {tag : Bs} (h : tag ≠ []) (l : List Tm) : sealedT k n (sealT k n (packT tag l)) tag l.length = (l, 0) := by
 unfold sealedT
 rw [unseal_seal]
 simp only [ne_eq, not_true_eq_false, if_false]
 rw [unpack_pack h]
theorem open_wrap (k h s : Tm) : openT k (wrapT (ticketT k h) h s) = (joinT s h subW tickW, 0) := by
 have h1 : unpackT armorW 2 (wrapT (ticketT k h) h s) = some [ticketT k h, sealT h 11 (packT authW [s])] := unpack_pack (l := [_, _]) (by decide)
 have h2 : sealedT k 2 (ticketT k h) hostW 1 = ([h], 0) := sealed_seal (l := [h]) (by decide)
 have h3 : sealedT h 11 (sealT h 11 (packT authW [s])) authW 1 = ([s], 0) := sealed_seal (l := [s]) (by decide)
 unfold openT
 rw [h1]
 simp only [at_, List.getD_cons_zero, List.getD_cons_succ, h2, h3]
 simp
end Go.Sl
namespace Go.Sl
open Go Go.Vc Go.Proofs Go.RowKit Go.Sort Go.Lib
def reqOfT (k x t : Tm) : Tm × Tm × Int :=
 if (sealedT k 51 t fastW 3).2 ≠ 0 then (zeroT, zeroT, (sealedT k 51 t fastW 3).2) else
 if at_ (sealedT k 51 t fastW 3).1 0 ≠ hashT x then (zeroT, zeroT, 6) else (at_ (sealedT k 51 t fastW 3).1 1, at_ (sealedT k 51 t fastW 3).1 2, 0)
def tm2R (x : Tm × Tm × Int) : Res := .tup [TV x.1, TV x.2.1, .int .i64 x.2.2]
theorem reqOf_req (k x p c y : Tm) : reqOfT k y (reqT k x p c) = if x = y then (p, c, 0) else (zeroT, zeroT, 6) := by
 have h1 : sealedT k 51 (reqT k x p c) fastW 3 = ([hashT x, p, c], 0) := sealed_seal (l := [_, _, _]) (by decide)
 unfold reqOfT
 rw [h1]
 simp only [at_, List.getD_cons_zero, List.getD_cons_succ]
 by_cases e : x = y
 ·subst e; simp
 ·rw [if_neg (by simp), if_pos (by simpa using e), if_neg e]
theorem reqof_ok (b : Bool) (k x t : Tm) (hf : Fit t) : K b 83 [tv k, tv x, tv t] (tm2R (reqOfT k x t)) := by
 have hs := sealed_ok b k t 51 fastW 3 (by decide) (by decide) (by decide) hf
 have hfl : ∀ u ∈ (sealedT k 51 t fastW 3).1, Fit u := hf.sealed
 have hc : (sealedT k 51 t fastW 3).2 = 0 → (sealedT k 51 t fastW 3).1.length = 3 := sealedT_len
 unfold reqOfT
 revert hs hc hfl
 generalize sealedT k 51 t fastW 3 = y
 obtain ⟨m, c⟩ := y
 intro hs hfl hc
 refine PC_of_vc (cx_ok b) (mixed b) { ps := psT [(3, [6, 7]), (5, [6, 7]), (6, [6, 7])] } Tryz.func83 (by kernel_rfl) rfl rfl (by kernel_rfl) ?_
 refine goL ?_
 refine ⟨_, CallVC.pr hs rfl rfl, ?_⟩
 refine goL ?_
 refine @bool_rec _ _ _ ?_ ?_ <;> intro h1
 ·have h1 : c ≠ 0 := of_decide_eq_true h1
  rw [if_pos h1]
  refine goL ?_
  exact ⟨LE_leaf 0 [], LE_leaf 0 [], LEP.refl _, trivial⟩
 ·have h1 : c = 0 := by simpa using h1
  subst h1
  have hm : m.length = 3 := hc rfl
  refine goL ?_
  refine ⟨_, tmvs_at (i := 0) (by omega), rfl, rfl, ?_⟩
  refine goL ?_
  refine ⟨_, CallVC.pr (hash_ok b x) rfl rfl, ?_⟩
  refine goL ?_
  refine ⟨_, CallVC.pr (same_ok b (at_ m 0) (Fit.at_ hfl 0) _) rfl rfl, ?_⟩
  refine goL ?_
  refine @bool_rec _ _ _ ?_ ?_ <;> intro h2
  ·have h2 : at_ m 0 ≠ hashT x := by simpa using h2
   rw [if_neg (by simp), if_pos h2]
   refine goL ?_
   exact ⟨LE_leaf 0 [], LE_leaf 0 [], LEP.refl _, trivial⟩
  ·have h2 : at_ m 0 = hashT x := by simpa using h2
   rw [if_neg (by simp), if_neg (by simpa using h2)]
   refine goL ?_
   refine ⟨_, tmvs_at (i := 1) (by omega), rfl, rfl, ?_⟩
   refine goL ?_
   refine ⟨_, tmvs_at (i := 2) (by omega), rfl, rfl, ?_⟩
   refine goL ?_
   exact ⟨LEP.refl _, LEP.refl _, LEP.refl _, trivial⟩
end Go.Sl
namespace Go.Sl
open Go Go.Vc Go.Proofs Go.RowKit
def otpW : Bs := [111, 116, 112]
def wordW : Bs := [119, 111, 114, 100]
def longW : Bs := [108, 111, 110, 103, 32]
def strW : Bs := [115, 116, 114, 101, 110, 103, 116, 104, 101, 110, 107, 101, 121]
def repW : Bs := [114, 101, 112, 108, 121, 107, 101, 121]
theorem keyotp_ok (b : Bool) (k : Tm) (n : Int) (h0 : -9223372036854775808 ≤ n) (h1 : n ≤ 9223372036854775807) : K b 185 [tv k, iv n] (.pv (TV (numT k otpW n))) := by
 refine PC_of_vc (cx_ok b) (mixed b) {} Tryz.func185 (by kernel_rfl) rfl rfl (by kernel_rfl) ?_
 refine goL ?_
 refine ⟨_, CallVC.pr (numbered_ok b k otpW n (by decide) h0 h1) rfl rfl, ?_⟩
 refine goL ?_
 exact LEP.refl _
theorem keyword_ok (b : Bool) (k : Tm) : K b 179 [tv k] (.pv (TV (kdfT k wordW))) := by
 refine PC_of_vc (cx_ok b) (mixed b) {} Tryz.func179 (by kernel_rfl) rfl rfl (by kernel_rfl) ?_
 refine goL ?_
 refine ⟨_, CallVC.pr (kdf_ok b k wordW) rfl rfl, ?_⟩
 refine goL ?_
 exact LEP.refl _
theorem keylong_ok (b : Bool) (k : Tm) (s : Bs) (hs : s.length ≤ 1000000000) : K b 31 [tv k, sv s] (.pv (TV (kdfT k (longW ++ s)))) := by
 refine PC_of_vc (cx_ok b) (mixed b) {} Tryz.func31 (by kernel_rfl) rfl rfl (by kernel_rfl) ?_
 refine goL ?_
 refine ⟨by show 5 + s.length ≤ _; omega, ?_⟩
 refine goL ?_
 refine ⟨_, CallVC.pr (kdf_ok b k (longW ++ s)) rfl rfl, ?_⟩
 refine goL ?_
 exact LEP.refl _
theorem reply_ok (b : Bool) (x y : Tm) : K b 102 [tv x, tv y] (.pv (TV (joinT x y strW repW))) := by
 refine PC_of_vc (cx_ok b) (mixed b) {} Tryz.func102 (by kernel_rfl) rfl rfl (by kernel_rfl) ?_
 refine goL ?_
 refine ⟨_, CallVC.pr (join_ok b x y strW repW (by decide) (by decide)) rfl rfl, ?_⟩
 refine goL ?_
 exact LEP.refl _
end Go.Sl
