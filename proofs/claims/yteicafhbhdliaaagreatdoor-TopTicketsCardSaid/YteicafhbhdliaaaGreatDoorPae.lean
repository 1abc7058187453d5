/- The statement TopTickets, without a condition: a ticket of one KDC is none of another one's. Part 5: Vcj Tm Ty Fa Fb. -/
import Derived.Test.YteicafhbhdliaaaGreatDoorPad
import Derived.KernelRfl
import Derived.Test.YteicafhbhdliaaaGreatDoorProg
import Derived.Lib.LaidTab
import Derived.Lib.SmallJoins
import Derived.Lib.ItoaNum
set_option linter.unusedVariables false
namespace Go.Vc
open Go Go.RowKit
theorem CallVC.pr {C : Cx} {η : Nat → AO} {f : FuncId} {args args' : List SV} {r : Res} (h : PC C f (fun _ => .no) args' r) (hk : SV.keysL args' = []) (hs : (args.all noSlc || r.scalar) = true) : CallVC C η f args args' r := by
 refine CallVC.pure args' h (LEL.refl _) hk ?_
 cases e : r.scalar with
 | true => exact .inl rfl
 | false =>
  rw [e, Bool.or_false] at hs
  exact .inr fun x hx => List.all_eq_true.1 hs x hx
theorem CallVC.le {C : Cx} {η : Nat → AO} {f : FuncId} {args vargs args' : List SV} {r : Res} (h : PC C f (fun _ => .no) args' r) (hle : LEL vargs args') (hk : SV.keysL args' = []) (hs : (args.all noSlc || r.scalar) = true) : CallVC C η f args vargs r := by
 refine CallVC.pure args' h hle hk ?_
 cases e : r.scalar with
 | true => exact .inl rfl
 | false =>
  rw [e, Bool.or_false] at hs
  exact .inr fun x hx => List.all_eq_true.1 hs x hx
theorem LEP.of {x y : PV} (h : x = y) : LEP x y := h ▸ LEP.refl x
theorem LEL.cons {x y : SV} {xs ys : List SV} (h : LE x y) (h' : LEL xs ys) : LEL (x :: xs) (y :: ys) := ⟨h, h'⟩
theorem LEL.nil : LEL [] [] := trivial
theorem wrap64 {n : Int} (h0 : -9223372036854775808 ≤ n) (h1 : n ≤ 9223372036854775807) : IntKind.i64.wrap n = n := by
 simp only [IntKind.wrap, IntKind.bits, IntKind.signed]
 simp
 omega
theorem wrapN {a : Int} {n : Nat} (h : a = n) (hn : n ≤ 9223372036854775807) : IntKind.i64.wrap a = n := by
 rw [h]
 exact wrap64 (by omega) (by omega)
theorem IndepAnd {own : Nat → Bool} {P : List Nat} {ops : Array Oper} {Q : Prop} (h : indep own P ops = true) (q : Q) : Indep1 own P ops ∧ Q := ⟨⟨h⟩, q⟩
theorem AltAnd {C : Cx} {own : Nat → Bool} {P : List Nat} {ops : Array Oper} {x y : Tr} {K : S → Prop} {s : S} (h1 : vcTr C own P ops x K s) (h2 : vcTr C own P ops y K s) : vcTr C own P ops x K s ∧ vcTr C own P ops y K s := ⟨h1, h2⟩
theorem TreeAnd {own : Nat → Bool} {P : List Nat} {ops : Array Oper} {b : List Nat} {t : Tr} {Q : Prop} (h : treeOk own P ops b t = true) (q : Q) : Tree1 own P ops b t ∧ Q := ⟨⟨h⟩, q⟩
def trT : List (Nat × List Nat × Tr) → Nat → Option (List Nat × Tr)
 | [], _ => none
 | (k, l) :: r, i => cond (Nat.beq i k) (some l) (trT r i)
def psT : List (Nat × List Nat) → Nat → List Nat
 | [], _ => []
 | (k, l) :: r, i => cond (Nat.beq i k) l (psT r i)
def kpT : List (Nat × List Nat × List Nat) → Nat → Option (List Nat × List Nat)
 | [], _ => none
 | (k, l) :: r, i => cond (Nat.beq i k) (some l) (kpT r i)
abbrev Rd (n : Nat) := { i : Nat // i ≤ n }
def Rd.zero (n : Nat) : Rd n := ⟨0, Nat.zero_le _⟩
def GeL (s : S) : List (Nat × SV) → Prop
 | [] => True
 | (t, x) :: r => (s.ρ t).force fun y => LE y x ∧ GeL s r
def GeO (s : S) : List (Nat × AO) → Prop
 | [] => True
 | (t, x) :: r => (s.η t).force fun y => OLE y x ∧ GeO s r
theorem GeL.get {s : S} : ∀ {l : List (Nat × SV)}, GeL s l → ∀ t x, (t, x) ∈ l → LE (s.ρ t) x
 | (k, y) :: r, h, t, x, hm => by
  rw [GeL, SV.force_eq] at h
  rcases List.mem_cons.1 hm with e | hm
  ·cases e; exact h.1
  ·exact GeL.get h.2 t x hm
theorem GeO.get {s : S} : ∀ {l : List (Nat × AO)}, GeO s l → ∀ t x, (t, x) ∈ l → OLE (s.η t) x
 | (k, y) :: r, h, t, x, hm => by
  rw [GeO, AO.force_eq] at h
  rcases List.mem_cons.1 hm with e | hm
  ·cases e; exact h.1
  ·exact GeO.get h.2 t x hm
theorem Ge.of {s : S} {l : List (Nat × SV)} {o : List (Nat × AO)} (hk : okS l o = true) (hl : GeL s l) (ho : GeO s o) : Ge s (S.of l o) := by
 simp only [okS, Bool.and_eq_true, List.all_eq_true] at hk
 refine Ge0.ge ⟨fun t => ?_, fun κ => ?_, ⟨fun t κ h => ?_, fun t κ h => ?_⟩⟩
 ·show LE (s.ρ t) (look l t)
  rcases look_mem (l := l) (t := t) with e | e
  ·rw [e]; intro _ _ _ _ _; trivial
  ·exact hl.get _ _ e
 ·show OLE (s.η κ) (lookO o κ)
  rcases lookO_mem (l := o) (t := κ) with e | e
  ·rw [e]; exact .inl rfl
  ·exact ho.get _ _ e
 ·change κ ∈ (look l t).keys at h
  rcases look_mem (l := l) (t := t) with e | e
  ·rw [e] at h; cases h
  ·exact hk.1 _ e κ h
 ·change κ ∈ (lookO o t).keys at h
  rcases lookO_mem (l := o) (t := t) with e | e
  ·rw [e] at h; cases h
  ·exact hk.2 _ e κ h
def gn : List (Nat × Nat) → Nat → Nat
 | [], k => k
 | (a, b) :: r, k => cond (Nat.beq k a) b (gn r k)
def GeLr (g : Nat → Nat) (s : S) : List (Nat × SV) → Prop
 | [] => True
 | (t, x) :: r => (s.ρ t).force fun y => LE y (x.ren g) ∧ GeLr g s r
def GeOr (g : Nat → Nat) (s : S) : List (Nat × AO) → Prop
 | [] => True
 | (t, x) :: r => (s.η (g t)).force fun y => OLE y (x.ren g) ∧ GeOr g s r
theorem GeLr.get {g : Nat → Nat} {s : S} : ∀ {l : List (Nat × SV)}, GeLr g s l → ∀ t x, (t, x) ∈ l → LE (s.ρ t) (x.ren g)
 | (k, y) :: r, h, t, x, hm => by
  rw [GeLr, SV.force_eq] at h
  rcases List.mem_cons.1 hm with e | hm
  ·cases e; exact h.1
  ·exact GeLr.get h.2 t x hm
theorem GeOr.get {g : Nat → Nat} {s : S} : ∀ {l : List (Nat × AO)}, GeOr g s l → ∀ t x, (t, x) ∈ l → OLE (s.η (g t)) (x.ren g)
 | (k, y) :: r, h, t, x, hm => by
  rw [GeOr, AO.force_eq] at h
  rcases List.mem_cons.1 hm with e | hm
  ·cases e; exact h.1
  ·exact GeOr.get h.2 t x hm
def okN (G : List (Nat × Nat)) (o : List (Nat × AO)) : Bool := (G.all fun z => Nat.blt z.1 2000) && o.all fun y => o.all fun z => Nat.beq y.1 z.1 || !Nat.beq (gn G y.1) (gn G z.1)
theorem gn_pin {G : List (Nat × Nat)} {κ : Nat} (h : (G.all fun z => Nat.blt z.1 2000) = true) (hκ : 2000 ≤ κ) : gn G κ = κ := by
 induction G with
 | nil => rfl
 | cons z G ih =>
  obtain ⟨a, b⟩ := z
  rw [List.all_cons, Bool.and_eq_true] at h
  have h1 : a < 2000 := by have := h.1; rw [Nat.blt_eq] at this; exact this
  show cond (Nat.beq κ a) b (gn G κ) = κ
  rw [beq_ite, if_neg (by omega), ih h.2]
theorem Ge.ren (G : List (Nat × Nat)) {s : S} {l : List (Nat × SV)} {o : List (Nat × AO)} (hk : okS l o = true) (hn : okN G o = true) (hl : GeLr (gn G) s l) (ho : GeOr (gn G) s o) : Ge s (S.of l o) := by
 simp only [okS, Bool.and_eq_true, List.all_eq_true] at hk
 rw [okN, Bool.and_eq_true] at hn
 refine ⟨gn G, fun t => ?_, fun κ => ?_, fun κ κ' h1 h2 e => ?_, fun κ hκ => gn_pin hn.1 hκ, ⟨fun t κ h => ?_, fun t κ h => ?_⟩⟩
 ·show LE (s.ρ t) ((look l t).ren (gn G))
  rcases look_mem (l := l) (t := t) with e | e
  ·rw [e]; intro _ _ _ _ _; trivial
  ·exact hl.get _ _ e
 ·show OLE (s.η (gn G κ)) ((lookO o κ).ren (gn G))
  rcases lookO_mem (l := o) (t := κ) with e | e
  ·rw [e]; exact .inl rfl
  ·exact ho.get _ _ e
 ·have hin : ∀ κ, (lookO o κ).mine = true → (κ, lookO o κ) ∈ o := fun κ h => by
   rcases lookO_mem (l := o) (t := κ) with e | e
   ·rw [e] at h; cases h
   ·exact e
  have a := hin κ h1
  have b := hin κ' h2
  have := hn.2
  rw [List.all_eq_true] at this
  have := this _ a
  rw [List.all_eq_true] at this
  have := this _ b
  rw [Bool.or_eq_true] at this
  rcases this with h | h
  ·exact Nat.eq_of_beq_eq_true h
  ·have h : (!Nat.beq (gn G κ) (gn G κ')) = true := h
   rw [e] at h
   simp at h
 ·change κ ∈ (look l t).keys at h
  rcases look_mem (l := l) (t := t) with e | e
  ·rw [e] at h; cases h
  ·exact hk.1 _ e κ h
 ·change κ ∈ (lookO o t).keys at h
  rcases lookO_mem (l := o) (t := t) with e | e
  ·rw [e] at h; cases h
  ·exact hk.2 _ e κ h
theorem OLE.of {a b : AO} (h : a = b) : OLE a b := .inr (.inl h)
theorem goL {P Q : Prop} (h : Q) (e : Q → P := by (intro h; (repeat (conv => whnf); first|refine IndepAnd (by kernel_rfl) ?_|refine TreeAnd (by kernel_rfl) ?_|refine ⟨rfl,?_⟩|refine And.intro (by first|decide|exact trivial|exact ⟨rfl,trivial⟩|exact Nat.le_of_ble_eq_true rfl|exact ⟨_,rfl,rfl⟩|exact ⟨rfl,rfl,trivial⟩|exact ⟨rfl,rfl,rfl,trivial⟩|exact ⟨rfl,rfl,rfl,rfl,trivial⟩|exact ⟨rfl,rfl,rfl,rfl,rfl,trivial⟩|exact ⟨rfl,rfl,rfl,rfl,rfl,rfl,trivial⟩) ?_); (conv => whnf); exact h)) : P := e h
theorem goM {P Q : Prop} (h : Q) (e : Q → P := by (intro h; (repeat (conv => whnf); first|refine IndepAnd (by kernel_rfl) ?_|refine TreeAnd (by kernel_rfl) ?_|refine ⟨rfl,?_⟩|refine And.intro (by first|decide|exact trivial|exact Nat.le_of_ble_eq_true rfl|exact ⟨_,rfl,rfl⟩|exact ⟨rfl,trivial⟩|exact ⟨rfl,rfl,trivial⟩) ?_); (conv => whnf); exact h)) : P := e h
theorem goS {P Q : Prop} (h : Q) (e : Q → P := by (intro h; (repeat (conv => whnf); first|refine IndepAnd (by kernel_rfl) ?_|refine ⟨rfl,?_⟩|refine And.intro (by first|decide|exact trivial|exact ⟨_,rfl,rfl⟩|exact ⟨rfl,trivial⟩|exact ⟨rfl,rfl,trivial⟩) ?_); (conv => whnf); exact h)) : P := e h
theorem Ge.go {s : S} {l : List (Nat × SV)} {o : List (Nat × AO)} (hk : okS l o = true := by rfl) (hl : GeL s l := by ((repeat (conv => whnf); refine ⟨LE.of rfl, ?_⟩); trivial)) (ho : GeO s o := by ((repeat (conv => whnf); refine ⟨OLE.of rfl, ?_⟩); trivial)) : Ge s (S.of l o) := Ge.of hk hl ho
end Go.Vc
abbrev Bs := List UInt8
inductive Tm where
 | mk (kind : Int) (name : Bs) (kids : List Tm)
namespace Tm
def kind : Tm → Int | mk k _ _ => k
def name : Tm → Bs | mk _ n _ => n
def kids : Tm → List Tm | mk _ _ l => l
mutual
def size : Tm → Nat | mk _ _ l => sizes l + 1
def sizes : List Tm → Nat | [] => 0 | t :: ts => size t + sizes ts
end
mutual
def depth : Tm → Nat | mk _ _ l => depths l + 1
def depths : List Tm → Nat | [] => 0 | t :: ts => max (depth t) (depths ts)
end
mutual
def beq : Tm → Tm → Bool
 | mk k n l, mk k' n' l' => k == k' && (n == n' && beqs l l')
def beqs : List Tm → List Tm → Bool
 | [], [] => true
 | t :: ts, u :: us => beq t u && beqs ts us
 | _, _ => false
end
mutual
theorem beq_iff : ∀ t u, beq t u = true ↔ t = u
 | mk k n l, mk k' n' l' => by
  have := beqs_iff l l'
  simp [beq, this]
theorem beqs_iff : ∀ l l', beqs l l' = true ↔ l = l'
 | [], [] => by simp [beqs]
 | [], _ :: _ => by simp [beqs]
 | _ :: _, [] => by simp [beqs]
 | t :: ts, u :: us => by
  have h1 := beq_iff t u
  have h2 := beqs_iff ts us
  simp [beqs, h1, h2]
end
instance : DecidableEq Tm := fun t u =>
 if h : beq t u = true then .isTrue ((beq_iff t u).1 h) else .isFalse (fun e => h ((beq_iff t u).2 e))
theorem ind {P : Tm → Prop} (h : ∀ k n l, (∀ t ∈ l, P t) → P (mk k n l)) : ∀ t, P t := by
 intro t
 refine Tm.rec (motive_1 := P) (motive_2 := fun l => ∀ t ∈ l, P t) (fun k n l ih => h k n l ih) ?_ ?_ t
 ·intro t ht; cases ht
 ·intro t ts h1 h2 u hu
  cases hu with
  | head => exact h1
  | tail _ hm => exact h2 u hm
theorem size_mem {t : Tm} {l : List Tm} (h : t ∈ l) : size t ≤ sizes l := by
 induction l with
 | nil => cases h
 | cons a l ih =>
  simp only [sizes]
  cases h with
  | head => omega
  | tail _ hm => have := ih hm; omega
theorem size_pos (t : Tm) : 0 < size t := by cases t; simp [size]
theorem depth_mem {t : Tm} {l : List Tm} (h : t ∈ l) : depth t ≤ depths l := by
 induction l with
 | nil => cases h
 | cons a l ih =>
  simp only [depths]
  cases h with
  | head => omega
  | tail _ hm => have := ih hm; omega
end Tm
namespace Go.Sl
open Go Go.Vc Go.Proofs
def tiInt : TI := { k := 5, agg := false, sz := 1, bytes := 8, zero := .int .i64 0, flds := [], elem := 0, alen := 0 }
def tiU8 : TI := { k := 5, agg := false, sz := 1, bytes := 1, zero := .int .u8 0, flds := [], elem := 0, alen := 0 }
def tiBool : TI := { k := 6, agg := false, sz := 1, bytes := 1, zero := .bool false, flds := [], elem := 0, alen := 0 }
def tiStr : TI := { k := 4, agg := false, sz := 1, bytes := 16, zero := .str [], flds := [], elem := 0, alen := 0 }
def tiBytes : TI := { k := 2, agg := false, sz := 1, bytes := 24, zero := .nilS, flds := [], elem := 5, alen := 0 }
def tiTerms : TI := { k := 2, agg := false, sz := 1, bytes := 24, zero := .nilS, flds := [], elem := 26, alen := 0 }
def tiRows : TI := { k := 2, agg := false, sz := 1, bytes := 24, zero := .nilS, flds := [], elem := 24, alen := 0 }
def tiTerm : TI := { k := 1, agg := true, sz := 3, bytes := 48, zero := .agg [.int .i64 0, .str [], .nilS], flds := [(0, 1), (1, 1), (2, 1)], elem := 0, alen := 0 }
def tiStrs : TI := { k := 2, agg := false, sz := 1, bytes := 24, zero := .nilS, flds := [], elem := 9, alen := 0 }
def tiKind : TI := { k := 1, agg := true, sz := 3, bytes := 32, zero := .agg [.str [], .int .i64 0, .bool false], flds := [(0, 1), (1, 1), (2, 1)], elem := 0, alen := 0 }
def tiKinds : TI := { k := 3, agg := true, sz := 33, bytes := 352, zero := .agg (List.replicate 11 [PV.str [], .int .i64 0, .bool false]).flatten, flds := [], elem := 246, alen := 11 }
def tiMapS : TI := { k := 7, agg := false, sz := 1, bytes := 8, zero := .exact (.map none), flds := [], elem := 4, alen := 0 }
def tiMapW : TI := { k := 8, agg := false, sz := 1, bytes := 8, zero := .exact (.map none), flds := [], elem := 179, alen := 0 }
def tiWay : TI := { k := 1, agg := true, sz := 2, bytes := 16, zero := .agg [.exact .nilFunc, .exact .nilFunc], flds := [(0, 1), (1, 1)], elem := 0, alen := 0 }
def tiKnown : TI := { k := 1, agg := true, sz := 3, bytes := 40, zero := .agg [.nilS, .exact (.map none), .exact (.map none)], flds := [(0, 1), (1, 1), (2, 1)], elem := 0, alen := 0 }
def tiPKnown : TI := { k := 9, agg := false, sz := 1, bytes := 8, zero := .exact (.pointer none), flds := [], elem := 0, alen := 0 }
def tiFnB : TI := { k := 10, agg := false, sz := 1, bytes := 8, zero := .exact .nilFunc, flds := [], elem := 0, alen := 0 }
def tiFn : TI := { k := 0, agg := false, sz := 1, bytes := 8, zero := .exact .nilFunc, flds := [], elem := 0, alen := 0 }
def tiUint : TI := { k := 5, agg := false, sz := 1, bytes := 8, zero := .int .u64 0, flds := [], elem := 0, alen := 0 }
def tiTok : TI := { k := 1, agg := true, sz := 6, bytes := 48, zero := .agg [.int .i64 0, .int .i64 0, .int .i64 0, .int .i64 0, .int .i64 0, .int .i64 0], flds := [(0, 1), (1, 1), (2, 1), (3, 1), (4, 1), (5, 1)], elem := 0, alen := 0 }
def tiUser : TI := { k := 1, agg := true, sz := 15, bytes := 192, zero := .agg [.str [], .int .i64 0, .str [], .nilS, .nilS, .int .i64 0, .str [], .nilS, .int .i64 0, .int .i64 0, .int .i64 0, .int .i64 0, .int .i64 0, .int .i64 0, .int .i64 0], flds := [(0, 1), (1, 3), (4, 1), (5, 3), (8, 6), (14, 1)], elem := 0, alen := 0 }
def tiConfig : TI := { k := 1, agg := true, sz := 14, bytes := 216, zero := .agg [.str [], .int .i64 0, .str [], .nilS, .int .i64 0, .str [], .nilS, .int .i64 0, .int .i64 0, .str [], .nilS, .int .i64 0, .str [], .nilS], flds := [(0, 1), (1, 3), (4, 3), (7, 1), (8, 3), (11, 3)], elem := 0, alen := 0 }
def tiWStep : TI := { k := 1, agg := true, sz := 6, bytes := 72, zero := .agg [.int .i64 0, .int .i64 0, .int .i64 0, .int .i64 0, .str [], .nilS], flds := [(0, 1), (1, 1), (2, 1), (3, 3)], elem := 0, alen := 0 }
def tiTStep : TI := { k := 1, agg := true, sz := 6, bytes := 72, zero := .agg [.int .i64 0, .int .i64 0, .int .i64 0, .int .i64 0, .str [], .nilS], flds := [(0, 1), (1, 1), (2, 1), (3, 3)], elem := 0, alen := 0 }
def tiKdc : TI := { k := 1, agg := true, sz := 11, bytes := 152, zero := .agg [.int .i64 0, .str [], .nilS, .int .i64 0, .str [], .nilS, .exact (.pointer none), .int .i64 0, .exact (.pointer none), .int .i64 0, .nilS], flds := [(0, 3), (3, 3), (6, 1), (7, 1), (8, 1), (9, 1), (10, 1)], elem := 0, alen := 0 }
def tiCTalk : TI := { k := 1, agg := true, sz := 19, bytes := 264, zero := .agg [.bool false, .bool false, .bool false, .str [], .int .i64 0, .str [], .nilS, .int .i64 0, .str [], .nilS, .int .i64 0, .str [], .nilS, .int .i64 0, .str [], .nilS, .int .i64 0, .str [], .nilS], flds := [(0, 1), (1, 1), (2, 1), (3, 1), (4, 3), (7, 3), (10, 3), (13, 3), (16, 3)], elem := 0, alen := 0 }
def tiClient : TI := { k := 1, agg := true, sz := 37, bytes := 552, zero := .agg [.bool false, .bool false, .bool false, .str [], .int .i64 0, .str [], .nilS, .int .i64 0, .str [], .nilS, .int .i64 0, .str [], .nilS, .int .i64 0, .str [], .nilS, .int .i64 0, .str [], .nilS, .str [], .int .i64 0, .str [], .nilS, .int .i64 0, .str [], .nilS, .int .i64 0, .int .i64 0, .str [], .nilS, .int .i64 0, .str [], .nilS, .int .i64 0, .str [], .nilS, .nilS], flds := [(0, 19), (19, 14), (33, 3), (36, 1)], elem := 0, alen := 0 }
def tiCookie : TI := { k := 1, agg := true, sz := 7, bytes := 112, zero := .agg [.str [], .str [], .nilS, .int .i64 0, .str [], .nilS, .int .i64 0], flds := [(0, 1), (1, 1), (2, 1), (3, 3), (6, 1)], elem := 0, alen := 0 }
def tiKTalk : TI := { k := 1, agg := true, sz := 32, bytes := 456, zero := .agg [.str [], .str [], .nilS, .int .i64 0, .str [], .nilS, .int .i64 0, .int .i64 0, .str [], .nilS, .int .i64 0, .str [], .nilS, .int .i64 0, .str [], .nilS, .str [], .int .i64 0, .str [], .nilS, .nilS, .int .i64 0, .str [], .nilS, .int .i64 0, .int .i64 0, .int .i64 0, .int .i64 0, .int .i64 0, .int .i64 0, .int .i64 0, .int .i64 0], flds := [(0, 7), (7, 3), (10, 3), (13, 3), (16, 15), (31, 1)], elem := 0, alen := 0 }
def tiProof : TI := { k := 1, agg := true, sz := 4, bytes := 72, zero := .agg [.int .i64 0, .str [], .nilS, .nilS], flds := [(0, 3), (3, 1)], elem := 0, alen := 0 }
def tiIssue : TI := { k := 1, agg := true, sz := 6, bytes := 104, zero := .agg [.str [], .str [], .nilS, .int .i64 0, .str [], .nilS], flds := [(0, 1), (1, 1), (2, 1), (3, 3)], elem := 0, alen := 0 }
def tiMark : TI := { k := 1, agg := true, sz := 2, bytes := 32, zero := .agg [.str [], .str []], flds := [(0, 1), (1, 1)], elem := 0, alen := 0 }
def tiWrld : TI := { k := 1, agg := true, sz := 10, bytes := 176, zero := .agg [.exact (.pointer none), .nilS, .nilS, .nilS, .nilS, .nilS, .nilS, .bool false, .int .i64 0, .int .i64 0], flds := [(0, 1), (1, 1), (2, 1), (3, 1), (4, 1), (5, 1), (6, 1), (7, 1), (8, 1), (9, 1)], elem := 0, alen := 0 }
def tiBase : TI := { k := 1, agg := true, sz := 1, bytes := 24, zero := .agg [.nilS], flds := [(0, 1)], elem := 0, alen := 0 }
def tiCache : TI := { k := 1, agg := true, sz := 2, bytes := 16, zero := .agg [.int .i64 0, .exact (.map none)], flds := [(0, 1), (1, 1)], elem := 0, alen := 0 }
def tiExch : TI := { k := 1, agg := true, sz := 18, bytes := 288, zero := .agg [.int .i64 0, .str [], .nilS, .int .i64 0, .str [], .nilS, .int .i64 0, .str [], .nilS, .int .i64 0, .str [], .nilS, .int .i64 0, .str [], .nilS, .int .i64 0, .str [], .nilS], flds := [(0, 3), (3, 3), (6, 3), (9, 3), (12, 3), (15, 3)], elem := 0, alen := 0 }
def tiCBody : TI := { k := 1, agg := true, sz := 3, bytes := 48, zero := .agg [.int .i64 0, .str [], .nilS], flds := [(0, 3)], elem := 0, alen := 0 }
def tiUsers : TI := { k := 2, agg := false, sz := 1, bytes := 24, zero := .nilS, flds := [], elem := 31, alen := 0 }
def tiIssues : TI := { k := 2, agg := false, sz := 1, bytes := 24, zero := .nilS, flds := [], elem := 113, alen := 0 }
def tiMarks : TI := { k := 2, agg := false, sz := 1, bytes := 24, zero := .nilS, flds := [], elem := 227, alen := 0 }
def tiInts : TI := { k := 2, agg := false, sz := 1, bytes := 24, zero := .nilS, flds := [], elem := 3, alen := 0 }
def tiBools : TI := { k := 2, agg := false, sz := 1, bytes := 24, zero := .nilS, flds := [], elem := 4, alen := 0 }
def tiPClients : TI := { k := 2, agg := false, sz := 1, bytes := 24, zero := .nilS, flds := [], elem := 37, alen := 0 }
def tiSets : TI := { k := 2, agg := false, sz := 1, bytes := 24, zero := .nilS, flds := [], elem := 23, alen := 0 }
def tiSteps : TI := { k := 2, agg := false, sz := 1, bytes := 24, zero := .nilS, flds := [], elem := 119, alen := 0 }
def tiReads : TI := { k := 2, agg := false, sz := 1, bytes := 24, zero := .nilS, flds := [], elem := 204, alen := 0 }
def tiPKdc : TI := { k := 9, agg := false, sz := 1, bytes := 8, zero := .exact (.pointer none), flds := [], elem := 0, alen := 0 }
def tiPClient : TI := { k := 9, agg := false, sz := 1, bytes := 8, zero := .exact (.pointer none), flds := [], elem := 0, alen := 0 }
def tiPWorld : TI := { k := 9, agg := false, sz := 1, bytes := 8, zero := .exact (.pointer none), flds := [], elem := 0, alen := 0 }
def tiPBase : TI := { k := 9, agg := false, sz := 1, bytes := 8, zero := .exact (.pointer none), flds := [], elem := 0, alen := 0 }
def tiPCache : TI := { k := 9, agg := false, sz := 1, bytes := 8, zero := .exact (.pointer none), flds := [], elem := 0, alen := 0 }
def tiPCTalk : TI := { k := 9, agg := false, sz := 1, bytes := 8, zero := .exact (.pointer none), flds := [], elem := 0, alen := 0 }
def tiPUser : TI := { k := 9, agg := false, sz := 1, bytes := 8, zero := .exact (.pointer none), flds := [], elem := 0, alen := 0 }
def tiPCookie : TI := { k := 9, agg := false, sz := 1, bytes := 8, zero := .exact (.pointer none), flds := [], elem := 0, alen := 0 }
def tiFnRead : TI := { k := 10, agg := false, sz := 1, bytes := 8, zero := .exact .nilFunc, flds := [], elem := 0, alen := 0 }
def tiFnInt : TI := { k := 10, agg := false, sz := 1, bytes := 8, zero := .exact .nilFunc, flds := [], elem := 0, alen := 0 }
def tiFnUser : TI := { k := 10, agg := false, sz := 1, bytes := 8, zero := .exact .nilFunc, flds := [], elem := 0, alen := 0 }
def tiFnIntB : TI := { k := 10, agg := false, sz := 1, bytes := 8, zero := .exact .nilFunc, flds := [], elem := 0, alen := 0 }
def tiErr : TI := { k := 11, agg := false, sz := 1, bytes := 16, zero := .exact .nilIface, flds := [], elem := 0, alen := 0 }
def tiMapI : TI := { k := 7, agg := false, sz := 1, bytes := 8, zero := .exact (.map none), flds := [], elem := 3, alen := 0 }
def tiI32 : TI := { k := 5, agg := false, sz := 1, bytes := 4, zero := .int .i32 0, flds := [], elem := 0, alen := 0 }
def tiCx : TI := { k := 0, agg := false, sz := 1, bytes := 16, zero := .exact (.complex .f64 0 0), flds := [], elem := 0, alen := 0 }
def tiCx4 : TI := { k := 3, agg := true, sz := 4, bytes := 64, zero := .agg [.exact (.complex .f64 0 0), .exact (.complex .f64 0 0), .exact (.complex .f64 0 0), .exact (.complex .f64 0 0)], flds := [], elem := 72, alen := 4 }
noncomputable def T (t : Nat) : Option TI :=
 cond (Nat.beq t 3) (some tiInt) <|
 cond (Nat.beq t 4) (some tiBool) <|
 cond (Nat.beq t 5) (some tiU8) <|
 cond (Nat.beq t 9) (some tiStr) <|
 cond (Nat.beq t 24) (some tiTerms) <|
 cond (Nat.beq t 26) (some tiTerm) <|
 cond (Nat.beq t 33) (some tiInt) <|
 cond (Nat.beq t 183) (some tiRows) <|
 cond (Nat.beq t 71) (some tiBytes) <|
 cond (Nat.beq t 23) (some tiStrs) <|
 cond (Nat.beq t 246) (some tiKind) <|
 cond (Nat.beq t 247) (some tiKinds) <|
 cond (Nat.beq t 174) (some tiMapS) <|
 cond (Nat.beq t 172) (some tiMapW) <|
 cond (Nat.beq t 179) (some tiWay) <|
 cond (Nat.beq t 176) (some tiKnown) <|
 cond (Nat.beq t 120) (some tiPKnown) <|
 cond (Nat.beq t 177) (some tiFn) <|
 cond (Nat.beq t 189) (some tiUint) <|
 cond (Nat.beq t 59) (some tiFnB) <|
 cond (Nat.beq t 29) (some tiTok) <|
 cond (Nat.beq t 31) (some tiUser) <|
 cond (Nat.beq t 41) (some tiConfig) <|
 cond (Nat.beq t 66) (some tiWStep) <|
 cond (Nat.beq t 119) (some tiTStep) <|
 cond (Nat.beq t 79) (some tiKdc) <|
 cond (Nat.beq t 82) (some tiCTalk) <|
 cond (Nat.beq t 85) (some tiClient) <|
 cond (Nat.beq t 92) (some tiCookie) <|
 cond (Nat.beq t 94) (some tiKTalk) <|
 cond (Nat.beq t 101) (some tiProof) <|
 cond (Nat.beq t 113) (some tiIssue) <|
 cond (Nat.beq t 227) (some tiMark) <|
 cond (Nat.beq t 117) (some tiWrld) <|
 cond (Nat.beq t 135) (some tiBase) <|
 cond (Nat.beq t 197) (some tiCache) <|
 cond (Nat.beq t 243) (some tiExch) <|
 cond (Nat.beq t 203) (some tiCBody) <|
 cond (Nat.beq t 36) (some tiUsers) <|
 cond (Nat.beq t 47) (some tiIssues) <|
 cond (Nat.beq t 83) (some tiMarks) <|
 cond (Nat.beq t 99) (some tiInts) <|
 cond (Nat.beq t 114) (some tiBools) <|
 cond (Nat.beq t 115) (some tiPClients) <|
 cond (Nat.beq t 54) (some tiSets) <|
 cond (Nat.beq t 50) (some tiSteps) <|
 cond (Nat.beq t 206) (some tiReads) <|
 cond (Nat.beq t 32) (some tiPKdc) <|
 cond (Nat.beq t 37) (some tiPClient) <|
 cond (Nat.beq t 51) (some tiPWorld) <|
 cond (Nat.beq t 74) (some tiPBase) <|
 cond (Nat.beq t 77) (some tiPCache) <|
 cond (Nat.beq t 142) (some tiPCTalk) <|
 cond (Nat.beq t 190) (some tiPUser) <|
 cond (Nat.beq t 207) (some tiPCookie) <|
 cond (Nat.beq t 204) (some tiFnRead) <|
 cond (Nat.beq t 188) (some tiFnInt) <|
 cond (Nat.beq t 138) (some tiFnUser) <|
 cond (Nat.beq t 123) (some tiFnIntB) <|
 cond (Nat.beq t 168) (some tiErr) <|
 cond (Nat.beq t 195) (some tiMapI) <|
 cond (Nat.beq t 21) (some tiI32) <|
 cond (Nat.beq t 72) (some tiCx) <|
 cond (Nat.beq t 132) (some tiCx4) <|
 none
theorem ite_some {t n : Nat} {ti x : TI} {r : Option TI} (h : (if t = n then some x else r) = some ti) : (t = n ∧ some x = some ti) ∨ r = some ti := by
 split at h
 ·exact .inl ⟨by assumption, h⟩
 ·exact .inr h
theorem T_ok (t : Nat) (ti : TI) (h : T t = some ti) : TyOk Tryz.prog t ti := by
 simp only [T, beq_ite] at h
 rcases ite_some h with ⟨e, h⟩ | h; · { subst e; cases h; exact TyOk.of (z := .int .i64 0) (d := .int .i64) (by kernel_rfl) Tryz.underlying3 rfl rfl ⟨rfl, rfl, rfl⟩ (fun _ => rfl) (by intro h; cases h) }
 rcases ite_some h with ⟨e, h⟩ | h; · { subst e; cases h; exact TyOk.of (z := .bool false) (d := .bool) (by kernel_rfl) Tryz.underlying4 rfl rfl ⟨rfl, rfl⟩ (fun _ => rfl) (by intro h; cases h) }
 rcases ite_some h with ⟨e, h⟩ | h; · { subst e; cases h; exact TyOk.of (z := .int .u8 0) (d := .int .u8) (by kernel_rfl) Tryz.underlying5 rfl rfl ⟨rfl, rfl, rfl⟩ (fun _ => rfl) (by intro h; cases h) }
 rcases ite_some h with ⟨e, h⟩ | h; · { subst e; cases h; exact TyOk.of (z := .string ⟨#[]⟩) (d := .string) (by kernel_rfl) Tryz.underlying9 rfl rfl ⟨rfl, rfl⟩ (fun _ => rfl) (by intro h; cases h) }
 rcases ite_some h with ⟨e, h⟩ | h; · { subst e; cases h; exact TyOk.of (z := .slice none 0 0) (d := .slice 26) (by kernel_rfl) Tryz.underlying24 rfl rfl ⟨rfl, rfl, rfl⟩ (fun _ => rfl) (by intro h; cases h) }
 rcases ite_some h with ⟨e, h⟩ | h; · { subst e; cases h; exact TyOk.of (z := .agg #[.int .i64 0, .string ⟨#[]⟩, .slice none 0 0]) (by kernel_rfl) Tryz.underlying26 rfl rfl ⟨rfl, rfl, by kernel_rfl, by kernel_rfl⟩ (by intro h; cases h) (fun _ => rfl) }
 rcases ite_some h with ⟨e, h⟩ | h; · { subst e; cases h; exact TyOk.of (z := .int .i64 0) (d := .int .i64) (by kernel_rfl) Tryz.underlying33 rfl rfl ⟨rfl, rfl, rfl⟩ (fun _ => rfl) (by intro h; cases h) }
 rcases ite_some h with ⟨e, h⟩ | h; · { subst e; cases h; exact TyOk.of (z := .slice none 0 0) (d := .slice 24) (by kernel_rfl) Tryz.underlying183 rfl rfl ⟨rfl, rfl, rfl⟩ (fun _ => rfl) (by intro h; cases h) }
 rcases ite_some h with ⟨e, h⟩ | h; · { subst e; cases h; exact TyOk.of (z := .slice none 0 0) (d := .slice 5) (by kernel_rfl) Tryz.underlying71 rfl rfl ⟨rfl, rfl, rfl⟩ (fun _ => rfl) (by intro h; cases h) }
 rcases ite_some h with ⟨e, h⟩ | h; · { subst e; cases h; exact TyOk.of (z := .slice none 0 0) (d := .slice 9) (by kernel_rfl) Tryz.underlying23 rfl rfl ⟨rfl, rfl, rfl⟩ (fun _ => rfl) (by intro h; cases h) }
 rcases ite_some h with ⟨e, h⟩ | h; · { subst e; cases h; exact TyOk.of (z := .agg #[.string ⟨#[]⟩, .int .i64 0, .bool false]) (by kernel_rfl) Tryz.underlying246 rfl rfl ⟨rfl, rfl, by kernel_rfl, by kernel_rfl⟩ (by intro h; cases h) (fun _ => rfl) }
 rcases ite_some h with ⟨e, h⟩ | h; · { subst e; cases h; exact TyOk.of (z := .agg (List.replicate 11 [Value.string ⟨#[]⟩, .int .i64 0, .bool false]).flatten.toArray) (d := .array 11 246) (by kernel_rfl) Tryz.underlying247 rfl rfl ⟨rfl, rfl, rfl, rfl⟩ (by intro h; cases h) (fun _ => rfl) }
 rcases ite_some h with ⟨e, h⟩ | h; · { subst e; cases h; exact TyOk.of (z := .map none) (by kernel_rfl) Tryz.underlying174 rfl rfl ⟨rfl, rfl, .inl ⟨rfl, Tryz.underlying9⟩⟩ (fun _ => rfl) (by intro h; cases h) }
 rcases ite_some h with ⟨e, h⟩ | h; · { subst e; cases h; exact TyOk.of (z := .map none) (by kernel_rfl) Tryz.underlying172 rfl rfl ⟨rfl, rfl, .inr ⟨rfl, Tryz.underlying3⟩⟩ (fun _ => rfl) (by intro h; cases h) }
 rcases ite_some h with ⟨e, h⟩ | h; · { subst e; cases h; exact TyOk.of (z := .agg #[.nilFunc, .nilFunc]) (by kernel_rfl) Tryz.underlying179 rfl rfl ⟨rfl, rfl, by kernel_rfl, by kernel_rfl⟩ (by intro h; cases h) (fun _ => rfl) }
 rcases ite_some h with ⟨e, h⟩ | h; · { subst e; cases h; exact TyOk.of (z := .agg #[.slice none 0 0, .map none, .map none]) (by kernel_rfl) Tryz.underlying176 rfl rfl ⟨rfl, rfl, by kernel_rfl, by kernel_rfl⟩ (by intro h; cases h) (fun _ => rfl) }
 rcases ite_some h with ⟨e, h⟩ | h; · { subst e; cases h; exact TyOk.of (z := .pointer none) (by kernel_rfl) Tryz.underlying120 rfl rfl ⟨.inr rfl, rfl⟩ (fun _ => rfl) (by intro h; cases h) }
 rcases ite_some h with ⟨e, h⟩ | h; · { subst e; cases h; exact TyOk.of (z := .nilFunc) (by kernel_rfl) Tryz.underlying177 rfl rfl ⟨.inl rfl, rfl⟩ (fun _ => rfl) (by intro h; cases h) }
 rcases ite_some h with ⟨e, h⟩ | h; · { subst e; cases h; exact TyOk.of (z := .int .u64 0) (d := .int .u64) (by kernel_rfl) Tryz.underlying189 rfl rfl ⟨rfl, rfl, rfl⟩ (fun _ => rfl) (by intro h; cases h) }
 rcases ite_some h with ⟨e, h⟩ | h; · { subst e; cases h; exact TyOk.of (z := .nilFunc) (by kernel_rfl) Tryz.underlying59 rfl rfl ⟨.inr rfl, rfl⟩ (fun _ => rfl) (by intro h; cases h) }
 rcases ite_some h with ⟨e, h⟩ | h; · { subst e; cases h; exact TyOk.of (z := .agg #[.int .i64 0, .int .i64 0, .int .i64 0, .int .i64 0, .int .i64 0, .int .i64 0]) (by kernel_rfl) Tryz.underlying29 rfl rfl ⟨rfl, rfl, by kernel_rfl, by kernel_rfl⟩ (by intro h; cases h) (fun _ => rfl) }
 rcases ite_some h with ⟨e, h⟩ | h; · { subst e; cases h; exact TyOk.of (z := .agg #[.string ⟨#[]⟩, .int .i64 0, .string ⟨#[]⟩, .slice none 0 0, .slice none 0 0, .int .i64 0, .string ⟨#[]⟩, .slice none 0 0, .int .i64 0, .int .i64 0, .int .i64 0, .int .i64 0, .int .i64 0, .int .i64 0, .int .i64 0]) (by kernel_rfl) Tryz.underlying31 rfl rfl ⟨rfl, rfl, by kernel_rfl, by kernel_rfl⟩ (by intro h; cases h) (fun _ => rfl) }
 rcases ite_some h with ⟨e, h⟩ | h; · { subst e; cases h; exact TyOk.of (z := .agg #[.string ⟨#[]⟩, .int .i64 0, .string ⟨#[]⟩, .slice none 0 0, .int .i64 0, .string ⟨#[]⟩, .slice none 0 0, .int .i64 0, .int .i64 0, .string ⟨#[]⟩, .slice none 0 0, .int .i64 0, .string ⟨#[]⟩, .slice none 0 0]) (by kernel_rfl) Tryz.underlying41 rfl rfl ⟨rfl, rfl, by kernel_rfl, by kernel_rfl⟩ (by intro h; cases h) (fun _ => rfl) }
 rcases ite_some h with ⟨e, h⟩ | h; · { subst e; cases h; exact TyOk.of (z := .agg #[.int .i64 0, .int .i64 0, .int .i64 0, .int .i64 0, .string ⟨#[]⟩, .slice none 0 0]) (by kernel_rfl) Tryz.underlying66 rfl rfl ⟨rfl, rfl, by kernel_rfl, by kernel_rfl⟩ (by intro h; cases h) (fun _ => rfl) }
 rcases ite_some h with ⟨e, h⟩ | h; · { subst e; cases h; exact TyOk.of (z := .agg #[.int .i64 0, .int .i64 0, .int .i64 0, .int .i64 0, .string ⟨#[]⟩, .slice none 0 0]) (by kernel_rfl) Tryz.underlying119 rfl rfl ⟨rfl, rfl, by kernel_rfl, by kernel_rfl⟩ (by intro h; cases h) (fun _ => rfl) }
 rcases ite_some h with ⟨e, h⟩ | h; · { subst e; cases h; exact TyOk.of (z := .agg #[.int .i64 0, .string ⟨#[]⟩, .slice none 0 0, .int .i64 0, .string ⟨#[]⟩, .slice none 0 0, .pointer none, .int .i64 0, .pointer none, .int .i64 0, .slice none 0 0]) (by kernel_rfl) Tryz.underlying79 rfl rfl ⟨rfl, rfl, by kernel_rfl, by kernel_rfl⟩ (by intro h; cases h) (fun _ => rfl) }
 rcases ite_some h with ⟨e, h⟩ | h; · { subst e; cases h; exact TyOk.of (z := .agg #[.bool false, .bool false, .bool false, .string ⟨#[]⟩, .int .i64 0, .string ⟨#[]⟩, .slice none 0 0, .int .i64 0, .string ⟨#[]⟩, .slice none 0 0, .int .i64 0, .string ⟨#[]⟩, .slice none 0 0, .int .i64 0, .string ⟨#[]⟩, .slice none 0 0, .int .i64 0, .string ⟨#[]⟩, .slice none 0 0]) (by kernel_rfl) Tryz.underlying82 rfl rfl ⟨rfl, rfl, by kernel_rfl, by kernel_rfl⟩ (by intro h; cases h) (fun _ => rfl) }
 rcases ite_some h with ⟨e, h⟩ | h; · { subst e; cases h; exact TyOk.of (z := .agg #[.bool false, .bool false, .bool false, .string ⟨#[]⟩, .int .i64 0, .string ⟨#[]⟩, .slice none 0 0, .int .i64 0, .string ⟨#[]⟩, .slice none 0 0, .int .i64 0, .string ⟨#[]⟩, .slice none 0 0, .int .i64 0, .string ⟨#[]⟩, .slice none 0 0, .int .i64 0, .string ⟨#[]⟩, .slice none 0 0, .string ⟨#[]⟩, .int .i64 0, .string ⟨#[]⟩, .slice none 0 0, .int .i64 0, .string ⟨#[]⟩, .slice none 0 0, .int .i64 0, .int .i64 0, .string ⟨#[]⟩, .slice none 0 0, .int .i64 0, .string ⟨#[]⟩, .slice none 0 0, .int .i64 0, .string ⟨#[]⟩, .slice none 0 0, .slice none 0 0]) (by kernel_rfl) Tryz.underlying85 rfl rfl ⟨rfl, rfl, by kernel_rfl, by kernel_rfl⟩ (by intro h; cases h) (fun _ => rfl) }
 rcases ite_some h with ⟨e, h⟩ | h; · { subst e; cases h; exact TyOk.of (z := .agg #[.string ⟨#[]⟩, .string ⟨#[]⟩, .slice none 0 0, .int .i64 0, .string ⟨#[]⟩, .slice none 0 0, .int .i64 0]) (by kernel_rfl) Tryz.underlying92 rfl rfl ⟨rfl, rfl, by kernel_rfl, by kernel_rfl⟩ (by intro h; cases h) (fun _ => rfl) }
 rcases ite_some h with ⟨e, h⟩ | h; · { subst e; cases h; exact TyOk.of (z := .agg #[.string ⟨#[]⟩, .string ⟨#[]⟩, .slice none 0 0, .int .i64 0, .string ⟨#[]⟩, .slice none 0 0, .int .i64 0, .int .i64 0, .string ⟨#[]⟩, .slice none 0 0, .int .i64 0, .string ⟨#[]⟩, .slice none 0 0, .int .i64 0, .string ⟨#[]⟩, .slice none 0 0, .string ⟨#[]⟩, .int .i64 0, .string ⟨#[]⟩, .slice none 0 0, .slice none 0 0, .int .i64 0, .string ⟨#[]⟩, .slice none 0 0, .int .i64 0, .int .i64 0, .int .i64 0, .int .i64 0, .int .i64 0, .int .i64 0, .int .i64 0, .int .i64 0]) (by kernel_rfl) Tryz.underlying94 rfl rfl ⟨rfl, rfl, by kernel_rfl, by kernel_rfl⟩ (by intro h; cases h) (fun _ => rfl) }
 rcases ite_some h with ⟨e, h⟩ | h; · { subst e; cases h; exact TyOk.of (z := .agg #[.int .i64 0, .string ⟨#[]⟩, .slice none 0 0, .slice none 0 0]) (by kernel_rfl) Tryz.underlying101 rfl rfl ⟨rfl, rfl, by kernel_rfl, by kernel_rfl⟩ (by intro h; cases h) (fun _ => rfl) }
 rcases ite_some h with ⟨e, h⟩ | h; · { subst e; cases h; exact TyOk.of (z := .agg #[.string ⟨#[]⟩, .string ⟨#[]⟩, .slice none 0 0, .int .i64 0, .string ⟨#[]⟩, .slice none 0 0]) (by kernel_rfl) Tryz.underlying113 rfl rfl ⟨rfl, rfl, by kernel_rfl, by kernel_rfl⟩ (by intro h; cases h) (fun _ => rfl) }
 rcases ite_some h with ⟨e, h⟩ | h; · { subst e; cases h; exact TyOk.of (z := .agg #[.string ⟨#[]⟩, .string ⟨#[]⟩]) (by kernel_rfl) Tryz.underlying227 rfl rfl ⟨rfl, rfl, by kernel_rfl, by kernel_rfl⟩ (by intro h; cases h) (fun _ => rfl) }
 rcases ite_some h with ⟨e, h⟩ | h; · { subst e; cases h; exact TyOk.of (z := .agg #[.pointer none, .slice none 0 0, .slice none 0 0, .slice none 0 0, .slice none 0 0, .slice none 0 0, .slice none 0 0, .bool false, .int .i64 0, .int .i64 0]) (by kernel_rfl) Tryz.underlying117 rfl rfl ⟨rfl, rfl, by kernel_rfl, by kernel_rfl⟩ (by intro h; cases h) (fun _ => rfl) }
 rcases ite_some h with ⟨e, h⟩ | h; · { subst e; cases h; exact TyOk.of (z := .agg #[.slice none 0 0]) (by kernel_rfl) Tryz.underlying135 rfl rfl ⟨rfl, rfl, by kernel_rfl, by kernel_rfl⟩ (by intro h; cases h) (fun _ => rfl) }
 rcases ite_some h with ⟨e, h⟩ | h; · { subst e; cases h; exact TyOk.of (z := .agg #[.int .i64 0, .map none]) (by kernel_rfl) Tryz.underlying197 rfl rfl ⟨rfl, rfl, by kernel_rfl, by kernel_rfl⟩ (by intro h; cases h) (fun _ => rfl) }
 rcases ite_some h with ⟨e, h⟩ | h; · { subst e; cases h; exact TyOk.of (z := .agg #[.int .i64 0, .string ⟨#[]⟩, .slice none 0 0, .int .i64 0, .string ⟨#[]⟩, .slice none 0 0, .int .i64 0, .string ⟨#[]⟩, .slice none 0 0, .int .i64 0, .string ⟨#[]⟩, .slice none 0 0, .int .i64 0, .string ⟨#[]⟩, .slice none 0 0, .int .i64 0, .string ⟨#[]⟩, .slice none 0 0]) (by kernel_rfl) Tryz.underlying243 rfl rfl ⟨rfl, rfl, by kernel_rfl, by kernel_rfl⟩ (by intro h; cases h) (fun _ => rfl) }
 rcases ite_some h with ⟨e, h⟩ | h; · { subst e; cases h; exact TyOk.of (z := .agg #[.int .i64 0, .string ⟨#[]⟩, .slice none 0 0]) (by kernel_rfl) Tryz.underlying203 rfl rfl ⟨rfl, rfl, by kernel_rfl, by kernel_rfl⟩ (by intro h; cases h) (fun _ => rfl) }
 rcases ite_some h with ⟨e, h⟩ | h; · { subst e; cases h; exact TyOk.of (z := .slice none 0 0) (d := .slice 31) (by kernel_rfl) Tryz.underlying36 rfl rfl ⟨rfl, rfl, rfl⟩ (fun _ => rfl) (by intro h; cases h) }
 rcases ite_some h with ⟨e, h⟩ | h; · { subst e; cases h; exact TyOk.of (z := .slice none 0 0) (d := .slice 113) (by kernel_rfl) Tryz.underlying47 rfl rfl ⟨rfl, rfl, rfl⟩ (fun _ => rfl) (by intro h; cases h) }
 rcases ite_some h with ⟨e, h⟩ | h; · { subst e; cases h; exact TyOk.of (z := .slice none 0 0) (d := .slice 227) (by kernel_rfl) Tryz.underlying83 rfl rfl ⟨rfl, rfl, rfl⟩ (fun _ => rfl) (by intro h; cases h) }
 rcases ite_some h with ⟨e, h⟩ | h; · { subst e; cases h; exact TyOk.of (z := .slice none 0 0) (d := .slice 3) (by kernel_rfl) Tryz.underlying99 rfl rfl ⟨rfl, rfl, rfl⟩ (fun _ => rfl) (by intro h; cases h) }
 rcases ite_some h with ⟨e, h⟩ | h; · { subst e; cases h; exact TyOk.of (z := .slice none 0 0) (d := .slice 4) (by kernel_rfl) Tryz.underlying114 rfl rfl ⟨rfl, rfl, rfl⟩ (fun _ => rfl) (by intro h; cases h) }
 rcases ite_some h with ⟨e, h⟩ | h; · { subst e; cases h; exact TyOk.of (z := .slice none 0 0) (d := .slice 37) (by kernel_rfl) Tryz.underlying115 rfl rfl ⟨rfl, rfl, rfl⟩ (fun _ => rfl) (by intro h; cases h) }
 rcases ite_some h with ⟨e, h⟩ | h; · { subst e; cases h; exact TyOk.of (z := .slice none 0 0) (d := .slice 23) (by kernel_rfl) Tryz.underlying54 rfl rfl ⟨rfl, rfl, rfl⟩ (fun _ => rfl) (by intro h; cases h) }
 rcases ite_some h with ⟨e, h⟩ | h; · { subst e; cases h; exact TyOk.of (z := .slice none 0 0) (d := .slice 119) (by kernel_rfl) Tryz.underlying50 rfl rfl ⟨rfl, rfl, rfl⟩ (fun _ => rfl) (by intro h; cases h) }
 rcases ite_some h with ⟨e, h⟩ | h; · { subst e; cases h; exact TyOk.of (z := .slice none 0 0) (d := .slice 204) (by kernel_rfl) Tryz.underlying206 rfl rfl ⟨rfl, rfl, rfl⟩ (fun _ => rfl) (by intro h; cases h) }
 rcases ite_some h with ⟨e, h⟩ | h; · { subst e; cases h; exact TyOk.of (z := .pointer none) (by kernel_rfl) Tryz.underlying32 rfl rfl ⟨.inr rfl, rfl⟩ (fun _ => rfl) (by intro h; cases h) }
 rcases ite_some h with ⟨e, h⟩ | h; · { subst e; cases h; exact TyOk.of (z := .pointer none) (by kernel_rfl) Tryz.underlying37 rfl rfl ⟨.inr rfl, rfl⟩ (fun _ => rfl) (by intro h; cases h) }
 rcases ite_some h with ⟨e, h⟩ | h; · { subst e; cases h; exact TyOk.of (z := .pointer none) (by kernel_rfl) Tryz.underlying51 rfl rfl ⟨.inr rfl, rfl⟩ (fun _ => rfl) (by intro h; cases h) }
 rcases ite_some h with ⟨e, h⟩ | h; · { subst e; cases h; exact TyOk.of (z := .pointer none) (by kernel_rfl) Tryz.underlying74 rfl rfl ⟨.inr rfl, rfl⟩ (fun _ => rfl) (by intro h; cases h) }
 rcases ite_some h with ⟨e, h⟩ | h; · { subst e; cases h; exact TyOk.of (z := .pointer none) (by kernel_rfl) Tryz.underlying77 rfl rfl ⟨.inr rfl, rfl⟩ (fun _ => rfl) (by intro h; cases h) }
 rcases ite_some h with ⟨e, h⟩ | h; · { subst e; cases h; exact TyOk.of (z := .pointer none) (by kernel_rfl) Tryz.underlying142 rfl rfl ⟨.inr rfl, rfl⟩ (fun _ => rfl) (by intro h; cases h) }
 rcases ite_some h with ⟨e, h⟩ | h; · { subst e; cases h; exact TyOk.of (z := .pointer none) (by kernel_rfl) Tryz.underlying190 rfl rfl ⟨.inr rfl, rfl⟩ (fun _ => rfl) (by intro h; cases h) }
 rcases ite_some h with ⟨e, h⟩ | h; · { subst e; cases h; exact TyOk.of (z := .pointer none) (by kernel_rfl) Tryz.underlying207 rfl rfl ⟨.inr rfl, rfl⟩ (fun _ => rfl) (by intro h; cases h) }
 rcases ite_some h with ⟨e, h⟩ | h; · { subst e; cases h; exact TyOk.of (z := .nilFunc) (by kernel_rfl) Tryz.underlying204 rfl rfl ⟨.inr rfl, rfl⟩ (fun _ => rfl) (by intro h; cases h) }
 rcases ite_some h with ⟨e, h⟩ | h; · { subst e; cases h; exact TyOk.of (z := .nilFunc) (by kernel_rfl) Tryz.underlying188 rfl rfl ⟨.inr rfl, rfl⟩ (fun _ => rfl) (by intro h; cases h) }
 rcases ite_some h with ⟨e, h⟩ | h; · { subst e; cases h; exact TyOk.of (z := .nilFunc) (by kernel_rfl) Tryz.underlying138 rfl rfl ⟨.inr rfl, rfl⟩ (fun _ => rfl) (by intro h; cases h) }
 rcases ite_some h with ⟨e, h⟩ | h; · { subst e; cases h; exact TyOk.of (z := .nilFunc) (by kernel_rfl) Tryz.underlying123 rfl rfl ⟨.inr rfl, rfl⟩ (fun _ => rfl) (by intro h; cases h) }
 rcases ite_some h with ⟨e, h⟩ | h; · { subst e; cases h; exact TyOk.of (z := .nilIface) (by kernel_rfl) Tryz.underlying168 rfl rfl ⟨.inr rfl, rfl⟩ (fun _ => rfl) (by intro h; cases h) }
 rcases ite_some h with ⟨e, h⟩ | h; · { subst e; cases h; exact TyOk.of (z := .map none) (by kernel_rfl) Tryz.underlying195 rfl rfl ⟨rfl, rfl, .inl ⟨rfl, Tryz.underlying9⟩⟩ (fun _ => rfl) (by intro h; cases h) }
 rcases ite_some h with ⟨e, h⟩ | h; · { subst e; cases h; exact TyOk.of (z := .int .i32 0) (d := .int .i32) (by kernel_rfl) Tryz.underlying21 rfl rfl ⟨rfl, rfl, rfl⟩ (fun _ => rfl) (by intro h; cases h) }
 rcases ite_some h with ⟨e, h⟩ | h; · { subst e; cases h; exact TyOk.of (z := .complex .f64 0 0) (by kernel_rfl) Tryz.underlying72 rfl rfl ⟨rfl, rfl⟩ (fun _ => rfl) (by intro h; cases h) }
 rcases ite_some h with ⟨e, h⟩ | h; · { subst e; cases h; exact TyOk.of (z := .agg #[.complex .f64 0 0, .complex .f64 0 0, .complex .f64 0 0, .complex .f64 0 0]) (d := .array 4 72) (by kernel_rfl) Tryz.underlying132 rfl rfl ⟨rfl, rfl, rfl, rfl⟩ (by intro h; cases h) (fun _ => rfl) }
 cases h
def X10 (w : World) : Prop := Lib.TabIs Tryz.prog w "internal/strconv.uint64pow10" .u64 Lib.pow10Tab
theorem gX10 : Tryz.prog.globalNamed "internal/strconv.uint64pow10" = some 3 := by kernel_rfl
theorem X10_stay {w w' : World} (h : X10 w) (hb : w'.heap[3]? = w.heap[3]?) : X10 w' := by
 have h : w.var? Tryz.prog "internal/strconv.uint64pow10" = _ := h
 show w'.var? Tryz.prog "internal/strconv.uint64pow10" = _
 rw [← h]
 unfold World.var?
 rw [gX10]
 simp only [Option.bind_some, hb]
theorem X10_lt {w : World} (h : X10 w) : 3 < w.heap.size := by
 have h : w.var? Tryz.prog "internal/strconv.uint64pow10" = _ := h
 unfold World.var? at h
 rw [gX10] at h
 simp only [Option.bind_some] at h
 cases e : w.heap[3]? with
 | none => rw [e] at h; cases h
 | some o => exact (Array.getElem?_eq_some_iff.1 e).1
theorem gXS : Tryz.prog.globalNamed "strconv.ErrSyntax" = some 1 := by kernel_rfl
theorem gXR : Tryz.prog.globalNamed "strconv.ErrRange" = some 2 := by kernel_rfl
def isErr (w : World) (n : String) : Prop := ∃ tp p, w.var? Tryz.prog n = some #[.iface tp p]
theorem isErr_stay {w w' : World} {n : String} {g : Nat} (hg : Tryz.prog.globalNamed n = some g) (h : isErr w n) (hb : w'.heap[g]? = w.heap[g]?) : isErr w' n := by obtain ⟨tp, p, h⟩ := h; refine ⟨tp, p, ?_⟩; rw [← h]; unfold World.var?; rw [hg]; simp only [Option.bind_some, hb]
theorem isErr_lt {w : World} {n : String} {g : Nat} (hg : Tryz.prog.globalNamed n = some g) (h : isErr w n) : g < w.heap.size := by obtain ⟨tp, p, h⟩ := h; unfold World.var? at h; rw [hg] at h; simp only [Option.bind_some] at h; cases e : w.heap[g]? with | none => (rw [e] at h; cases h) | some o => exact (Array.getElem?_eq_some_iff.1 e).1
def XE (ok : Nat → Prop) (w : World) : Prop := (isErr w "strconv.ErrSyntax" ∧ ok 1) ∧ isErr w "strconv.ErrRange" ∧ ok 2
def XX (ok : Nat → Prop) (w : World) : Prop := X10 w ∧ ok 3 ∧ XE ok w
def kd (l : List UInt8) (n : Int) (b : Bool) : PV := .agg [.str l, .int .i64 n, .bool b]
def kindsL : List PV := [kd [] 0 false, kd [100] 0 true, kd [97] 0 true, kd [112] (-1) false, kd [101] 2 false, kd [109] 2 false, kd [104] 1 false, kd [107] 1 true, kd [117] 1 false, kd [115] 2 false, kd [120] 2 false]
noncomputable def cx (b : Bool) : Cx := { P := Tryz.prog, T := T, tab := fun g => cond b (cond (Nat.beq g 0) (some kindsL) none) none, X := XX }
theorem cx_ok (b : Bool) : CxOk (cx b) :=
 ⟨T_ok, fun ok ok' w w' h hok hs hlt => ⟨X10_stay h.1 (hs _ h.2.1 (hlt _ h.2.1)), hok _ h.2.1, ⟨isErr_stay gXS h.2.2.1.1 (hs _ h.2.2.1.2 (hlt _ h.2.2.1.2)), hok _ h.2.2.1.2⟩, isErr_stay gXR h.2.2.2.1 (hs _ h.2.2.2.2 (hlt _ h.2.2.2.2)), hok _ h.2.2.2.2⟩⟩
theorem mixed (b : Bool) : (cx b).P.follows .mixedOrders = true := by kernel_rfl
mutual
def tmv : Tm → PV
 | .mk k n l => .agg [.int .i64 k, .str n, .lst (tmvs l)]
def tmvs : List Tm → List PV
 | [] => []
 | t :: ts => tmv t :: tmvs ts
end
def TV (t : Tm) : PV := .agg [.int .i64 t.kind, .str t.name, .lst (tmvs t.kids)]
theorem tmv_TV (t : Tm) : tmv t = TV t := by cases t; rfl
theorem tmvs_eq (l : List Tm) : tmvs l = l.map TV := by
 induction l with
 | nil => rfl
 | cons t l ih => simp [tmvs, ih, tmv_TV]
theorem tmvs_length (l : List Tm) : (tmvs l).length = l.length := by rw [tmvs_eq, List.length_map]
theorem tmvs_get {l : List Tm} {i : Nat} (h : i < l.length) : (tmvs l)[i]? = some (TV l[i]) := by rw [tmvs_eq, List.getElem?_map, List.getElem?_eq_getElem h]; rfl
theorem tmvs_getN {l : List Tm} {i : Nat} (h : i < l.length) : (tmvs l)[((i : Nat) : Int).toNat]? = some (TV l[i]) := tmvs_get h
theorem tmvs_sz (l : List Tm) : allSz (true, 3) (tmvs l) := by
 induction l with
 | nil => trivial
 | cons t l ih => exact ⟨by rw [tmv_TV]; rfl, ih⟩
theorem tmvs_append (l l' : List Tm) : tmvs (l ++ l') = tmvs l ++ tmvs l' := by simp [tmvs_eq]
theorem tmvs1 (a : Tm) : [TV a] = tmvs [a] := (tmvs_eq [a]).symm
theorem tmvs2 (a b : Tm) : [TV a, TV b] = tmvs [a, b] := (tmvs_eq [a, b]).symm
theorem tmvs3 (a b c : Tm) : [TV a, TV b, TV c] = tmvs [a, b, c] := (tmvs_eq [a, b, c]).symm
theorem LE_leaf (k : Int) (n : Bs) : LEP (.agg [.int .i64 k, .str n, .nilS]) (TV (.mk k n [])) := by
 intro ok w v h
 simp only [TV, tmvs, Tm.kind, Tm.name, Tm.kids]
 rw [RP] at h ⊢
 obtain ⟨vs, h1, h2, h3⟩ := h
 refine ⟨vs, h1, h2, ?_⟩
 match vs, h3 with
 | [a, b, c], h3 =>
  refine ⟨h3.1, h3.2.1, ?_, trivial⟩
  have := h3.2.2.1
  rw [RP] at this
  rw [RP, this]
  exact ⟨none, 0, 0, rfl, Nat.le_refl _, by simp [maxLen], trivial⟩
inductive Fit : Tm → Prop where
 | mk {k : Int} {n : Bs} {l : List Tm} : l.length ≤ 9223372036854775807 → n.length ≤ 9223372036854775807 → (∀ t ∈ l, Fit t) → Fit (.mk k n l)
theorem Fit.len {t : Tm} (h : Fit t) : t.kids.length ≤ 9223372036854775807 := by cases h; assumption
theorem Fit.nlen {t : Tm} (h : Fit t) : t.name.length ≤ 9223372036854775807 := by cases h; assumption
theorem Fit.kid {t u : Tm} (h : Fit t) (hu : u ∈ t.kids) : Fit u := by cases h; rename_i h; exact h u hu
theorem Tm.indk {P : Tm → Prop} (h : ∀ t, (∀ u ∈ t.kids, P u) → P t) (t : Tm) : P t := Tm.ind (fun k n l ih => h (.mk k n l) ih) t
end Go.Sl
namespace Go.Sl
open Go Go.Vc Go.Proofs
abbrev K (b : Bool) (f : FuncId) (args : List SV) (r : Res) : Prop := PC (cx b) f (fun _ => .no) args r
abbrev tv (t : Tm) : SV := .p (TV t)
abbrev iv (n : Int) : SV := .p (.int .i64 n)
abbrev sv (s : Bs) : SV := .p (.str s)
abbrev lv (l : List Tm) : SV := .p (.lst (tmvs l))
theorem Tm.eq_iff (t u : Tm) : t = u ↔ t.kind = u.kind ∧ t.name = u.name ∧ t.kids = u.kids := by
 cases t; cases u
 simp [Tm.kind, Tm.name, Tm.kids]
theorem Tm.size_eq (t : Tm) : t.size = Tm.sizes t.kids + 1 := by cases t; rfl
theorem equal_ok (b : Bool) (l m : List Tm) (hl : l.length ≤ 9223372036854775807) (ih : ∀ t ∈ l, ∀ u, K b 130 [tv t, tv u] (.pv (.bool (decide (t = u))))) :
  K b 176 [lv l, lv m, .fn 130 []] (.pv (.bool (decide (l = m)))) := by
 refine PC_of_vc (cx_ok b) (mixed b) {} Tryz.func176 (by kernel_rfl) rfl rfl (by kernel_rfl) ?_
 refine goL ?_
 refine @bool_rec _ _ _ ?_ ?_ <;> intro h1
 ·refine goL ?_
  refine LEP.of ?_
  simp [tmvs_length] at h1
  simp
  intro e
  exact h1 (by rw [e])
 have h3 : l.length = m.length := by simp [tmvs_length] at h1; omega
 refine goL ?_
 refine ⟨{ i : Rd l.length // l.take i.1 = m.take i.1 }, fun i => S.of [(1, lv m), (2, .fn 130 []), (15, lv l), (16, iv ((tmvs l).length : Int)), (17, iv (i.1.1 : Int))] [], fun i => l.length - i.1.1, ⟨Rd.zero _, rfl⟩, ?_, ?_⟩
 ·exact Ge.go
 rintro ⟨⟨i, hi⟩, htake⟩
 refine goL ?_
 refine @bool_rec _ _ _ ?_ ?_ <;> intro h4
 ·have hlt : i < l.length := by simpa [tmvs_length] using h4
  have hlt' : i < m.length := h3 ▸ hlt
  refine goL ?_
  refine ⟨Int.natCast_nonneg _, TV l[i], tmvs_getN hlt, rfl, rfl, ?_⟩
  refine goL ?_
  refine ⟨Int.natCast_nonneg _, TV m[i], tmvs_getN hlt', rfl, rfl, ?_⟩
  refine goL ?_
  refine ⟨_, CallVC.pr (ih l[i] (List.getElem_mem hlt) m[i]) rfl rfl, ?_⟩
  refine goL ?_
  refine @bool_rec _ _ _ ?_ ?_ <;> intro h5
  ·refine goL ?_
   refine LEP.of ?_
   simp at h5
   simp
   intro e
   exact h5 (by simp [e])
  ·have h5 : l[i] = m[i] := by simpa using h5
   refine goL ?_
   refine ⟨_, wrap64 (by show _ ≤ ((i : Nat) : Int) + 1; omega) (by show ((i : Nat) : Int) + 1 ≤ _; omega), ?_⟩
   refine goL ?_
   refine ⟨⟨⟨i + 1, hlt⟩, ?_⟩, ?_, ?_⟩
   ·show l.take (i + 1) = m.take (i + 1)
    rw [List.take_succ_eq_append_getElem hlt, List.take_succ_eq_append_getElem hlt', h5, htake]
   ·exact Ge.go
   ·show l.length - (i + 1) < l.length - i
    omega
 ·have hge : i = l.length := by simp [tmvs_length] at h4; omega
  refine goL ?_
  refine LEP.of ?_
  have : l = m := by
   have ht : l.take i = m.take i := htake
   rwa [List.take_of_length_le (by omega), List.take_of_length_le (by omega)] at ht
  simp [this]
theorem same_ok (b : Bool) : ∀ t, Fit t → ∀ u, K b 130 [tv t, tv u] (.pv (.bool (decide (t = u)))) := by
 intro t
 induction t using Tm.indk with
 | h t ih =>
 intro hf u
 have hres : decide (t = u) = (decide (t.kind = u.kind) && (decide (t.name = u.name) && decide (t.kids = u.kids))) := by
  rw [Bool.eq_iff_iff]
  simp only [decide_eq_true_eq, Bool.and_eq_true]
  exact Tm.eq_iff t u
 rw [hres]
 refine PC_of_vc (cx_ok b) (mixed b) {} Tryz.func130 (by kernel_rfl) rfl rfl (by kernel_rfl) ?_
 refine goL ?_
 refine @bool_rec _ _ _ ?_ ?_ <;> intro h1
 ·have h1 : t.kind = u.kind := by simpa using h1
  refine goL ?_
  refine @bool_rec _ _ _ ?_ ?_ <;> intro h2
  ·have h2 : t.name = u.name := by simpa using h2
   refine goL ?_
   refine ⟨_, CallVC.pr (equal_ok b t.kids u.kids hf.len fun x hx y => ih x hx (hf.kid hx) y) rfl rfl, ?_⟩
   refine goL ?_
   refine LEP.of ?_
   simp [h1, h2]
  ·refine goL ?_
   refine LEP.of ?_
   simp at h2
   simp [h2]
 ·refine goL ?_
  refine LEP.of ?_
  simp at h1
  simp [h1]
end Go.Sl
namespace Go.Sl
open Go Go.Vc Go.Proofs
abbrev dataT (s : Bs) : Tm := .mk 1 s []
abbrev atomT (s : Bs) : Tm := .mk 2 s []
abbrev pairT (l : List Tm) : Tm := .mk 3 [] l
abbrev encT (k m : Tm) : Tm := .mk 4 [] [k, m]
abbrev hashT (t : Tm) : Tm := .mk 6 [] [t]
abbrev kdfT (k : Tm) (s : Bs) : Tm := .mk 7 s [k]
theorem mk_eq {L : List PV} {k : Int} {s : Bs} {l : List Tm} (h : L = tmvs l) : PV.agg [.int .i64 k, .str s, .lst L] = TV (.mk k s l) := by rw [h]; rfl
theorem Fit.data (k : Int) {s : Bs} (h : s.length ≤ 9223372036854775807) : Fit (.mk k s []) := .mk (by decide) h (fun t h => by cases h)
theorem Fit.two (k : Int) {s : Bs} {t u : Tm} (h : s.length ≤ 9223372036854775807) (ht : Fit t) (hu : Fit u) : Fit (.mk k s [t, u]) := .mk (by simp) h (fun v hv => by simp at hv; rcases hv with rfl | rfl <;> assumption)
theorem clone_ok (b : Bool) (L : List PV) (l : List Tm) (hL : L = tmvs l) (hl : l.length * 48 ≤ 140737488355328) : K b 152 [.p (.lst L)] (.pv (.lst (tmvs l))) := by
 subst hL
 refine PC_of_vc (cx_ok b) (mixed b) { own := fun t => Nat.beq t 5 } Tryz.func152 (by kernel_rfl) rfl rfl (by kernel_rfl) ?_
 refine goL ?_
 refine ⟨fun h => ?_, ?_⟩
 ·refine goL ?_
  rw [h]
  exact LEP.refl _
 ·refine goL ?_
  refine ⟨tmvs_sz l, ?_⟩
  refine goL ?_
  refine ⟨by rw [tmvs_length]; show (0 + l.length) * 48 ≤ _; omega, ?_⟩
  refine goL ?_
  exact LEP.refl _
theorem made_ok (b : Bool) (k : Int) (s : Bs) (L : List PV) (l : List Tm) (hL : L = tmvs l) (hl : l.length * 48 ≤ 140737488355328) : K b 105 [iv k, sv s, .p (.lst L)] (.pv (TV (.mk k s l))) := by
 refine PC_of_vc (cx_ok b) (mixed b) {} Tryz.func105 (by kernel_rfl) rfl rfl (by kernel_rfl) ?_
 refine goL ?_
 refine ⟨_, CallVC.pr (clone_ok b L l hL hl) rfl rfl, ?_⟩
 refine goL ?_
 exact LEP.refl _
theorem made0_ok (b : Bool) (k : Int) (s : Bs) : K b 105 [iv k, sv s, .p .nilS] (.pv (TV (.mk k s []))) := by
 refine PC_of_vc (cx_ok b) (mixed b) {} Tryz.func105 (by kernel_rfl) rfl rfl (by kernel_rfl) ?_
 refine goL ?_
 refine ⟨_, CallVC.le (clone_ok b [] [] rfl (by decide)) (LEL.cons LE_nil LEL.nil) rfl rfl, ?_⟩
 refine goL ?_
 exact LEP.refl _
theorem data_ok (b : Bool) (s : Bs) : K b 126 [sv s] (.pv (TV (dataT s))) := by
 refine PC_of_vc (cx_ok b) (mixed b) {} Tryz.func126 (by kernel_rfl) rfl rfl (by kernel_rfl) ?_
 refine goL ?_
 refine ⟨_, CallVC.pr (made0_ok b 1 s) rfl rfl, ?_⟩
 refine goL ?_
 exact LEP.refl _
theorem atom_ok (b : Bool) (s : Bs) : K b 49 [sv s] (.pv (TV (atomT s))) := by
 refine PC_of_vc (cx_ok b) (mixed b) {} Tryz.func49 (by kernel_rfl) rfl rfl (by kernel_rfl) ?_
 refine goL ?_
 refine ⟨_, CallVC.pr (made0_ok b 2 s) rfl rfl, ?_⟩
 refine goL ?_
 exact LEP.refl _
theorem pair_ok (b : Bool) (L : List PV) (l : List Tm) (hL : L = tmvs l) (hl : l.length * 48 ≤ 140737488355328) : K b 125 [.p (.lst L)] (.pv (TV (pairT l))) := by
 refine PC_of_vc (cx_ok b) (mixed b) {} Tryz.func125 (by kernel_rfl) rfl rfl (by kernel_rfl) ?_
 refine goL ?_
 refine ⟨_, CallVC.pr (made_ok b 3 [] L l hL hl) rfl rfl, ?_⟩
 refine goL ?_
 exact LEP.refl _
theorem enc_ok (b : Bool) (k m : Tm) : K b 127 [tv k, tv m] (.pv (TV (encT k m))) := by
 refine PC_of_vc (cx_ok b) (mixed b) {} Tryz.func127 (by kernel_rfl) rfl rfl (by kernel_rfl) ?_
 refine goL ?_
 refine ⟨_, CallVC.pr (made_ok b 4 [] _ [k, m] (tmvs2 k m) (by simp)) rfl rfl, ?_⟩
 refine goL ?_
 exact LEP.refl _
theorem hash_ok (b : Bool) (k : Tm) : K b 101 [tv k] (.pv (TV (hashT k))) := by
 refine PC_of_vc (cx_ok b) (mixed b) {} Tryz.func101 (by kernel_rfl) rfl rfl (by kernel_rfl) ?_
 refine goL ?_
 refine ⟨_, CallVC.pr (made_ok b 6 [] _ [k] (tmvs1 k) (by simp)) rfl rfl, ?_⟩
 refine goL ?_
 exact LEP.refl _
theorem kdf_ok (b : Bool) (k : Tm) (s : Bs) : K b 70 [tv k, sv s] (.pv (TV (kdfT k s))) := by
 refine PC_of_vc (cx_ok b) (mixed b) {} Tryz.func70 (by kernel_rfl) rfl rfl (by kernel_rfl) ?_
 refine goL ?_
 refine ⟨_, CallVC.pr (made_ok b 7 s _ [k] (tmvs1 k) (by simp)) rfl rfl, ?_⟩
 refine goL ?_
 exact LEP.refl _
theorem data10_ok (b : Bool) (s : Bs) : K b 73 [sv s] (.pv (TV (dataT s))) := by
 refine PC_of_vc (cx_ok b) (mixed b) {} Tryz.func73 (by kernel_rfl) rfl rfl (by kernel_rfl) ?_
 refine goL ?_
 exact LE_leaf 1 s
theorem atom10_ok (b : Bool) (s : Bs) : K b 28 [sv s] (.pv (TV (atomT s))) := by
 refine PC_of_vc (cx_ok b) (mixed b) {} Tryz.func28 (by kernel_rfl) rfl rfl (by kernel_rfl) ?_
 refine goL ?_
 exact LE_leaf 2 s
theorem enc10_ok (b : Bool) (k m : Tm) : K b 71 [tv k, tv m] (.pv (TV (encT k m))) := by
 refine PC_of_vc (cx_ok b) (mixed b) {} Tryz.func71 (by kernel_rfl) rfl rfl (by kernel_rfl) ?_
 refine goL ?_
 exact LEP.of (mk_eq (tmvs2 k m))
theorem kdf10_ok (b : Bool) (k : Tm) (s : Bs) : K b 123 [tv k, sv s] (.pv (TV (kdfT k s))) := by
 refine PC_of_vc (cx_ok b) (mixed b) {} Tryz.func123 (by kernel_rfl) rfl rfl (by kernel_rfl) ?_
 refine goL ?_
 exact LEP.of (mk_eq (tmvs1 k))
theorem word_ok (b : Bool) (s : Bs) (hs : s.length ≤ 9223372036854775800) : K b 75 [sv s] (.pv (TV (dataT (61 :: s)))) := by
 refine PC_of_vc (cx_ok b) (mixed b) {} Tryz.func75 (by kernel_rfl) rfl rfl (by kernel_rfl) ?_
 refine goL ?_
 refine ⟨by show 1 + s.length ≤ _; omega, ?_⟩
 refine goL ?_
 refine ⟨_, CallVC.pr (data_ok b _) rfl rfl, ?_⟩
 refine goL ?_
 exact LEP.refl _
end Go.Sl
